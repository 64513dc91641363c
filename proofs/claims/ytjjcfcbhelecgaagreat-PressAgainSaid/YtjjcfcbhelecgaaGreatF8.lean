/- Draws. Conditions: those of each lemma. -/
import Derived.Test.YtjjcfcbhelecgaaGreatAbsQ
import Derived.Test.YtjjcfcbhelecgaaGreatAbsList
set_option linter.unusedVariables false
set_option linter.unusedSimpArgs false
namespace Go.Abs
def withD (s k : Int) : Int := xorK .u64 (IntKind.u64.wrap (xorK .u64 s (IntKind.u64.wrap k) * 11400714819323198485)) ((IntKind.u64.wrap (xorK .u64 s (IntKind.u64.wrap k) * 11400714819323198485)).fdiv 536870912)
def endD (s : Int) : Int := xorK .u64 (IntKind.u64.wrap (s * 13787848793156543929)) ((IntKind.u64.wrap (s * 13787848793156543929)).fdiv 4294967296)
theorem u64_bd (n : Int) : 0 ≤ IntKind.u64.wrap n ∧ IntKind.u64.wrap n ≤ 18446744073709551615 := by
  have e : (2 : Int) ^ 64 = 18446744073709551616 := by decide
  simp only [IntKind.wrap, IntKind.bits, IntKind.signed, Bool.false_and, e, Bool.false_eq_true, if_false]
  omega
theorem endD_bd (s : Int) : 0 ≤ endD s ∧ endD s ≤ 18446744073709551615 := u64_bd _
@[simp] theorem with_eq (s k : Int) : pure1 (C Q) 212 [.int .u64 s, .int .i64 k] = some (.int .u64 (withD s k)) := by
  refine P_run c212 0 (by kernel_rfl) (by kernel_rfl) rfl ?_
  simp [c212, withD]
@[simp] theorem end_eq (s : Int) : pure1 (C Q) 213 [.int .u64 s] = some (.int .u64 (endD s)) := by
  refine P_run c213 0 (by kernel_rfl) (by kernel_rfl) rfl ?_
  simp [c213, endD]
def overD (s : Int) (l : List Int) : Int := l.foldl withD s
theorem overD_succ (s : Int) (l : List Int) (i : Nat) (h : i < l.length) : overD s (l.take (i + 1)) = withD (overD s (l.take i)) l[i] := by
  rw [overD, List.take_succ_eq_append_getElem h, List.foldl_append]; rfl
theorem over_eq (s : Int) (l : List Int) (full : Bool) (hb : l.length ≤ 9223372036854775807) : pure1 (C Q) 211 [.int .u64 s, .lst (nums .i64 l) full] = some (.int .u64 (overD s l)) := by
  refine P_run c211 (l.length + 1) (by kernel_rfl) (by kernel_rfl) rfl ?_
  simp -implicitDefEqProofs (disch := omega) [c211]
  refine R_loop (fun i => [(5, .int .u64 (overD s (l.take i))), (9, .lst (nums .i64 l) full), (10, .int .i64 l.length), (11, .int .i64 i)]) (fun i => []) l.length (by omega) (by simp [overD]) rfl ?_ ?_
  · intro i hi
    have h1 : l[i]? = some l[i] := by simp [hi]
    rw [overD_succ s l i hi]
    simp -implicitDefEqProofs (disch := omega) [*]
  · simp -implicitDefEqProofs (disch := omega) [*]
/-- A draw. -/
def atD (s : Int) (l : List Int) : Int := endD (overD s l)
theorem atD_snoc (s : Int) (l : List Int) (i : Int) : atD s (l ++ [i]) = endD (withD (overD s l) i) := by
  simp [atD, overD, List.foldl_append]
theorem at8_eq (s : Int) (l : List Int) (full : Bool) (hb : l.length ≤ 9223372036854775807) : pure1 (C Q) 252 [.int .u64 s, .lst (nums .i64 l) full] = some (.int .u64 (atD s l)) := by
  refine P_run c252 (l.length + 1) (by kernel_rfl) (by kernel_rfl) rfl ?_
  simp -implicitDefEqProofs (disch := omega) [c252]
  refine R_loop (fun i => [(5, .int .u64 (overD s (l.take i))), (9, .lst (nums .i64 l) full), (10, .int .i64 l.length), (11, .int .i64 i)]) (fun i => []) l.length (by omega) (by simp [overD]) rfl ?_ ?_
  · intro i hi
    have h1 : l[i]? = some l[i] := by simp [hi]
    rw [overD_succ s l i hi]
    simp -implicitDefEqProofs (disch := omega) [*, withD]
  · simp -implicitDefEqProofs (disch := omega) [*, atD, endD]
theorem below8_eq (m s : Int) (l : List Int) (full : Bool) (hb : l.length ≤ 9223372036854775807) (hm : 0 < m) : pure1 (C Q) 214 [.int .u64 m, .int .u64 s, .lst (nums .i64 l) full] = some (.tuple [.int .u64 (atD s l % m), .int .i64 0]) := by
  have h1 := at8_eq s l full hb
  have h2 : 0 ≤ atD s l := (endD_bd _).1
  have h3 : ¬ m = 0 := by omega
  refine P_run c214 0 (by kernel_rfl) (by kernel_rfl) rfl ?_
  simp -implicitDefEqProofs (disch := omega) [c214, h1, h3]
/-- 0, 1, .. up to i, then zeros. -/
def iota (n i : Nat) : List Int := (List.range n).map fun j => if j < i then (j : Int) else 0
@[simp] theorem iota_length (n i : Nat) : (iota n i).length = n := by simp [iota]
theorem iota_zero (n : Nat) : iota n 0 = List.replicate n 0 := by
  apply List.ext_getElem <;> simp [iota]
theorem iota_set (n i : Nat) (h : i < n) : (iota n i).set i (i : Int) = iota n (i + 1) := by
  apply List.ext_getElem
  · simp
  · intro j h1 h2
    simp only [iota, List.getElem_set, List.getElem_map, List.getElem_range]
    by_cases hj : i = j
    · subst hj; simp
    · rw [if_neg hj]
      by_cases h3 : j < i
      · rw [if_pos h3, if_pos (by omega)]
      · rw [if_neg h3, if_neg (by omega)]
theorem iota_get (n i : Nat) (h : i < n) : (iota n i)[i]? = some 0 := by
  simp [iota, h]
/-- Two places change places. -/
def swapL (l : List Int) (i k : Nat) : List Int := (l.set i (l[k]?.getD 0)).set k (l[i]?.getD 0)
@[simp] theorem swapL_length (l : List Int) (i k : Nat) : (swapL l i k).length = l.length := by simp [swapL]
/-- The place that is drawn for place i. -/
def drawK (st : Int) (i : Nat) : Nat := (endD (withD st i) % ((i : Int) + 1)).toNat
theorem drawK_lt (st : Int) (i : Nat) : drawK st i ≤ i := by
  have := (endD_bd (withD st i)).1
  have h1 := Int.emod_nonneg (endD (withD st i)) (b := (i : Int) + 1) (by omega)
  have h2 := Int.emod_lt_of_pos (endD (withD st i)) (b := (i : Int) + 1) (by omega)
  unfold drawK; omega
theorem drawK_cast (st : Int) (i : Nat) : endD (withD st i) % ((i : Int) + 1) = (drawK st i : Int) := by
  have h1 := Int.emod_nonneg (endD (withD st i)) (b := (i : Int) + 1) (by omega)
  unfold drawK; omega
/-- The order behind j changes. -/
def shuf (n : Nat) (st : Int) : Nat → List Int
  | 0 => iota n n
  | j + 1 => swapL (shuf n st j) (n - 1 - j) (drawK st (n - 1 - j))
@[simp] theorem shuf_length (n : Nat) (st : Int) : ∀ j, (shuf n st j).length = n
  | 0 => by simp [shuf]
  | j + 1 => by simp [shuf, shuf_length n st j]
def orderD (n : Nat) (s : Int) (l : List Int) : List Int := shuf n (overD s l) (n - 1)
def orderA (many s : Int) (l : List Int) : AV :=
  if many < 0 then .tuple [.lst [] true, .int .i64 1] else if 4096 < many then .tuple [.lst [] true, .int .i64 3] else .tuple [.own (nums .i64 (orderD many.toNat s l)), .int .i64 0]
theorem order_eq (many s : Int) (l : List Int) (full : Bool) (hb : l.length ≤ 9223372036854775807) : pure1 (C Q) 156 [.int .i64 many, .int .u64 s, .lst (nums .i64 l) full] = some (orderA many s l) := by
  by_cases h0 : many < 0
  · refine P_run c156 0 (by kernel_rfl) (by kernel_rfl) rfl ?_
    simp -implicitDefEqProofs (disch := omega) [c156, h0, orderA]
  · by_cases h1 : 4096 < many
    · refine P_run c156 0 (by kernel_rfl) (by kernel_rfl) rfl ?_
      simp -implicitDefEqProofs (disch := omega) [c156, h0, h1, orderA]
    · obtain ⟨n, rfl⟩ : ∃ n : Nat, many = n := ⟨many.toNat, by omega⟩
      have hn : n ≤ 4096 := by omega
      have ho := over_eq s l full hb
      have hA : orderA n s l = .tuple [.own (nums .i64 (orderD n s l)), .int .i64 0] := by simp [orderA, h0, h1]
      rw [hA]
      refine P_run c156 (n + 1) (by kernel_rfl) (by kernel_rfl) rfl ?_
      simp -implicitDefEqProofs (disch := omega) [c156, h0, h1]
      refine R_loop (fun i => [(0, .int .i64 n), (1, .int .u64 s), (2, .lst (nums .i64 l) full), (8, .sl 0 0 0 n), (22, .int .i64 n), (23, .int .i64 i)]) (fun i => [⟨0, false, .cells 1 (nums .i64 (iota n i))⟩]) n (by omega) (by simp) (by simp [iota_zero]) ?_ ?_
      · intro i hi
        have h2 := iota_get n i hi
        have h3 := iota_set n i hi
        simp -implicitDefEqProofs (disch := omega) [*]
      · simp -implicitDefEqProofs (disch := omega) [*]
        refine R_loop (fun j => [(8, .sl 0 0 0 n), (10, .int .u64 (overD s l)), (11, .int .i64 ((n : Int) - 1 - j))]) (fun j => [⟨0, false, .cells 1 (nums .i64 (shuf n (overD s l) j))⟩]) (n - 1) (by omega) (by simp) (by simp [shuf]) ?_ ?_
        · intro j hj
          obtain ⟨i, hi⟩ : ∃ i : Nat, (n : Int) - 1 - j = i := ⟨n - 1 - j, by omega⟩
          have hi2 : n - 1 - j = i := by omega
          have hi0 : 0 < (i : Int) := by omega
          have hin : i < n := by omega
          have hk := drawK_lt (overD s l) i
          have hkc := drawK_cast (overD s l) i
          have hkn : drawK (overD s l) i < n := by omega
          have he := (endD_bd (withD (overD s l) i)).1
          have hl := shuf_length n (overD s l) j
          have hs : shuf n (overD s l) (j + 1) = swapL (shuf n (overD s l) j) i (drawK (overD s l) i) := by simp only [shuf, hi2]
          have e3 : (n : Int) - 1 - ((j + 1 : Nat) : Int) = (i : Int) - 1 := by omega
          rw [hs, hi, e3]
          generalize hL : shuf n (overD s l) j = L at *
          generalize hq : drawK (overD s l) i = q at *
          have hq2 : q < L.length := by omega
          have hi3 : i < L.length := by omega
          have hi0n : 0 < i := by omega
          obtain ⟨z, hz⟩ : ∃ z, (L.set i L[q])[q]? = some z := by
            refine ⟨(L.set i L[q])[q]'(by rw [List.length_set]; exact hq2), ?_⟩
            rw [List.getElem?_eq_getElem]
          simp -implicitDefEqProofs (disch := omega) [*, swapL]
        · have hl := shuf_length n (overD s l) (n - 1)
          have ht : List.take n (shuf n (overD s l) (n - 1)) = shuf n (overD s l) (n - 1) := List.take_of_length_le (by omega)
          obtain ⟨t, ht0, hte⟩ : ∃ t : Int, t ≤ 0 ∧ (n : Int) - 1 - ((n - 1 : Nat) : Int) = t := ⟨_, by omega, rfl⟩
          have ht1 : ¬ 0 < t := by omega
          rw [hte]
          simp -implicitDefEqProofs (disch := omega) [ho, ht, ht1, orderD]
theorem order8_eq (many s : Int) (l : List Int) (full : Bool) (hb : l.length ≤ 1048576) : pure1 (C Q) 157 [.int .i64 many, .int .u64 s, .lst (nums .i64 l) full] = some (orderA many s l) := by
  by_cases h0 : many < 0
  · refine P_run c157 0 (by kernel_rfl) (by kernel_rfl) rfl ?_
    simp -implicitDefEqProofs (disch := omega) [c157, h0, orderA]
  · by_cases h1 : 4096 < many
    · refine P_run c157 0 (by kernel_rfl) (by kernel_rfl) rfl ?_
      simp -implicitDefEqProofs (disch := omega) [c157, h0, h1, orderA]
    · obtain ⟨n, rfl⟩ : ∃ n : Nat, many = n := ⟨many.toNat, by omega⟩
      have hn : n ≤ 4096 := by omega
      have hA : orderA n s l = .tuple [.own (nums .i64 (orderD n s l)), .int .i64 0] := by simp [orderA, h0, h1]
      rw [hA]
      refine WP.eq (P_W c157 (n + 1) (by kernel_rfl) (by kernel_rfl) rfl ?_)
      simp -implicitDefEqProofs (disch := omega) [c157, h0, h1]
      refine W_loop (fun i => [(0, .int .i64 n), (1, .int .u64 s), (2, .lst (nums .i64 l) full), (8, .sl 0 0 0 n), (21, .int .i64 n), (22, .int .i64 i)]) (fun i H => H = [⟨0, false, .cells 1 (nums .i64 (iota n i))⟩]) n (by omega) (by simp) (by simp [iota_zero]) ?_ ?_
      · rintro i hi H rfl
        have h2 := iota_get n i hi
        have h3 := iota_set n i hi
        simp -implicitDefEqProofs (disch := omega) [*]
      · rintro H rfl
        simp -implicitDefEqProofs (disch := omega) [*]
        refine W_loop (fun j => [(1, .int .u64 s), (2, .lst (nums .i64 l) full), (8, .sl 0 0 0 n), (10, .int .i64 ((n : Int) - 1 - j))]) (fun j H => ∃ G, H = [⟨0, false, .cells 1 (nums .i64 (shuf n (overD s l) j))⟩] ++ G) (n - 1) (by omega) (by simp) ⟨[], by simp [shuf]⟩ ?_ ?_
        · rintro j hj H ⟨G, rfl⟩
          obtain ⟨i, hi⟩ : ∃ i : Nat, (n : Int) - 1 - j = i := ⟨n - 1 - j, by omega⟩
          have hi2 : n - 1 - j = i := by omega
          have hi0 : 0 < (i : Int) := by omega
          have hin : i < n := by omega
          have hk := drawK_lt (overD s l) i
          have hkc := drawK_cast (overD s l) i
          have hkn : drawK (overD s l) i < n := by omega
          have hl := shuf_length n (overD s l) j
          have hs : shuf n (overD s l) (j + 1) = swapL (shuf n (overD s l) j) i (drawK (overD s l) i) := by simp only [shuf, hi2]
          have e3 : (n : Int) - 1 - ((j + 1 : Nat) : Int) = (i : Int) - 1 := by omega
          have hbel := below8_eq ((i : Int) + 1) s (l ++ [(i : Int)]) false (by simp; omega) (by omega)
          have hbel2 := below8_eq ((i : Int) + 1) s [(i : Int)] false (by simp) (by omega)
          rw [atD_snoc, hkc] at hbel
          have e4 : atD s [(i : Int)] = endD (withD (overD s []) i) := by have := atD_snoc s [] i; simpa using this
          rw [hs, hi, e3]
          generalize hL : shuf n (overD s l) j = L at *
          have hq2 : drawK (overD s l) i < L.length := by omega
          have hi3 : i < L.length := by omega
          have hi0n : 0 < i := by omega
          have hi1n : (1 : Int) ≤ (i : Int) := by omega
          by_cases hle : l = []
          · subst hle
            rw [e4, hkc, nums_one] at hbel2
            generalize hq : drawK (overD s []) i = q at *
            obtain ⟨z, hz⟩ : ∃ z, (L.set i L[q])[q]? = some z := by
              refine ⟨(L.set i L[q])[q]'(by rw [List.length_set]; exact hq2), ?_⟩
              rw [List.getElem?_eq_getElem]
            simp -implicitDefEqProofs (disch := omega) [*, swapL]
          · generalize hq : drawK (overD s l) i = q at *
            obtain ⟨z, hz⟩ : ∃ z, (L.set i L[q])[q]? = some z := by
              refine ⟨(L.set i L[q])[q]'(by rw [List.length_set]; exact hq2), ?_⟩
              rw [List.getElem?_eq_getElem]
            simp -implicitDefEqProofs (disch := omega) [*, swapL]
        · rintro H ⟨G, rfl⟩
          have hl := shuf_length n (overD s l) (n - 1)
          have ht : List.take n (shuf n (overD s l) (n - 1)) = shuf n (overD s l) (n - 1) := List.take_of_length_le (by omega)
          obtain ⟨t, ht0, hte⟩ : ∃ t : Int, t ≤ 0 ∧ (n : Int) - 1 - ((n - 1 : Nat) : Int) = t := ⟨_, by omega, rfl⟩
          have ht1 : ¬ 1 ≤ t := by omega
          rw [hte]
          simp -implicitDefEqProofs (disch := omega) [ht, ht1, orderD]
end Go.Abs
