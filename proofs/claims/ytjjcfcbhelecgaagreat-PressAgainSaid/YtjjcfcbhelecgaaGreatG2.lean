/- Texts F18, F19, F20, F21, F22, F23 as one. Conditions: those of each lemma. -/
import Derived.Test.YtjjcfcbhelecgaaGreatG1
/- topk.Pick: the walk. Conditions: those of each lemma. -/
set_option linter.unusedVariables false
set_option linter.unusedSimpArgs false
namespace Go.Abs
theorem sort_C (l : List Int) (H G : Heap) (v : Nat) (hb : l.length ≤ 1000000) : C Q 126 [.sl H.length v 0 l.length] (H ++ ⟨v, false, .cells 1 (nums .i64 l)⟩ :: G) = some (.tuple [], H ++ ⟨v, false, .cells 1 (nums .i64 (isortI l))⟩ :: G) := by
  refine C_prim (p := sortPrim) (by kernel_rfl) ?_
  have e : ints64 (nums .i64 l) = some l := ints64_map l
  have hl : l.length < 1099511627776 := by omega
  simp [sortPrim, e, hl]
  rfl
/-- A slice that is given back: none, or the call's own. -/
def ownS (l : List Int) : AV := if l = [] then .lst [] false else .own (nums .i64 l)
def bx (p s : Int) : Blk := ⟨0, false, .cells 2 [[.int .i64 p, .int .u64 s]]⟩
theorem pick_9 (k : Int) (v : List Int) (f : Bool) (hb : v.length ≤ 4096) (h64 : In64 v) (h0 : 0 ≤ k) (hk : k ≤ v.length) :
    ∃ l, IsPick k.toNat v l ∧ pure1 (C Q) 54 [.int .i64 k, .lst (nums .i64 v) f] = some (.tuple [ownS l, .int .i64 0]) := by
  suffices h : WP (pure1 (C Q) 54 [.int .i64 k, .lst (nums .i64 v) f]) (fun r => ∃ l, IsPick k.toNat v l ∧ r = .tuple [ownS l, .int .i64 0]) by
    obtain ⟨r, h1, l, h2, h3⟩ := h
    exact ⟨l, h2, by rw [h1, h3]⟩
  refine P_W c54 (v.length + 1) (by kernel_rfl) (by kernel_rfl) rfl ?_
  have c1 : ¬ (4096 : Int) < v.length := by omega
  have c2 : ¬ k < 0 := by omega
  have c3 : ¬ (v.length : Int) < k := by omega
  have ho := ones_eq v f (by omega) h64
  have c4 : ¬ 4096 < v.length := by omega
  simp -implicitDefEqProofs (disch := omega) [c54, c1, c2, c3, c4, ho]
  refine W_loop (fun i => [(0, .int .i64 k), (6, .ptr 1 0 0 0), (26, .lst (prs (onesL v)) false), (27, .int .i64 v.length), (28, .int .i64 i)]) (fun i H => ∃ L w m G, H = hf L w m G ∧ PickInv k.toNat (onesL v) i L m) v.length (by omega) (by simp)
    ⟨[], 0, 0, [], rfl, by simp, by simp, by simp, fun t h h' => by omega, [], by simp, fun r h => by cases h⟩ ?_ ?_
  · rintro i hi H ⟨L, w, m, G, rfl, hinv⟩
    have hi' : i < (onesL v).length := by simpa using hi
    have h1 := onesL_get v i hi
    have h1' : (onesL v)[i] = ((i : Int), sz v[i]) := by simp [onesL]
    have hmL := hinv.1
    have hLi := hinv.2.1
    have hmk := hinv.2.2.1
    obtain ⟨⟨a, H1⟩, p1, p2, L1, p3, p4, p5⟩ := heapPush_C L w m (G ++ [bx i (sz v[i])]) i (sz v[i]) hmL (by omega) hinv.2.2.2.1
    simp only at p2 p3
    subst p2 p3
    have hl1 : L1.length = m + 1 := by rw [p4.length_eq]; simp; omega
    have hmL1 : m + 1 ≤ L1.length := by omega
    have ht1 : L1.take (m + 1) = L1 := List.take_of_length_le (by omega)
    simp only [hf, bx] at p1 ⊢
    by_cases hc : k < (m : Int) + 1
    · have hmk' : m = k.toNat := by omega
      obtain ⟨⟨a, H2⟩, q1, L2, q2, q3, q4, q5⟩ := heapPop_C L1 (w + 1) m (G ++ [bx i (sz v[i])]) hl1 (by omega) p5
      simp only at q2
      subst q2
      simp only [hf, bx] at q1
      refine WP.mono (p := fun r => r = ([(0, .int .i64 k), (6, .ptr 1 0 0 0), (26, .lst (prs (onesL v)) false), (27, .int .i64 v.length), (28, .int .i64 ((i + 1 : Nat) : Int))], hf L2 (w + 1) m (G ++ [bx i (sz v[i])]))) ?_ (by
        rintro _ rfl
        exact ⟨rfl, L2, w + 1, m, _, rfl, hinv.drop hi' (h1' ▸ p4) p5 hmk' q3 q4 q5⟩)
      simp -implicitDefEqProofs (disch := omega) [hf, bx, h1, h1', hi, p1, q1, hc, hmL1, ht1, hl1]
    · refine WP.mono (p := fun r => r = ([(0, .int .i64 k), (6, .ptr 1 0 0 0), (26, .lst (prs (onesL v)) false), (27, .int .i64 v.length), (28, .int .i64 ((i + 1 : Nat) : Int))], hf L1 (w + 1) (m + 1) (G ++ [bx i (sz v[i])]))) ?_ (by
        rintro _ rfl
        exact ⟨rfl, L1, w + 1, m + 1, _, rfl, hinv.keep hi' (h1' ▸ p4) p5 (by omega)⟩)
      simp -implicitDefEqProofs (disch := omega) [hf, bx, h1, h1', hi, p1, hc, hmL1, ht1, hl1]
  · rintro H ⟨L, w, m, G, rfl, hinv⟩
    have hp := hinv.done (by omega)
    have hmL := hinv.1
    have hLi := hinv.2.1
    have hpl := places_eq (L.take m) false (by simp; omega)
    refine WP.mono (p := fun r => r = .tuple [ownS (isortI ((L.take m).map (·.1))), .int .i64 0]) ?_ (by rintro _ rfl; exact ⟨_, hp, rfl⟩)
    simp only [hf]
    generalize hq : (L.take m).map (·.1) = l at hp hpl ⊢
    cases l with
    | nil =>
      have hs : C Q 126 [.lst [] false] (⟨w, false, .cells 2 (prs L)⟩ :: ⟨0, false, .cells 1 [[.sl 0 w 0 m]]⟩ :: G) = some (.tuple [], ⟨w, false, .cells 2 (prs L)⟩ :: ⟨0, false, .cells 1 [[.sl 0 w 0 m]]⟩ :: G) := C_prim (p := sortPrim) (by kernel_rfl) rfl
      simp -implicitDefEqProofs (disch := omega) [hmL, hpl, hs, ownS, isortI]
    | cons x l =>
      have hl : (x :: l).length ≤ 1000000 := by rw [← hq]; simp; omega
      have hs := sort_C (x :: l) (⟨w, false, .cells 2 (prs L)⟩ :: ⟨0, false, .cells 1 [[.sl 0 w 0 m]]⟩ :: G) [] 0 hl
      have hne : isortI (x :: l) ≠ [] := fun e => by have := congrArg List.length e; simp at this
      simp only [List.cons_append, List.length_cons] at hs
      simp only [nums_cons] at hpl hs ⊢
      simp -implicitDefEqProofs (disch := omega) [hmL, hpl, hs, ownS, hne]
      rw [List.take_of_length_le (by simp)]
end Go.Abs

/- Places: rising, in a dimension; gathered, spread. Conditions: those of each lemma. -/
set_option linter.unusedVariables false
set_option linter.unusedSimpArgs false
namespace Go.Abs
theorem getD_some {α : Type} {l : List α} {i : Nat} (z : α) (h : i < l.length) : l[i]? = some (l.getD i z) := by simp [h]
theorem getD_get {l : List Int} {i : Nat} (h : i < l.length) : l.getD i 0 = l[i] := by simp [h]
/-- Do they rise? -/
def risesB (l : List Int) : Bool := !(List.range (l.length - 1)).any (fun i => decide (l.getD (i + 1) 0 ≤ l.getD i 0))
theorem rises_cases (l : List Int) : (risesB l = true ∧ ∀ i, i + 1 < l.length → ¬ l.getD (i + 1) 0 ≤ l.getD i 0) ∨
    ∃ m, m + 1 < l.length ∧ risesB l = false ∧ l.getD (m + 1) 0 ≤ l.getD m 0 ∧ ∀ i, i < m → ¬ l.getD (i + 1) 0 ≤ l.getD i 0 := by
  rcases first_cases (fun i => decide (l.getD (i + 1) 0 ≤ l.getD i 0)) (List.range (l.length - 1)) with ⟨h1, h2⟩ | ⟨m, hm, h1, h2, h3⟩
  · exact .inl ⟨by rw [risesB, h1]; rfl, fun i hi => by
      have := h2 i (by simp; omega)
      simp only [List.getElem_range, decide_eq_false_iff_not] at this
      exact this⟩
  · simp only [List.length_range] at hm
    refine .inr ⟨m, by omega, by rw [risesB, h1]; rfl, ?_, fun i hi => ?_⟩
    · simp only [List.getElem_range, decide_eq_true_eq] at h2
      exact h2
    · have := h3 i hi
      simp only [List.getElem_range, decide_eq_false_iff_not] at this
      exact this
theorem rises_lt {l : List Int} (h : risesB l = true) : ∀ i j, i < j → j < l.length → l.getD i 0 < l.getD j 0 := by
  have h1 : ∀ i, i + 1 < l.length → ¬ l.getD (i + 1) 0 ≤ l.getD i 0 := by
    rcases rises_cases l with ⟨_, h1⟩ | ⟨m, _, h1, _⟩
    · exact h1
    · rw [h] at h1; cases h1
  intro i j hij hj
  induction j with
  | zero => omega
  | succ j ih =>
    have := h1 j hj
    by_cases e : i = j
    · subst e; omega
    · have := ih (by omega) (by omega)
      omega
theorem rises_of {l : List Int} (h : l.Pairwise (· < ·)) : risesB l = true := by
  rcases rises_cases l with ⟨h1, _⟩ | ⟨m, hm, _, h2, _⟩
  · exact h1
  · have := List.pairwise_iff_getElem.1 h m (m + 1) (by omega) hm (by omega)
    have e1 : l.getD m 0 = l[m] := by simp [show m < l.length by omega]
    have e2 : l.getD (m + 1) 0 = l[m + 1] := by simp [hm]
    rw [e1, e2] at h2
    omega
@[simp] theorem rises_eq (l : List Int) (f : Bool) (hb : l.length ≤ 9223372036854775807) : pure1 (C Q) 65 [.lst (nums .i64 l) f] = some (.bool (risesB l)) := by
  refine P_run c65 (l.length + 1) (by kernel_rfl) (by kernel_rfl) rfl ?_
  simp -implicitDefEqProofs (disch := omega) [c65]
  rcases rises_cases l with ⟨h1, h2⟩ | ⟨m, hm, h1, h2, h3⟩
  · rw [h1]
    refine R_loop (fun i => [(0, .lst (nums .i64 l) f), (3, .int .i64 ((i : Int) + 1))]) (fun _ => []) (l.length - 1) (by omega) (by simp) rfl ?_ ?_
    · intro i hi
      have e6 : i + 1 < l.length := by omega
      have e7 : i < l.length := by omega
      have e3 : (i : Int) + 1 < l.length := by omega
      have e4 := h2 i (by omega)
      rw [getD_get e6, getD_get e7] at e4
      have e5 : ((i : Int) + 1).toNat = i + 1 := by omega
      have e8 : (0 : Int) ≤ (i : Int) + 1 := by omega
      simp -implicitDefEqProofs (disch := omega) [e6, e7, e3, e4, e5, e8]
    · have e3 : ¬ ((l.length - 1 : Nat) : Int) + 1 < l.length := by omega
      simp -implicitDefEqProofs (disch := omega) [e3]
  · rw [h1]
    refine R_loop (fun i => [(0, .lst (nums .i64 l) f), (3, .int .i64 ((i : Int) + 1))]) (fun _ => []) m (by omega) (by simp) rfl ?_ ?_
    · intro i hi
      have e6 : i + 1 < l.length := by omega
      have e7 : i < l.length := by omega
      have e3 : (i : Int) + 1 < l.length := by omega
      have e4 := h3 i hi
      rw [getD_get e6, getD_get e7] at e4
      have e5 : ((i : Int) + 1).toNat = i + 1 := by omega
      have e8 : (0 : Int) ≤ (i : Int) + 1 := by omega
      simp -implicitDefEqProofs (disch := omega) [e6, e7, e3, e4, e5, e8]
    · have e7 : m < l.length := by omega
      have e3 : (m : Int) + 1 < l.length := by omega
      have e5 : ((m : Int) + 1).toNat = m + 1 := by omega
      have e8 : (0 : Int) ≤ (m : Int) + 1 := by omega
      rw [getD_get hm, getD_get e7] at h2
      simp -implicitDefEqProofs (disch := omega) [hm, e7, e3, h2, e5, e8]
@[simp] theorem measure_eq (d : Int) : pure1 (C Q) 208 [.int .i64 d] = some (.bool (decide (0 < d) && decide (d ≤ 4096))) := by
  refine P_run c208 0 (by kernel_rfl) (by kernel_rfl) rfl ?_
  by_cases h : 0 < d
  · simp -implicitDefEqProofs [c208, h]
  · simp -implicitDefEqProofs [c208, h]
/-- Places that may be. -/
def idxOk (d : Int) (l : List Int) : Prop := (0 < d ∧ d ≤ 4096) ∧ risesB l = true ∧ (0 < l.length → 0 ≤ l.getD 0 0 ∧ l.getD (l.length - 1) 0 < d)
instance (d : Int) (l : List Int) : Decidable (idxOk d l) := by unfold idxOk; infer_instance
theorem idxOk.at {d : Int} {l : List Int} (h : idxOk d l) (i : Nat) (hi : i < l.length) : 0 ≤ l.getD i 0 ∧ l.getD i 0 < d := by
  obtain ⟨_, h2, h3⟩ := h
  obtain ⟨h4, h5⟩ := h3 (by omega)
  constructor
  · by_cases e : i = 0
    · subst e; exact h4
    · have := rises_lt h2 0 i (by omega) hi; omega
  · by_cases e : i = l.length - 1
    · subst e; exact h5
    · have := rises_lt h2 i (l.length - 1) (by omega) (by omega); omega
theorem idxCheck_eq (d : Int) (l : List Int) (f : Bool) (hb : l.length ≤ 9223372036854775807) : pure1 (C Q) 144 [.int .i64 d, .lst (nums .i64 l) f] = some (.int .i64 (if idxOk d l then 0 else 1)) := by
  refine P_runH c144 0 (by kernel_rfl) (by kernel_rfl) rfl (fun r hr => ?_)
  by_cases h1 : 0 < d ∧ d ≤ 4096
  · obtain ⟨h1, h1'⟩ := h1
    cases h2 : risesB l with
    | false =>
      simp -implicitDefEqProofs (disch := omega) [c144, h1, h1', h2]
      have hr' := hr.out; clear hr; subst hr'
      simp [idxOk, h2]
    | true =>
      by_cases h3 : 0 < l.length
      · have h3' : (0 : Int) < l.length := by omega
        have e1 : l[0]? = some (l.getD 0 0) := getD_some 0 h3
        have e2 : l[l.length - 1]? = some (l.getD (l.length - 1) 0) := getD_some 0 (by omega)
        have g1 : l[0] = l.getD 0 0 := (getD_get h3).symm
        have g2 : l[l.length - 1]'(by omega) = l.getD (l.length - 1) 0 := (getD_get (by omega)).symm
        have h3n : ¬ l.length = 0 := by omega
        have h3e : l ≠ [] := fun e => by rw [e] at h3; simp at h3
        have h3l : l.length - 1 < l.length := by omega
        have e8 : (1 : Int) ≤ (l.length : Int) := by omega
        have e3 : ((l.length : Int) - 1).toNat = l.length - 1 := by omega
        by_cases h4 : l.getD 0 0 < 0
        · generalize hx : l.getD 0 0 = x at *
          simp -implicitDefEqProofs (disch := omega) [c144, h1, h1', h2, h3, h3', h3n, h3e, h3l, e8, g1, h4]
          have hr' := hr.out; clear hr; subst hr'
          have : ¬ idxOk d l := fun h => by have := (h.2.2 h3).1; omega
          simp [this]
        · by_cases h5 : d ≤ l.getD (l.length - 1) 0
          · have : ¬ idxOk d l := fun h => by have := (h.2.2 h3).2; omega
            generalize hx : l.getD 0 0 = x at *
            generalize hy : l.getD (l.length - 1) 0 = y at *
            simp -implicitDefEqProofs (disch := omega) [c144, h1, h1', h2, h3, h3', h3n, h3e, h3l, e8, g1, g2, e3, h4, h5]
            have hr' := hr.out; clear hr; subst hr'
            simp [this]
          · have : idxOk d l := ⟨⟨h1, h1'⟩, h2, fun _ => ⟨by omega, by omega⟩⟩
            generalize hx : l.getD 0 0 = x at *
            generalize hy : l.getD (l.length - 1) 0 = y at *
            simp -implicitDefEqProofs (disch := omega) [c144, h1, h1', h2, h3, h3', h3n, h3e, h3l, e8, g1, g2, e3, h4, h5]
            have hr' := hr.out; clear hr; subst hr'
            simp [this]
      · have h3z : l.length = 0 := by omega
        have : idxOk d l := ⟨⟨h1, h1'⟩, h2, fun h => absurd h h3⟩
        simp -implicitDefEqProofs (disch := omega) [c144, h1, h1', h2, h3z]
        have hr' := hr.out; clear hr; subst hr'
        simp [this]
  · have : ¬ idxOk d l := fun h => h1 h.1
    by_cases h2 : 0 < d
    · have h3 : ¬ d ≤ 4096 := fun h => h1 ⟨h2, h⟩
      simp -implicitDefEqProofs (disch := omega) [c144, h2, h3]
      have hr' := hr.out; clear hr; subst hr'
      simp [this]
    · simp -implicitDefEqProofs (disch := omega) [c144, h2]
      have hr' := hr.out; clear hr; subst hr'
      simp [this]
end Go.Abs

/- Numbers gathered from places, and spread to them. Conditions: those of each lemma. -/
set_option linter.unusedVariables false
set_option linter.unusedSimpArgs false
namespace Go.Abs
/-- The numbers at places. -/
def gath (l v : List Int) : List Int := l.map fun p => v.getD p.toNat 0
@[simp] theorem gath_length (l v : List Int) : (gath l v).length = l.length := by simp [gath]
def pFar (n : Nat) : Row → Bool
  | [.int _ x] => decide (x < 0) || decide ((n : Int) ≤ x)
  | _ => false
theorem clo67 (v : List Int) (f : Bool) (x : Int) : Clo [⟨0, false, .cells 1 [[.lst (nums .i64 v) f]]⟩] 67 [.int .i64 x, .ptr 0 0 0 0] (.bool (decide (x < 0) || decide ((v.length : Int) ≤ x))) := by
  refine clo_of fun G => ?_
  simp
  refine C_W c67 0 (by kernel_rfl) (by kernel_rfl) rfl ?_
  by_cases h : x < 0
  · simp [c67, h]
  · simp [c67, h]
theorem gather_eq (l v : List Int) (f g : Bool) (hb : l.length ≤ 1000000) (hr : risesB l = true) (hin : ∀ p ∈ l, 0 ≤ p ∧ p < (v.length : Int)) :
    pure1 (C Q) 22 [.lst (nums .i64 l) f, .lst (nums .i64 v) g] = some (.tuple [.own (nums .i64 (gath l v)), .int .i64 0]) := by
  have hc := contains_int [⟨0, false, .cells 1 [[.lst (nums .i64 v) g]]⟩] (nums .i64 l) f 67 [.ptr 0 0 0 0] (pFar v.length) (by intro H; rfl) (by simp; omega) (fun r hr => by obtain ⟨x, _, rfl⟩ := List.mem_map.1 hr; rfl)
    (fun r hr => by obtain ⟨x, _, rfl⟩ := List.mem_map.1 hr; exact clo67 v g x) [⟨0, false, .cells 1 [[.lst (nums .i64 v) g]]⟩] ⟨[], rfl⟩
  have hany : (nums .i64 l).any (pFar v.length) = false := by
    rw [List.any_eq_false]
    intro r hr
    obtain ⟨x, hx, rfl⟩ := List.mem_map.1 hr
    have := hin x hx
    simp only [pFar, Bool.or_eq_true, decide_eq_true_eq]; omega
  rw [hany] at hc
  obtain ⟨⟨a, H'⟩, h1, h2, G', h3⟩ := hc
  simp only at h2 h3
  subst h2 h3
  refine WP.eq (P_W c22 (l.length + 1) (by kernel_rfl) (by kernel_rfl) rfl ?_)
  simp only [List.cons_append, List.nil_append] at h1
  have hb2 : l.length ≤ 9223372036854775807 := by omega
  simp -implicitDefEqProofs (disch := omega) [c22, hr, h1]
  refine W_loop (fun i => [(3, .ptr 0 0 0 0), (6, .sl (G'.length + 1) i 0 i), (20, .lst (nums .i64 l) f), (21, .int .i64 l.length), (22, .int .i64 i)]) (fun i H => H = ⟨0, false, .cells 1 [[.lst (nums .i64 v) g]]⟩ :: (G' ++ [⟨i, false, .cells 1 (nums .i64 ((gath l v).take i))⟩])) l.length (by omega) (by simp) (by simp) ?_ ?_
  · rintro i hi H rfl
    have e1 : l[i]? = some l[i] := by simp [hi]
    have e2 := hin l[i] (List.getElem_mem hi)
    have e3 : (l[i]).toNat < v.length := by omega
    have e4 : (gath l v).take i ++ [v[(l[i]).toNat]] = (gath l v).take (i + 1) := by
      rw [List.take_add_one]; simp [gath, hi, e3]
    have e5 : List.take i ((gath l v).take i) = (gath l v).take i := by rw [List.take_take, Nat.min_self]
    have e6 : ((gath l v).take i).length = i := by simp; omega
    simp -implicitDefEqProofs (disch := omega) [e1, hi, e2, e3, e4, e5, e6]
  · rintro H rfl
    simp -implicitDefEqProofs (disch := omega)
    rw [List.take_of_length_le (by simp), List.take_of_length_le (by simp)]
/-- Numbers put at places, the first i of them. -/
def spr (d : Nat) (l w : List Int) : Nat → List Int
  | 0 => List.replicate d 0
  | i + 1 => (spr d l w i).set (l.getD i 0).toNat (w.getD i 0)
@[simp] theorem spr_length (d : Nat) (l w : List Int) : ∀ i, (spr d l w i).length = d
  | 0 => by simp [spr]
  | i + 1 => by simp [spr, spr_length d l w i]
theorem spread_eq (d : Int) (l w : List Int) (f g : Bool) (hb : l.length ≤ 1000000) (hw : w.length ≤ 1000000) :
    pure1 (C Q) 107 [.int .i64 d, .lst (nums .i64 l) f, .lst (nums .i64 w) g] = some (if ¬ idxOk d l then .tuple [.lst [] true, .int .i64 1] else if l.length ≠ w.length then .tuple [.lst [] true, .int .i64 4] else .tuple [.own (nums .i64 (spr d.toNat l w l.length)), .int .i64 0]) := by
  have hc := idxCheck_eq d l f (by omega)
  refine P_runH c107 (l.length + 1) (by kernel_rfl) (by kernel_rfl) rfl (fun r hr => ?_)
  by_cases h1 : idxOk d l
  · by_cases h2 : l.length = w.length
    · have h2' : (l.length : Int) = w.length := by omega
      have hd := h1.1
      have hd0 : 0 ≤ d := by omega
      rw [if_pos h1] at hc
      rw [if_neg (by simpa using h1), if_neg (by simpa using h2)] at hr
      simp -implicitDefEqProofs (disch := omega) [c107, hc, h2, h2', hd0]
      refine R_loop (fun i => [(2, .lst (nums .i64 w) g), (9, .sl 0 0 0 d.toNat), (27, .lst (nums .i64 l) f), (28, .int .i64 w.length), (29, .int .i64 i)]) (fun i => [⟨0, false, .cells 1 (nums .i64 (spr d.toNat l w i))⟩]) l.length (by omega) (by simp) (by simp [spr]) ?_ ?_
      · intro i hi
        have e1 : l[i]? = some l[i] := by simp [hi]
        have hi' : i < w.length := by omega
        have e2 : w[i]? = some w[i] := by simp [hi']
        have e3 := h1.at i hi
        rw [getD_get hi] at e3
        have e4 : (l[i]).toNat < d.toNat := by omega
        have e5 : (spr d.toNat l w i).set (l[i]).toNat w[i] = spr d.toNat l w (i + 1) := by
          simp only [spr]; rw [getD_get hi, getD_get hi']
        have e6 : (l[i]).toNat < (spr d.toNat l w i).length := by simp; omega
        simp -implicitDefEqProofs (disch := omega) [e1, e2, hi, hi', e3, e4, e5, e6]
      · have hr' := hr.out; clear hr; subst hr'
        simp -implicitDefEqProofs (disch := omega) [h2]
        rw [List.take_of_length_le (by simp)]
    · have h2' : ¬ (l.length : Int) = w.length := by omega
      simp -implicitDefEqProofs (disch := omega) [c107, hc, h1, h2, h2']
      have hr' := hr.out; clear hr; subst hr'
      simp [h1, h2]
  · simp -implicitDefEqProofs (disch := omega) [c107, hc, h1]
    have hr' := hr.out; clear hr; subst hr'
    simp [h1]
end Go.Abs

/- Slices set beside one another; a vector pressed as all, or as the greatest. Conditions: those of each lemma. -/
set_option linter.unusedVariables false
set_option linter.unusedSimpArgs false
namespace Go.Abs
theorem eqI64_eq (a b : List Int) (f g : Bool) (hb : a.length ≤ 9223372036854775807) : pure1 (C Q) 53 [.lst (nums .i64 a) f, .lst (nums .i64 b) g] = some (.bool (decide (a = b))) := by
  by_cases hl : a.length = b.length
  · by_cases hd : diff a b < a.length
    · have hne := diff_at hl hd
      have hn := diff_ne hl hd
      generalize hm : diff a b = m at *
      have hmb : m < b.length := by omega
      refine P_run c53 (a.length + 1) (by kernel_rfl) (by kernel_rfl) rfl ?_
      simp -implicitDefEqProofs (disch := omega) [c53, hl, hn]
      refine R_loop (fun i => [(0, .lst (nums .i64 a) f), (1, .lst (nums .i64 b) g), (12, .int .i64 b.length), (13, .int .i64 i)]) (fun i => []) m (by omega) (by simp) rfl ?_ ?_
      · intro i hi
        have h1 := diff_before hl (by rw [hm]; exact hi) (by omega) (by omega)
        have h2 : i < a.length := by omega
        have h3 : i < b.length := by omega
        simp -implicitDefEqProofs (disch := omega) [h1, h2, h3]
      · simp -implicitDefEqProofs (disch := omega) [hd, hmb, hne]
    · have he := diff_eq hl hd
      subst he
      refine P_run c53 (a.length + 1) (by kernel_rfl) (by kernel_rfl) rfl ?_
      simp -implicitDefEqProofs (disch := omega) [c53]
      refine R_loop (fun i => [(0, .lst (nums .i64 a) f), (1, .lst (nums .i64 a) g), (12, .int .i64 a.length), (13, .int .i64 i)]) (fun i => []) a.length (by omega) (by simp) rfl ?_ ?_
      · intro i hi
        simp -implicitDefEqProofs (disch := omega) [hi]
      · simp -implicitDefEqProofs (disch := omega)
  · have hn : ¬ a = b := fun h => hl (by rw [h])
    have hl' : ¬ (a.length : Int) = b.length := by omega
    refine P_run c53 0 (by kernel_rfl) (by kernel_rfl) rfl ?_
    simp -implicitDefEqProofs (disch := omega) [c53, hl', hn]
theorem eqInt_eq (a b : List Int) (f g : Bool) (hb : a.length ≤ 9223372036854775807) : pure1 (C Q) 148 [.lst (nums .i64 a) f, .lst (nums .i64 b) g] = some (.bool (decide (a = b))) := by
  by_cases hl : a.length = b.length
  · by_cases hd : diff a b < a.length
    · have hne := diff_at hl hd
      have hn := diff_ne hl hd
      generalize hm : diff a b = m at *
      have hmb : m < b.length := by omega
      refine P_run c148 (a.length + 1) (by kernel_rfl) (by kernel_rfl) rfl ?_
      simp -implicitDefEqProofs (disch := omega) [c148, hl, hn]
      refine R_loop (fun i => [(0, .lst (nums .i64 a) f), (1, .lst (nums .i64 b) g), (12, .int .i64 b.length), (13, .int .i64 i)]) (fun i => []) m (by omega) (by simp) rfl ?_ ?_
      · intro i hi
        have h1 := diff_before hl (by rw [hm]; exact hi) (by omega) (by omega)
        have h2 : i < a.length := by omega
        have h3 : i < b.length := by omega
        simp -implicitDefEqProofs (disch := omega) [h1, h2, h3]
      · simp -implicitDefEqProofs (disch := omega) [hd, hmb, hne]
    · have he := diff_eq hl hd
      subst he
      refine P_run c148 (a.length + 1) (by kernel_rfl) (by kernel_rfl) rfl ?_
      simp -implicitDefEqProofs (disch := omega) [c148]
      refine R_loop (fun i => [(0, .lst (nums .i64 a) f), (1, .lst (nums .i64 a) g), (12, .int .i64 a.length), (13, .int .i64 i)]) (fun i => []) a.length (by omega) (by simp) rfl ?_ ?_
      · intro i hi
        simp -implicitDefEqProofs (disch := omega) [hi]
      · simp -implicitDefEqProofs (disch := omega)
  · have hn : ¬ a = b := fun h => hl (by rw [h])
    have hl' : ¬ (a.length : Int) = b.length := by omega
    refine P_run c148 0 (by kernel_rfl) (by kernel_rfl) rfl ?_
    simp -implicitDefEqProofs (disch := omega) [c148, hl', hn]
theorem eqU64_eq (a b : List Int) (f g : Bool) (hb : a.length ≤ 9223372036854775807) : pure1 (C Q) 149 [.lst (nums .u64 a) f, .lst (nums .u64 b) g] = some (.bool (decide (a = b))) := by
  by_cases hl : a.length = b.length
  · by_cases hd : diff a b < a.length
    · have hne := diff_at hl hd
      have hn := diff_ne hl hd
      generalize hm : diff a b = m at *
      have hmb : m < b.length := by omega
      refine P_run c149 (a.length + 1) (by kernel_rfl) (by kernel_rfl) rfl ?_
      simp -implicitDefEqProofs (disch := omega) [c149, hl, hn]
      refine R_loop (fun i => [(0, .lst (nums .u64 a) f), (1, .lst (nums .u64 b) g), (12, .int .i64 b.length), (13, .int .i64 i)]) (fun i => []) m (by omega) (by simp) rfl ?_ ?_
      · intro i hi
        have h1 := diff_before hl (by rw [hm]; exact hi) (by omega) (by omega)
        have h2 : i < a.length := by omega
        have h3 : i < b.length := by omega
        simp -implicitDefEqProofs (disch := omega) [h1, h2, h3]
      · simp -implicitDefEqProofs (disch := omega) [hd, hmb, hne]
    · have he := diff_eq hl hd
      subst he
      refine P_run c149 (a.length + 1) (by kernel_rfl) (by kernel_rfl) rfl ?_
      simp -implicitDefEqProofs (disch := omega) [c149]
      refine R_loop (fun i => [(0, .lst (nums .u64 a) f), (1, .lst (nums .u64 a) g), (12, .int .i64 a.length), (13, .int .i64 i)]) (fun i => []) a.length (by omega) (by simp) rfl ?_ ?_
      · intro i hi
        simp -implicitDefEqProofs (disch := omega) [hi]
      · simp -implicitDefEqProofs (disch := omega)
  · have hn : ¬ a = b := fun h => hl (by rw [h])
    have hl' : ¬ (a.length : Int) = b.length := by omega
    refine P_run c149 0 (by kernel_rfl) (by kernel_rfl) rfl ?_
    simp -implicitDefEqProofs (disch := omega) [c149, hl', hn]
theorem eqBool_eq (a b : List Bool) (f g : Bool) (hb : a.length ≤ 9223372036854775807) : pure1 (C Q) 150 [.lst (bls a) f, .lst (bls b) g] = some (.bool (decide (a = b))) := by
  by_cases hl : a.length = b.length
  · by_cases hd : diff a b < a.length
    · have hne := diff_at hl hd
      have hn := diff_ne hl hd
      generalize hm : diff a b = m at *
      have hmb : m < b.length := by omega
      refine P_run c150 (a.length + 1) (by kernel_rfl) (by kernel_rfl) rfl ?_
      simp -implicitDefEqProofs (disch := omega) [c150, hl, hn]
      refine R_loop (fun i => [(0, .lst (bls a) f), (1, .lst (bls b) g), (12, .int .i64 b.length), (13, .int .i64 i)]) (fun i => []) m (by omega) (by simp) rfl ?_ ?_
      · intro i hi
        have h1 := diff_before hl (by rw [hm]; exact hi) (by omega) (by omega)
        have h2 : i < a.length := by omega
        have h3 : i < b.length := by omega
        simp -implicitDefEqProofs (disch := omega) [h1, h2, h3]
      · simp -implicitDefEqProofs (disch := omega) [hd, hmb, hne]
    · have he := diff_eq hl hd
      subst he
      refine P_run c150 (a.length + 1) (by kernel_rfl) (by kernel_rfl) rfl ?_
      simp -implicitDefEqProofs (disch := omega) [c150]
      refine R_loop (fun i => [(0, .lst (bls a) f), (1, .lst (bls a) g), (12, .int .i64 a.length), (13, .int .i64 i)]) (fun i => []) a.length (by omega) (by simp) rfl ?_ ?_
      · intro i hi
        simp -implicitDefEqProofs (disch := omega) [hi]
      · simp -implicitDefEqProofs (disch := omega)
  · have hn : ¬ a = b := fun h => hl (by rw [h])
    have hl' : ¬ (a.length : Int) = b.length := by omega
    refine P_run c150 0 (by kernel_rfl) (by kernel_rfl) rfl ?_
    simp -implicitDefEqProofs (disch := omega) [c150, hl', hn]
@[simp] theorem vecCheck_eq (v : List Int) (f : Bool) (hb : v.length ≤ 9223372036854775807) : pure1 (C Q) 51 [.lst (nums .i64 v) f] = some (.int .i64 (if 4096 < v.length then 3 else 0)) := by
  refine P_run c51 0 (by kernel_rfl) (by kernel_rfl) rfl ?_
  by_cases h : 4096 < v.length
  · have h' : (4096 : Int) < v.length := by omega
    simp -implicitDefEqProofs (disch := omega) [c51, h, h']
  · have h' : ¬ (4096 : Int) < v.length := by omega
    simp -implicitDefEqProofs (disch := omega) [c51, h, h']
theorem vecSame_eq (a b : List Int) (f g : Bool) (hb : a.length ≤ 9223372036854775807) : pure1 (C Q) 16 [.lst (nums .i64 a) f, .lst (nums .i64 b) g] = some (.bool (decide (a = b))) := by
  have h := eqI64_eq a b f g hb
  refine P_run c16 0 (by kernel_rfl) (by kernel_rfl) rfl ?_
  simp -implicitDefEqProofs [c16, h]
theorem clone_eq (v : List Int) (f : Bool) (hv : v ≠ []) (hb : v.length ≤ 1000000) : pure1 (C Q) 102 [.lst (nums .i64 v) f] = some (.own (nums .i64 v)) := by
  refine P_run c102 0 (by kernel_rfl) (by kernel_rfl) rfl ?_
  have h : nums .i64 v ≠ [] := by simpa using hv
  simp -implicitDefEqProofs (disch := omega) [c102, isNilO_ne h]
/-- What is sent. -/
def sentA (s d : Int) (l v : AV) (sc w : Int) (lev neg : AV) : AV := .agg [.int .i64 s, .int .i64 d, l, v, .int .i64 sc, .int .i64 w, lev, neg]
theorem dense_eq (how : List AV) (hh : how.length = 3) (v : List Int) (f : Bool) (seed : Int) (n : Rows) (g : Bool) (hv : v ≠ []) (hb : v.length ≤ 1000000) :
    pure1 (C Q) 100 [.agg how, .lst (nums .i64 v) f, .int .u64 seed, .lst n g] = some (.tuple [sentA 0 v.length (.lst [] true) (.lst (nums .i64 v) false) 0 0 (.lst [] true) (.lst [] true), .int .i64 0]) := by
  have h := clone_eq v f hv hb
  refine P_run c100 0 (by kernel_rfl) (by kernel_rfl) rfl ?_
  simp -implicitDefEqProofs (disch := omega) [c100, h, hh, sentA]
theorem denseL_eq (s d : Int) (l : AV) (v : List Int) (f : Bool) (sc w : Int) (lev neg : AV) (hv : v ≠ []) (hb : v.length ≤ 1000000) :
    pure1 (C Q) 101 [sentA s d l (.lst (nums .i64 v) f) sc w lev neg] = some (.tuple [.own (nums .i64 v), .int .i64 0]) := by
  have h := clone_eq v f hv hb
  have hl : 0 < v.length := by cases v <;> simp_all
  cases v with
  | nil => exact absurd rfl hv
  | cons x v =>
    simp only [nums_cons] at h ⊢
    refine P_run c101 0 (by kernel_rfl) (by kernel_rfl) rfl ?_
    simp -implicitDefEqProofs (disch := omega) [c101, h, sentA]
end Go.Abs

/- A vector pressed as the greatest. Conditions: those of each lemma. -/
set_option linter.unusedVariables false
set_option linter.unusedSimpArgs false
namespace Go.Abs
theorem IsPick.in {k : Nat} {v l : List Int} (h : IsPick k v l) : ∀ p ∈ l, 0 ≤ p ∧ p < (v.length : Int) := fun p hp => by
  have h1 := h.lo p hp
  have h2 := h.hi p hp
  omega
theorem topkPress_eq (k : Int) (v : List Int) (f : Bool) (hb : v.length ≤ 4096) (hv : 0 < v.length) (h64 : In64 v) (h0 : 0 ≤ k) (hk : k ≤ v.length) :
    ∃ l, IsPick k.toNat v l ∧ pure1 (C Q) 19 [.int .i64 k, .lst (nums .i64 v) f] = some (.tuple [sentA 1 v.length (ownS l) (ownS (gath l v)) 0 0 (.lst [] true) (.lst [] true), .int .i64 0]) := by
  obtain ⟨l, hl, hp⟩ := pick_9 k v f hb h64 h0 hk
  refine ⟨l, hl, ?_⟩
  have hlen : l.length ≤ 4096 := by rw [hl.len]; omega
  have hr := rises_of hl.rise
  have hg1 := gather_eq l v false f (by omega) hr hl.in
  have hg2 := gather_eq l v true f (by omega) hr hl.in
  have hv1 : ¬ v.length = 0 := by omega
  have hv2 : ¬ v = [] := fun e => by rw [e] at hv; simp at hv
  refine P_run c19 0 (by kernel_rfl) (by kernel_rfl) rfl ?_
  cases l with
  | nil =>
    simp only [nums_nil, gath, List.map_nil] at hg1
    simp only [ownS, if_true] at hp
    simp -implicitDefEqProofs (disch := omega) [c19, hv1, hv2, hp, hg1, ownS, gath, sentA]
  | cons x l =>
    simp only [gath, List.map_cons, nums_cons] at hg1
    simp only [ownS, nums_cons, reduceCtorEq, if_false] at hp
    simp -implicitDefEqProofs (disch := omega) [c19, hv1, hv2, hp, hg1, ownS, gath, sentA, nums_cons, clo, cloAll, cloRows]
    rw [List.take_of_length_le (by simp)]
theorem topk105_eq (s k w : Int) (v : List Int) (f : Bool) (seed : Int) (n : Rows) (g : Bool) (hb : v.length ≤ 4096) (hv : 0 < v.length) (h64 : In64 v) (h0 : 0 ≤ k) (hk : k ≤ v.length) :
    ∃ l, IsPick k.toNat v l ∧ pure1 (C Q) 105 [.agg [.int .i64 s, .int .i64 k, .int .i64 w], .lst (nums .i64 v) f, .int .u64 seed, .lst n g] = some (.tuple [sentA 1 v.length (ownS l) (ownS (gath l v)) 0 0 (.lst [] true) (.lst [] true), .int .i64 0]) := by
  obtain ⟨l, hl, hp⟩ := topkPress_eq k v f hb hv h64 h0 hk
  refine ⟨l, hl, ?_⟩
  refine P_run c105 0 (by kernel_rfl) (by kernel_rfl) rfl ?_
  cases l with
  | nil =>
    simp only [sentA, gath, List.map_nil, ownS, if_true] at hp
    simp -implicitDefEqProofs (disch := omega) [c105, hp, ownS, gath, sentA]
  | cons x l =>
    simp only [sentA, gath, List.map_cons, nums_cons, ownS, reduceCtorEq, if_false] at hp
    simp -implicitDefEqProofs (disch := omega) [c105, hp, ownS, gath, sentA, nums_cons]
    rw [List.take_of_length_le (by simp)]
theorem topk106_eq (s d : Int) (l v : List Int) (f g : Bool) (sc w : Int) (lev neg : AV) (hl : l.length ≤ 1000000) (hv : v.length ≤ 1000000) (hi : idxOk d l) (hlv : l.length = v.length) :
    pure1 (C Q) 106 [sentA s d (.lst (nums .i64 l) f) (.lst (nums .i64 v) g) sc w lev neg] = some (.tuple [.own (nums .i64 (spr d.toNat l v l.length)), .int .i64 0]) := by
  have h := spread_eq d l v f g hl hv
  rw [if_neg (by simpa using hi), if_neg (by simpa using hlv)] at h
  have hd := hi.1
  have hn : 0 < (spr d.toNat l v l.length).length := by simp; omega
  generalize spr d.toNat l v l.length = x at h hn ⊢
  cases x with
  | nil => simp at hn
  | cons x xs =>
    simp only [nums_cons] at h ⊢
    refine P_run c106 0 (by kernel_rfl) (by kernel_rfl) rfl ?_
    simp -implicitDefEqProofs (disch := omega) [c106, h, sentA]
end Go.Abs

/- What is pressed may be; pressing and loosening, as all and as the greatest. Conditions: those of each lemma. -/
set_option linter.unusedVariables false
set_option linter.unusedSimpArgs false
namespace Go.Abs
abbrev nilA : AV := .lst [] true
theorem same0_eq : pure1 (C Q) 69 [sentA 0 0 nilA nilA 0 0 nilA nilA, sentA 0 0 nilA nilA 0 0 nilA nilA] = some (.bool true) := by
  have h1 := eqInt_eq [] [] true true (by simp)
  have h2 := eqI64_eq [] [] true true (by simp)
  have h3 := eqU64_eq [] [] true true (by simp)
  have h4 := eqBool_eq [] [] true true (by simp)
  simp only [nums_nil, bls_nil, decide_true] at h1 h2 h3 h4
  refine P_run c69 0 (by kernel_rfl) (by kernel_rfl) rfl ?_
  simp -implicitDefEqProofs (disch := omega) [c69, sentA, nilA, h1, h2, h3, h4]
theorem bareD_eq (v : Rows) (f : Bool) (h0 : 0 < v.length) (hb : v.length ≤ 4096) : pure1 (C Q) 68 [sentA 0 v.length nilA (.lst v f) 0 0 nilA nilA] = some (.tuple [sentA 0 0 nilA nilA 0 0 nilA nilA, .bool true]) := by
  have h1 : (0 : Int) < v.length := by omega
  have h2 : ¬ (4096 : Int) < v.length := by omega
  have h3 : (v.length : Int) ≤ 4096 := by omega
  refine P_run c68 0 (by kernel_rfl) (by kernel_rfl) rfl ?_
  simp -implicitDefEqProofs (disch := omega) [c68, sentA, nilA, h0, h1, h2, h3, hb]
theorem bareT_eq (d : Int) (l w : List Int) (f g : Bool) (hi : idxOk d l) (hl : l.length = w.length) (hb : l.length ≤ 4096) : pure1 (C Q) 68 [sentA 1 d (.lst (nums .i64 l) f) (.lst (nums .i64 w) g) 0 0 nilA nilA] = some (.tuple [sentA 0 0 nilA nilA 0 0 nilA nilA, .bool true]) := by
  have hd := hi.1
  have hc := idxCheck_eq d l f (by omega)
  rw [if_pos hi] at hc
  have hl' : (l.length : Int) = w.length := by omega
  refine P_run c68 0 (by kernel_rfl) (by kernel_rfl) rfl ?_
  simp -implicitDefEqProofs (disch := omega) [c68, sentA, nilA, hd, hc, hl, hl']
theorem bareS_eq (d sc : Int) (n : Rows) (f : Bool) (h0 : 0 < d) (hb : d ≤ 4096) (hs : 0 ≤ sc) (hn : (n.length : Int) = d) : pure1 (C Q) 68 [sentA 3 d nilA nilA sc 0 nilA (.lst n f)] = some (.tuple [sentA 0 0 nilA nilA 0 0 nilA nilA, .bool true]) := by
  refine P_run c68 0 (by kernel_rfl) (by kernel_rfl) rfl ?_
  simp -implicitDefEqProofs (disch := omega) [c68, sentA, nilA, h0, hb, hs, hn]
theorem may_of {s : AV} (hs : ∃ cs, s = .agg cs ∧ cs.length = 8 ∧ frzAll (frz 5 []) cs = some cs) : True := trivial
theorem mayD_eq (v : Rows) (f : Bool) (h0 : 0 < v.length) (hb : v.length ≤ 4096) : pure1 (C Q) 23 [sentA 0 v.length nilA (.lst v f) 0 0 nilA nilA] = some (.bool true) := by
  have h1 := bareD_eq v f h0 hb
  have h2 := same0_eq
  simp only [sentA, nilA] at h1 h2 ⊢
  refine P_run c23 0 (by kernel_rfl) (by kernel_rfl) rfl ?_
  simp -implicitDefEqProofs (disch := omega) [c23, h1, h2]
theorem mayT_eq (d : Int) (l w : List Int) (f g : Bool) (hi : idxOk d l) (hl : l.length = w.length) (hb : l.length ≤ 4096) : pure1 (C Q) 23 [sentA 1 d (.lst (nums .i64 l) f) (.lst (nums .i64 w) g) 0 0 nilA nilA] = some (.bool true) := by
  have h1 := bareT_eq d l w f g hi hl hb
  have h2 := same0_eq
  simp only [sentA, nilA] at h1 h2 ⊢
  refine P_run c23 0 (by kernel_rfl) (by kernel_rfl) rfl ?_
  simp -implicitDefEqProofs (disch := omega) [c23, h1, h2]
theorem mayS_eq (d sc : Int) (n : Rows) (f : Bool) (h0 : 0 < d) (hb : d ≤ 4096) (hs : 0 ≤ sc) (hn : (n.length : Int) = d) : pure1 (C Q) 23 [sentA 3 d nilA nilA sc 0 nilA (.lst n f)] = some (.bool true) := by
  have h1 := bareS_eq d sc n f h0 hb hs hn
  have h2 := same0_eq
  simp only [sentA, nilA] at h1 h2 ⊢
  refine P_run c23 0 (by kernel_rfl) (by kernel_rfl) rfl ?_
  simp -implicitDefEqProofs (disch := omega) [c23, h1, h2]
/-! ### Press -/
theorem press_bad (s k w : Int) (v : List Int) (f : Bool) (seed : Int) (n : Rows) (g : Bool) (hb : v.length ≤ 4096) (hc : pressChk s k w v.length ≠ 0) :
    pure1 (C Q) 14 [.agg [.int .i64 s, .int .i64 k, .int .i64 w], .lst (nums .i64 v) f, .int .u64 seed, .lst n g] = some (.tuple [sentA 0 0 nilA nilA 0 0 nilA nilA, .int .i64 (pressChk s k w v.length)]) := by
  have h1 : ¬ 4096 < v.length := by omega
  refine P_run c14 0 (by kernel_rfl) (by kernel_rfl) rfl ?_
  simp -implicitDefEqProofs (disch := omega) [c14, h1, hc, sentA, nilA]
theorem press_D (s k w : Int) (v : List Int) (f : Bool) (seed : Int) (n : Rows) (g : Bool) (hb : v.length ≤ 4096) (hc : pressChk s k w v.length = 0) (hs : s = 0) (hv : v ≠ []) :
    pure1 (C Q) 14 [.agg [.int .i64 s, .int .i64 k, .int .i64 w], .lst (nums .i64 v) f, .int .u64 seed, .lst n g] = some (.tuple [sentA 0 v.length nilA (.lst (nums .i64 v) false) 0 0 nilA nilA, .int .i64 0]) := by
  have h1 : ¬ 4096 < v.length := by omega
  subst hs
  have hd := dense_eq [.int .i64 0, .int .i64 k, .int .i64 w] rfl v f seed n g hv (by omega)
  simp only [sentA, nilA] at hd ⊢
  refine P_run c14 0 (by kernel_rfl) (by kernel_rfl) rfl ?_
  simp -implicitDefEqProofs (disch := omega) [c14, h1, hc, wayA, hd]
end Go.Abs
