/- PressAgain. Conditions: those of each lemma. -/
import Derived.Test.YtjjcfcbhelecgaaGreatG3
import Derived.Test.YtjjcfcbhelecgaaGreatF6
set_option linter.unusedVariables false
set_option linter.unusedSimpArgs false
namespace Go.Abs
def cHow : List Cell := [cI, cI, cI]
/-! ### The plain law of signs -/
theorem sz_sgn {n : Int} (h : 0 ≤ n) (b : Bool) : sz (sgn n b) = n := by
  unfold sz sgn
  cases b <;> simp <;> omega
theorem pre_sgns {n : Int} (h : 0 ≤ n) (bs : List Bool) : ∀ i, i ≤ bs.length → pre (sgns n bs) i = n * i
  | 0, _ => by simp [pre]
  | i + 1, hi => by
    have h1 := pre_sgns h bs i (by omega)
    have hb : i < bs.length := by omega
    have h2 : (sgns n bs).getD i 0 = sgn n bs[i] := by simp [sgns, hb]
    simp only [pre, h1, h2, sz_sgn h]
    rw [Int.natCast_add, Int.mul_add]
    simp
theorem sgns_again {n : Int} (h : 0 ≤ n) (bs : List Bool) : sgns n (negs (sgns n bs)) = sgns n bs := by
  simp only [sgns, negs, List.map_map]
  apply List.map_congr_left
  intro b _
  simp only [Function.comp_apply, sgn]
  cases b
  · have : ¬ n < 0 := by omega
    simp [this]
  · by_cases e : n = 0
    · subst e; simp
    · have h1 : -n < 0 := by omega
      have h2 : ¬ n ≤ 0 := by omega
      simp [h1, h2]
theorem mean_bd {v : List Int} (hv : 0 < v.length) : 0 ≤ (pre v v.length).tdiv v.length ∧ (pre v v.length).tdiv v.length * v.length ≤ pre v v.length := by
  have p0 := pre_nn v v.length
  rw [Int.tdiv_eq_ediv_of_nonneg p0]
  exact ⟨Int.ediv_nonneg p0 (by omega), Int.ediv_mul_le _ (by omega)⟩
/-! ### The walk -/
theorem few12_eq (v : List Int) (f g : Bool) : pure1 (C Q) 13 [.lst [] true, .lst [[.lst (nums .i64 v) f]] g] = some (.bool (decide (¬ ((200 < v.length ∧ v.length ≤ 4096) ∨ 5000 < v.length)))) := by
  refine P_runH c13 3 (by kernel_rfl) (by kernel_rfl) rfl (fun r hr => ?_)
  simp -implicitDefEqProofs (disch := omega) [c13]
  have x1 : (200 : Int) < v.length ↔ 200 < v.length := by omega
  have x2 : (v.length : Int) ≤ 4096 ↔ v.length ≤ 4096 := by omega
  have x3 : (5000 : Int) < v.length ↔ 5000 < v.length := by omega
  by_cases h1 : (200 < v.length ∧ v.length ≤ 4096) ∨ 5000 < v.length
  · refine R_loop (fun i => [(0, .lst [] true), (1, .lst [[.lst (nums .i64 v) f]] g), (7, .lst [[.lst (nums .i64 v) f]] g), (8, .int .i64 1), (9, .int .i64 i)]) (fun i => []) 0 (by omega) (by simp) rfl (fun i hi => by omega) ?_
    have hr' := hr.out; clear hr; subst hr'
    by_cases a : 200 < v.length
    · by_cases b : v.length ≤ 4096
      · simp -implicitDefEqProofs (disch := omega) [x1, x2, x3, a, b]
      · have c : 5000 < v.length := by omega
        simp -implicitDefEqProofs (disch := omega) [x1, x2, x3, a, b, c]
    · omega
  · refine R_loop (fun i => [(0, .lst [] true), (1, .lst [[.lst (nums .i64 v) f]] g), (7, .lst [[.lst (nums .i64 v) f]] g), (8, .int .i64 1), (9, .int .i64 i)]) (fun i => []) 1 (by omega) (by simp) rfl (fun i hi => ?_) ?_
    · have : i = 0 := by omega
      subst this
      have c : ¬ 5000 < v.length := by omega
      by_cases a : 200 < v.length
      · have b : ¬ v.length ≤ 4096 := by omega
        simp -implicitDefEqProofs (disch := omega) [x1, x2, x3, a, b, c]
      · simp -implicitDefEqProofs (disch := omega) [x1, x2, x3, a, c]
    · have hr' := hr.out; clear hr; subst hr'
      simp -implicitDefEqProofs (disch := omega) [h1]
theorem live12_eq : pure1 (C Q) 12 [] = some (.bool true) := P_calc 60 (by kernel_rfl)
theorem in64_keep {l v : List Int} (h : In64 v) : In64 (keepL l v) := by
  intro x hx
  obtain ⟨q, hq, rfl⟩ := List.mem_iff_getElem.1 hx
  have hq' : q < v.length := by simpa using hq
  have e := keepL_getD l v q hq'
  rw [getD_get hq, getD_get hq'] at e
  rw [e]
  split
  · exact h.get q hq'
  · omega
theorem in64_sgns {n : Int} (h0 : 0 ≤ n) (h1 : n ≤ 9223372036854775807) (bs : List Bool) : In64 (sgns n bs) := by
  intro x hx
  obtain ⟨b, _, rfl⟩ := List.mem_map.1 hx
  unfold sgn
  cases b <;> simp <;> omega
theorem pressAgain_no (s k w : Int) (v : List Int) (f : Bool) (seed : Int) (h : ¬ (¬ ((200 < v.length ∧ v.length ≤ 4096) ∨ 5000 < v.length) ∧ ¬ 200 < v.length ∧ s ≠ 2)) :
    pure1 (C Q) 3 [.agg [.int .i64 s, .int .i64 k, .int .i64 w], .lst (nums .i64 v) f, .int .u64 seed] = some (.bool true) := by
  have hf := few12_eq v f true
  have hl := live12_eq
  refine P_run c3 0 (by kernel_rfl) (by kernel_rfl) rfl ?_
  by_cases h1 : (200 < v.length ∧ v.length ≤ 4096) ∨ 5000 < v.length
  · rw [decide_eq_false (fun h => h h1)] at hf
    simp -implicitDefEqProofs (disch := omega) [c3, hl, hf, clo, cloAll, cloRows]
  · rw [decide_eq_true h1] at hf
    by_cases h2 : 200 < v.length
    · have h2' : (200 : Int) < v.length := by omega
      simp -implicitDefEqProofs (disch := omega) [c3, hl, hf, clo, cloAll, cloRows, h2, h2']
    · have h2' : ¬ (200 : Int) < v.length := by omega
      have h3 : s = 2 := Decidable.byContradiction fun h3 => h ⟨h1, h2, h3⟩
      subst h3
      simp -implicitDefEqProofs (disch := omega) [c3, hl, hf, clo, cloAll, cloRows, h2, h2']
theorem pressAgain_bad (s k w : Int) (v : List Int) (f : Bool) (seed : Int) (a : AV) (c : Int) (hv : v.length ≤ 200) (hs : s ≠ 2) (hc : c ≠ 0)
    (h1 : pure1 (C Q) 14 [.agg [.int .i64 s, .int .i64 k, .int .i64 w], .lst (nums .i64 v) f, .int .u64 seed, nilA] = some (.tuple [sentA 0 0 nilA nilA 0 0 nilA nilA, .int .i64 c])) :
    pure1 (C Q) 3 [.agg [.int .i64 s, .int .i64 k, .int .i64 w], .lst (nums .i64 v) f, .int .u64 seed] = some (.bool true) := by
  have hf := few12_eq v f true
  rw [decide_eq_true (by omega)] at hf
  have hl := live12_eq
  have h2 : ¬ 200 < v.length := by omega
  have h2' : ¬ (200 : Int) < v.length := by omega
  simp only [sentA, nilA] at h1
  refine P_run c3 0 (by kernel_rfl) (by kernel_rfl) rfl ?_
  simp -implicitDefEqProofs (disch := omega) [c3, hl, hf, clo, cloAll, cloRows, h2, h2', hs, hc, h1]
theorem pressAgain_good (s k w : Int) (v x : List Int) (f : Bool) (seed : Int) (a1 a2 a3 a4 b1 b2 b3 b4 : Int) (l1 l2 l3 l4 m1 m2 m3 m4 : Rows) (f1 f2 f3 f4 g1 g2 g3 g4 : Bool) (hv : v.length ≤ 200) (hx : x.length = v.length) (hs : s ≠ 2)
    (h1 : pure1 (C Q) 14 [.agg [.int .i64 s, .int .i64 k, .int .i64 w], .lst (nums .i64 v) f, .int .u64 seed, nilA] = some (.tuple [sentA a1 a2 (.lst l1 f1) (.lst l2 f2) a3 a4 (.lst l3 f3) (.lst l4 f4), .int .i64 0]))
    (h2 : pure1 (C Q) 15 [sentA a1 a2 (.lst l1 f1) (.lst l2 f2) a3 a4 (.lst l3 f3) (.lst l4 f4)] = some (.tuple [.own (nums .i64 x), .int .i64 0]))
    (h3 : pure1 (C Q) 14 [.agg [.int .i64 s, .int .i64 k, .int .i64 w], .lst (nums .i64 x) false, .int .u64 (IntKind.u64.wrap (seed + 1)), nilA] = some (.tuple [sentA b1 b2 (.lst m1 g1) (.lst m2 g2) b3 b4 (.lst m3 g3) (.lst m4 g4), .int .i64 0]))
    (h4 : pure1 (C Q) 15 [sentA b1 b2 (.lst m1 g1) (.lst m2 g2) b3 b4 (.lst m3 g3) (.lst m4 g4)] = some (.tuple [.own (nums .i64 x), .int .i64 0])) :
    pure1 (C Q) 3 [.agg [.int .i64 s, .int .i64 k, .int .i64 w], .lst (nums .i64 v) f, .int .u64 seed] = some (.bool true) := by
  have hf := few12_eq v f true
  rw [decide_eq_true (by omega)] at hf
  have hl := live12_eq
  have n2 : ¬ 200 < v.length := by omega
  have n2' : ¬ (200 : Int) < v.length := by omega
  have hsm := vecSame_eq x x false false (by omega)
  rw [decide_eq_true rfl] at hsm
  refine P_run c3 0 (by kernel_rfl) (by kernel_rfl) rfl ?_
  simp only [sentA, nilA] at h1 h2 h3 h4
  simp -implicitDefEqProofs (disch := omega) [c3, hl, hf, clo, cloAll, cloRows, n2, n2', hs, h1, h2, h3, h4, hsm]
theorem pressAgain (s k w : Int) (v : List Int) (f : Bool) (seed : Int) (h64 : In64 v) :
    pure1 (C Q) 3 [.agg [.int .i64 s, .int .i64 k, .int .i64 w], .lst (nums .i64 v) f, .int .u64 seed] = some (.bool true) := by
  by_cases h0 : ¬ ((200 < v.length ∧ v.length ≤ 4096) ∨ 5000 < v.length) ∧ ¬ 200 < v.length ∧ s ≠ 2
  · obtain ⟨_, h1, h2⟩ := h0
    by_cases hc : pressChk s k w v.length = 0
    · have hv : 1 ≤ v.length ∧ (s = 0 ∨ s = 1 ∨ s = 3) := by
        unfold pressChk at hc
        by_cases a : (v.length : Int) < 1
        · simp [a] at hc
        · by_cases b : 4096 < (v.length : Int)
          · simp [a, b] at hc
          · by_cases c : mayHow s k w v.length
            · unfold mayHow at c; omega
            · simp [a, b, c] at hc
      obtain ⟨hv, hs⟩ := hv
      have hne : v ≠ [] := fun e => by rw [e] at hv; simp at hv
      rcases hs with hs | hs | hs
      · have p1 := press_D s k w v f seed [] true (by omega) hc hs hne
        have p2 := loosen_D v false (by omega) hne
        have p3 := press_D s k w v false (IntKind.u64.wrap (seed + 1)) [] true (by omega) hc hs hne
        exact pressAgain_good s k w v v f seed _ _ _ _ _ _ _ _ _ _ _ _ _ _ _ _ _ _ _ _ _ _ _ _ (by omega) rfl h2 p1 p2 p3 p2
      · obtain ⟨l, hl, p1⟩ := press_T s k w v f seed [] true (by omega) h64 hc hs
        have hi := hl.idx (by omega) (by omega)
        have hll : l.length = (gath l v).length := by simp
        have hlk : l.length ≤ 4096 := by
          have := hl.len
          have : k ≤ v.length := by
            unfold pressChk at hc
            by_cases a : (v.length : Int) < 1
            · simp [a] at hc
            · by_cases b : 4096 < (v.length : Int)
              · simp [a, b] at hc
              · by_cases c : mayHow s k w v.length
                · unfold mayHow at c; omega
                · simp [a, b, c] at hc
          omega
        have p2 := loosen_T v.length l (gath l v) false false hi hll hlk
        rw [Int.toNat_natCast, spr_gath hl.in] at p2
        have hxl : (keepL l v).length = v.length := by simp
        have hc2 : pressChk s k w (keepL l v).length = 0 := by rw [hxl]; exact hc
        obtain ⟨m, hm, p3⟩ := press_T s k w (keepL l v) false (IntKind.u64.wrap (seed + 1)) [] true (by omega) (in64_keep h64) hc2 hs
        have hi2 := hm.idx (by omega) (by omega)
        have hml : m.length = (gath m (keepL l v)).length := by simp
        have hmk : m.length ≤ 4096 := by rw [hm.len, ← hl.len]; exact hlk
        have p4 := loosen_T (keepL l v).length m (gath m (keepL l v)) false false hi2 hml hmk
        rw [Int.toNat_natCast, spr_gath hm.in, keep_again hl hm] at p4
        exact pressAgain_good s k w v (keepL l v) f seed _ _ _ _ _ _ _ _ _ _ _ _ _ _ _ _ _ _ _ _ _ _ _ _ (by omega) hxl h2 p1 p2 p3 p4
      · have p1 := press_S s k w v f seed [] true (by omega) h64 hc hs (by omega)
        by_cases hr : inR (pre v v.length)
        · rw [if_pos hr] at p1
          obtain ⟨m0, m1⟩ := mean_bd (v := v) (by omega)
          have mle : (pre v v.length).tdiv v.length ≤ pre v v.length := by
            rw [Int.tdiv_eq_ediv_of_nonneg (pre_nn v v.length)]
            exact Int.ediv_le_self _ (pre_nn v v.length)
          have m2 : (pre v v.length).tdiv v.length ≤ 9223372036854775807 := by unfold inR at hr; omega
          generalize hn : (pre v v.length).tdiv v.length = n at *
          have p2 := loosen_S v.length n (negs v) false (by omega) (by omega) m0 m2 (by simp)
          have hxl : (sgns n (negs v)).length = v.length := by simp
          have hc2 : pressChk s k w (sgns n (negs v)).length = 0 := by rw [hxl]; exact hc
          have p3 := press_S s k w (sgns n (negs v)) false (IntKind.u64.wrap (seed + 1)) [] true (by omega) (in64_sgns m0 m2 _) hc2 hs (by omega)
          have hpre : pre (sgns n (negs v)) (sgns n (negs v)).length = n * v.length := by
            rw [hxl]; exact pre_sgns m0 (negs v) v.length (by simp)
          have hr2 : inR (n * v.length) := by
            have : 0 ≤ n * (v.length : Int) := Int.mul_nonneg m0 (by omega)
            unfold inR at hr ⊢; omega
          rw [hpre, if_pos hr2, hxl] at p3
          have hdv : (n * (v.length : Int)).tdiv v.length = n := Int.mul_tdiv_cancel _ (by omega)
          rw [hdv] at p3
          have p4 := loosen_S v.length n (negs (sgns n (negs v))) false (by omega) (by omega) m0 m2 (by simp)
          rw [sgns_again m0] at p4
          exact pressAgain_good s k w v (sgns n (negs v)) f seed _ _ _ _ _ _ _ _ _ _ _ _ _ _ _ _ _ _ _ _ _ _ _ _ (by omega) hxl h2 p1 p2 p3 p4
        · rw [if_neg hr] at p1
          exact pressAgain_bad s k w v f seed nilA 2 (by omega) h2 (by decide) p1
    · have p1 := press_bad s k w v f seed [] true (by omega) hc
      exact pressAgain_bad s k w v f seed nilA _ (by omega) h2 hc p1
  · exact pressAgain_no s k w v f seed h0
theorem rows_int {k : IntKind} : ∀ {es : Rows}, (∀ r ∈ es, r.length = 1) → (∀ r ∈ es, ∀ i (h1 : i < r.length) (h2 : i < [Cell.int k].length), Has [Cell.int k][i] r[i]) → ∃ l, es = nums k l ∧ ∀ x ∈ l, (Lit.int k x).wf = true
  | [], _, _ => ⟨[], rfl, fun x h => by cases h⟩
  | r :: es, hl, ht => by
    obtain ⟨l, rfl, h3⟩ := rows_int (es := es) (fun x hx => hl x (by simp [hx])) (fun x hx => ht x (by simp [hx]))
    have h1 := hl r (by simp)
    match r, h1 with
    | [a], _ =>
      obtain ⟨n, rfl, hw⟩ := has_int (k := k) (ht [a] (by simp) 0 (by simp) (by simp))
      exact ⟨n :: l, rfl, fun x hx => by
        rcases List.mem_cons.1 hx with rfl | hx
        · exact hw
        · exact h3 x hx⟩
theorem wf_i64 {n : Int} (h : (Lit.int .i64 n).wf = true) : -9223372036854775808 ≤ n ∧ n ≤ 9223372036854775807 := by
  simp [Lit.wf, IntKind.min, IntKind.max, IntKind.bits, IntKind.signed] at h
  omega
/-- A slice of int64. -/
theorem typed_vec {a : AV} (h : ATyped (false, [.sl [cI]]) a) : ∃ (v : List Int) (f : Bool), a = .lst (nums .i64 v) f ∧ In64 v ∧ v.length ≤ 9223372036854775807 := by
  cases h with
  | one t a h =>
    obtain ⟨es, f, rfl, h1, h2, h3⟩ := has_sl (row := [cI]) h
    obtain ⟨l, rfl, h4⟩ := rows_int (k := .i64) h1 h3
    exact ⟨l, f, rfl, fun x hx => wf_i64 (h4 x hx), by simpa [maxLen] using h2⟩
theorem typed_how {row : Row} (h : Typed cHow row) : ∃ s k w, row = [.int .i64 s, .int .i64 k, .int .i64 w] := by
  obtain ⟨hl, ht⟩ := h
  match row, hl with
  | [a0, a1, a2], _ =>
    obtain ⟨n0, rfl, _⟩ := has_int (k := .i64) (ht 0 (by simp) (by simp [cHow]))
    obtain ⟨n1, rfl, _⟩ := has_int (k := .i64) (ht 1 (by simp) (by simp [cHow]))
    obtain ⟨n2, rfl, _⟩ := has_int (k := .i64) (ht 2 (by simp) (by simp [cHow]))
    exact ⟨n0, n1, n2, rfl⟩
theorem pressAgain_law (xs : List AV) (h : AllTyped [(true, cHow), (false, [.sl [cI]]), (false, [.int .u64])] xs) : pure1 (C Q) 3 xs = some (.bool true) := by
  cases h with
  | cons h hs =>
    cases hs with
    | cons h1 hs =>
      cases hs with
      | cons h2 hs =>
        cases hs
        cases h with
        | agg tys row h =>
          obtain ⟨s, k, w, rfl⟩ := typed_how h
          obtain ⟨v, f, rfl, h64, _⟩ := typed_vec h1
          obtain ⟨n, rfl, _⟩ := one_int (k := .u64) h2
          exact pressAgain s k w v f n h64
end Go.Abs
