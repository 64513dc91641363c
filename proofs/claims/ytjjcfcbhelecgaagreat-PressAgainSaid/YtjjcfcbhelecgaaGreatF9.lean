/- The document's answers for models and runs: checks. Conditions: those of each lemma. -/
import Derived.Test.YtjjcfcbhelecgaaGreatF7
import Derived.Test.YtjjcfcbhelecgaaGreatF8
set_option linter.unusedVariables false
set_option linter.unusedSimpArgs false
namespace Go.Abs
@[simp] theorem r14Dim_eq (n : Int) : pure1 (C Q) 155 [.int .i64 n] = some (if n < 1 ∨ 16 < n then .tuple [.int .i64 0, .int .i64 1] else .tuple [.int .i64 (n + 1), .int .i64 0]) := by
  refine P_runH c155 0 (by kernel_rfl) (by kernel_rfl) rfl (fun r hr => ?_)
  simp -implicitDefEqProofs (disch := omega) [c155]
  repeat' (split <;> (try simp -implicitDefEqProofs (disch := omega) [*]))
  all_goals (have hr' := hr.out; clear hr; subst hr')
  all_goals (try simp [*])
  all_goals (try omega)
  all_goals (repeat' split)
  all_goals (try omega)
@[simp] theorem r15Dim_eq (n o : Int) : pure1 (C Q) 153 [.int .i64 n, .int .i64 o] = some (if (n < 1 ∨ 16 < n) ∨ ¬ (1 < o ∧ o ≤ 8) then .tuple [.int .i64 0, .int .i64 1] else .tuple [.int .i64 ((n + 1) * o), .int .i64 0]) := by
  refine P_runH c153 0 (by kernel_rfl) (by kernel_rfl) rfl (fun r hr => ?_)
  simp -implicitDefEqProofs (disch := omega) [c153]
  repeat' (split <;> (try simp -implicitDefEqProofs (disch := omega) [*]))
  all_goals (have hr' := hr.out; clear hr; subst hr')
  all_goals (try simp [*])
  all_goals (try omega)
  all_goals (repeat' split)
  all_goals (try omega)
  all_goals (try simp [Int.mul_comm])
@[simp] theorem r16Dim_eq (n o : Int) : pure1 (C Q) 154 [.int .i64 n, .int .i64 o] = some (if (n < 1 ∨ 16 < n) ∨ ¬ (0 < o ∧ o ≤ 8) then .tuple [.int .i64 0, .int .i64 1] else .tuple [.int .i64 (o * (n + 1) + o + 1), .int .i64 0]) := by
  refine P_runH c154 0 (by kernel_rfl) (by kernel_rfl) rfl (fun r hr => ?_)
  simp -implicitDefEqProofs (disch := omega) [c154]
  repeat' (split <;> (try simp -implicitDefEqProofs (disch := omega) [*]))
  all_goals (have hr' := hr.out; clear hr; subst hr')
  all_goals (try simp [*])
  all_goals (try omega)
  all_goals (repeat' split)
  all_goals (try omega)
  have := mul_bd (a := o) (b := n + 1) (x := 8) (y := 17) (by omega) (by omega) (by omega) (by omega)
  have e1 : IntKind.i64.wrap (o * (n + 1) + o) = o * (n + 1) + o := wrap_i64 (by omega) (by omega)
  simp only [e1, wrap_i64 (n := o * (n + 1) + o + 1) (by omega) (by omega)]
@[simp] theorem r17Check_eq (kind inn out hid frac : Int) : pure1 (C Q) 152 [.agg [.int .i64 kind, .int .i64 inn, .int .i64 out, .int .i64 hid, .int .i64 frac]] = some (.int .i64 (if modelBad kind out hid frac ∨ modelFail kind inn out hid then 1 else 0)) := by
  refine P_runH c152 0 (by kernel_rfl) (by kernel_rfl) rfl (fun r hr => ?_)
  have hk : kind = 0 ∨ kind = 1 ∨ kind = 2 ∨ (kind ≠ 0 ∧ kind ≠ 1 ∧ kind ≠ 2) := by omega
  rcases hk with rfl | rfl | rfl | ⟨k0, k1, k2⟩
  · simp -implicitDefEqProofs (disch := omega) [c152]
    repeat' (split <;> (try simp -implicitDefEqProofs (disch := omega) [*]))
    all_goals (have hr' := hr.out; clear hr; subst hr')
    all_goals (try simp [*, modelBad, modelFail])
    all_goals (try omega)
  · simp -implicitDefEqProofs (disch := omega) [c152]
    repeat' (split <;> (try simp -implicitDefEqProofs (disch := omega) [*]))
    all_goals (have hr' := hr.out; clear hr; subst hr')
    all_goals (try simp [*, modelBad, modelFail])
    all_goals (try omega)
  · simp -implicitDefEqProofs (disch := omega) [c152]
    repeat' (split <;> (try simp -implicitDefEqProofs (disch := omega) [*]))
    all_goals (have hr' := hr.out; clear hr; subst hr')
    all_goals (try simp [*, modelBad, modelFail])
    all_goals (try omega)
  · simp -implicitDefEqProofs (disch := omega) [c152, k0, k1, k2]
    repeat' (split <;> (try simp -implicitDefEqProofs (disch := omega) [*]))
    all_goals (have hr' := hr.out; clear hr; subst hr')
    all_goals (try simp [*, modelBad, modelFail])
    all_goals (try omega)
@[simp] theorem r17Dim_eq (kind inn out hid frac : Int) : pure1 (C Q) 79 [.agg [.int .i64 kind, .int .i64 inn, .int .i64 out, .int .i64 hid, .int .i64 frac]] = some (if modelBad kind out hid frac ∨ modelFail kind inn out hid then .tuple [.int .i64 0, .int .i64 1] else .tuple [.int .i64 (modelN kind inn out hid), .int .i64 0]) := by
  refine P_runH c79 0 (by kernel_rfl) (by kernel_rfl) rfl (fun r hr => ?_)
  by_cases hb : modelBad kind out hid frac ∨ modelFail kind inn out hid
  · simp -implicitDefEqProofs (disch := omega) [c79, hb]
    have hr' := hr.out; clear hr; subst hr'
    simp [hb]
  · have hk : kind = 0 ∨ kind = 1 ∨ kind = 2 := by simp only [modelBad] at hb; omega
    have hi : ¬ (inn < 1 ∨ 16 < inn) := by simp only [modelFail] at hb; omega
    rcases hk with rfl | rfl | rfl
    · simp -implicitDefEqProofs (disch := omega) [c79, hb, hi]
      have hr' := hr.out; clear hr; subst hr'
      simp [hb, modelN]
    · have ho : 1 < out ∧ out ≤ 8 := Decidable.byContradiction fun h => hb (.inr (.inr (.inl ⟨rfl, h⟩)))
      simp -implicitDefEqProofs (disch := omega) [c79, hb, hi, ho]
      have hr' := hr.out; clear hr; subst hr'
      simp [hb, modelN]
    · have ho : 0 < hid ∧ hid ≤ 8 := Decidable.byContradiction fun h => hb (.inr (.inr (.inr ⟨rfl, h⟩)))
      simp -implicitDefEqProofs (disch := omega) [c79, hb, hi, ho]
      have hr' := hr.out; clear hr; subst hr'
      simp [hb, modelN]
@[simp] theorem r12Check_eq (s k w dim : Int) : pure1 (C Q) 82 [.agg [.int .i64 s, .int .i64 k, .int .i64 w], .int .i64 dim] = some (.int .i64 (pressChk s k w dim)) := by
  refine P_runH c82 0 (by kernel_rfl) (by kernel_rfl) rfl (fun r hr => ?_)
  have hk : s = 0 ∨ s = 1 ∨ s = 2 ∨ s = 3 ∨ (s ≠ 0 ∧ s ≠ 1 ∧ s ≠ 2 ∧ s ≠ 3) := by omega
  rcases hk with rfl | rfl | rfl | rfl | ⟨k0, k1, k2, k3⟩
  · simp -implicitDefEqProofs (disch := omega) [c82]
    repeat' (split <;> (try simp -implicitDefEqProofs (disch := omega) [*]))
    all_goals (have hr' := hr.out; clear hr; subst hr')
    all_goals (try simp [*, pressChk, mayHow])
    all_goals (try omega)
  · simp -implicitDefEqProofs (disch := omega) [c82]
    repeat' (split <;> (try simp -implicitDefEqProofs (disch := omega) [*]))
    all_goals (have hr' := hr.out; clear hr; subst hr')
    all_goals (try simp [*, pressChk, mayHow])
    all_goals (try omega)
  · simp -implicitDefEqProofs (disch := omega) [c82]
    repeat' (split <;> (try simp -implicitDefEqProofs (disch := omega) [*]))
    all_goals (have hr' := hr.out; clear hr; subst hr')
    all_goals (try simp [*, pressChk, mayHow])
    all_goals (try omega)
  · simp -implicitDefEqProofs (disch := omega) [c82]
    repeat' (split <;> (try simp -implicitDefEqProofs (disch := omega) [*]))
    all_goals (have hr' := hr.out; clear hr; subst hr')
    all_goals (try simp [*, pressChk, mayHow])
    all_goals (try omega)
  · simp -implicitDefEqProofs (disch := omega) [c82, k0, k1, k2, k3]
    repeat' (split <;> (try simp -implicitDefEqProofs (disch := omega) [*]))
    all_goals (have hr' := hr.out; clear hr; subst hr')
    all_goals (try simp [*, pressChk, mayHow])
    all_goals (try omega)
theorem fit_cases (inn : Int) (l : List Smp) : (allFit inn l = true ∧ ∀ i (hi : i < l.length), ((l[i]).xs.length : Int) = inn) ∨
    ∃ m, ∃ hm : m < l.length, allFit inn l = false ∧ ((l[m]).xs.length : Int) ≠ inn ∧ ∀ i (hi : i < m), ((l[i]'(by omega)).xs.length : Int) = inn := by
  have e : allFit inn l = !l.any (fun s => decide ((s.xs.length : Int) ≠ inn)) := by
    rw [List.not_any_eq_all_not]; simp only [allFit, decide_not, Bool.not_not, ne_eq]
  rcases first_cases (fun s : Smp => decide ((s.xs.length : Int) ≠ inn)) l with ⟨h1, h2⟩ | ⟨m, hm, h1, h2, h3⟩
  · exact .inl ⟨by rw [e, h1]; rfl, fun i hi => by simpa using h2 i hi⟩
  · exact .inr ⟨m, hm, by rw [e, h1]; rfl, by simpa using h2, fun i hi => by simpa using h3 i hi⟩
theorem out_cases (out : Int) (l : List Smp) : (anyOut out l = false ∧ ∀ i (hi : i < l.length), ¬ (l[i]).y < 0 ∧ ¬ out ≤ (l[i]).y) ∨
    ∃ m, ∃ hm : m < l.length, anyOut out l = true ∧ ((l[m]).y < 0 ∨ out ≤ (l[m]).y) ∧ ∀ i (hi : i < m), ¬ (l[i]'(by omega)).y < 0 ∧ ¬ out ≤ (l[i]'(by omega)).y := by
  rcases first_cases (fun s : Smp => decide (s.y < 0 ∨ out ≤ s.y)) l with ⟨h1, h2⟩ | ⟨m, hm, h1, h2, h3⟩
  · exact .inl ⟨h1, fun i hi => by have := h2 i hi; simp only [decide_eq_false_iff_not] at this; omega⟩
  · exact .inr ⟨m, hm, h1, by simpa using h2, fun i hi => by have := h3 i hi; simp only [decide_eq_false_iff_not] at this; omega⟩
theorem r14Check_eq (inn : Int) (ws : Rows) (fw : Bool) (l : List Smp) (full : Bool) (hb : l.length ≤ 9223372036854775807) :
    pure1 (C Q) 160 [.int .i64 inn, .lst ws fw, .lst (smps l) full] = some (.int .i64 (linChk inn ws.length l)) := by
  refine WP.eq (P_W c160 (l.length + 1) (by kernel_rfl) (by kernel_rfl) rfl ?_)
  by_cases hi : inn < 1 ∨ 16 < inn
  · simp -implicitDefEqProofs (disch := omega) [c160, hi, linChk]
  · by_cases hw : (ws.length : Int) = inn + 1
    · simp -implicitDefEqProofs (disch := omega) [c160, hi, hw, linChk]
      rcases fit_cases inn l with ⟨ha, hb2⟩ | ⟨m, hm, ha, hb1, hb2⟩
      · refine W_loop (fun i => [(0, .int .i64 inn), (2, .lst (smps l) full), (23, .lst (smps l) full), (24, .int .i64 l.length), (25, .int .i64 i)]) (fun i H => True) l.length (by omega) (by simp) trivial ?_ ?_
        · rintro i hi H -
          have h1 := smps_get hi
          have h2 := hb2 i hi
          simp -implicitDefEqProofs (disch := omega) [h1, h2, hi, Smp.row]
        · rintro H -
          simp -implicitDefEqProofs (disch := omega) [ha]
          repeat' (split <;> (try simp -implicitDefEqProofs (disch := omega) [*]))
          all_goals (try omega)
      · refine W_loop (fun i => [(0, .int .i64 inn), (2, .lst (smps l) full), (23, .lst (smps l) full), (24, .int .i64 l.length), (25, .int .i64 i)]) (fun i H => True) m (by omega) (by simp) trivial ?_ ?_
        · rintro i hi H -
          have hi' : i < l.length := by omega
          have h1 := smps_get hi'
          have h2 := hb2 i hi
          simp -implicitDefEqProofs (disch := omega) [h1, h2, hi', Smp.row]
        · rintro H -
          have h1 := smps_get hm
          simp -implicitDefEqProofs (disch := omega) [h1, hb1, ha, hm, Smp.row]
    · simp -implicitDefEqProofs (disch := omega) [c160, hi, hw, linChk]
theorem r16Check_eq (inn hid : Int) (ws : Rows) (fw : Bool) (l : List Smp) (full : Bool) (hb : l.length ≤ 9223372036854775807) :
    pure1 (C Q) 159 [.int .i64 inn, .int .i64 hid, .lst ws fw, .lst (smps l) full] = some (.int .i64 (mlpChk inn hid ws.length l)) := by
  refine WP.eq (P_W c159 (l.length + 1) (by kernel_rfl) (by kernel_rfl) rfl ?_)
  by_cases hi : (inn < 1 ∨ 16 < inn) ∨ (0 < hid → 8 < hid)
  · simp -implicitDefEqProofs (disch := omega) [c159, hi, mlpChk]
  · by_cases hw : (ws.length : Int) = hid * (inn + 1) + hid + 1
    · simp -implicitDefEqProofs (disch := omega) [c159, hi, hw, mlpChk]
      rcases fit_cases inn l with ⟨ha, hb2⟩ | ⟨m, hm, ha, hb1, hb2⟩
      · refine W_loop (fun i => [(0, .int .i64 inn), (3, .lst (smps l) full), (26, .lst (smps l) full), (27, .int .i64 l.length), (28, .int .i64 i)]) (fun i H => True) l.length (by omega) (by simp) trivial ?_ ?_
        · rintro i hi H -
          have h1 := smps_get hi
          have h2 := hb2 i hi
          simp -implicitDefEqProofs (disch := omega) [h1, h2, hi, Smp.row]
        · rintro H -
          simp -implicitDefEqProofs (disch := omega) [ha]
          repeat' (split <;> (try simp -implicitDefEqProofs (disch := omega) [*]))
          all_goals (try omega)
      · refine W_loop (fun i => [(0, .int .i64 inn), (3, .lst (smps l) full), (26, .lst (smps l) full), (27, .int .i64 l.length), (28, .int .i64 i)]) (fun i H => True) m (by omega) (by simp) trivial ?_ ?_
        · rintro i hi H -
          have hi' : i < l.length := by omega
          have h1 := smps_get hi'
          have h2 := hb2 i hi
          simp -implicitDefEqProofs (disch := omega) [h1, h2, hi', Smp.row]
        · rintro H -
          have h1 := smps_get hm
          simp -implicitDefEqProofs (disch := omega) [h1, hb1, ha, hm, Smp.row]
    · simp -implicitDefEqProofs (disch := omega) [c159, hi, hw, mlpChk]
end Go.Abs
