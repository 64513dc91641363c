import Derived.Test.YtjjcfcbhelecgaaGreatF4
set_option linter.unusedVariables false
set_option linter.unusedSimpArgs false
namespace Go.Abs
theorem live18 : pure1 (C Q) 25 [] = some (.bool true) := P_calc 60 (by kernel_rfl)
@[simp] theorem frzRows_smps (H : Heap) (d : Nat) (l : List Smp) : frzRows (frz (d + 1) H) (smps l) = some (smps l) :=
  frzRows_id (fun r hr a ha => by
    obtain ⟨s, _, rfl⟩ := List.mem_map.1 hr
    simp only [Smp.row, List.mem_cons, List.not_mem_nil, or_false] at ha
    rcases ha with rfl | rfl <;> rfl)
@[simp] theorem metRows_smps (H : Heap) (d : Nat) (l : List Smp) : metRows (met (d + 1) H) (smps l) = [] :=
  metRows_no (fun r hr a ha => by
    obtain ⟨s, _, rfl⟩ := List.mem_map.1 hr
    simp only [Smp.row, List.mem_cons, List.not_mem_nil, or_false] at ha
    rcases ha with rfl | rfl <;> rfl)
@[simp] theorem szOk_smps (l : List Smp) : szOk 2 (smps l) = true := szOk_iff.2 (smps_sz l)
theorem smps_append (l m : List Smp) : smps (l ++ m) = smps l ++ smps m := List.map_append
theorem smps_nil : smps [] = [] := rfl
theorem smps_one (s : Smp) : smps [s] = [[.lst s.xs s.f, .int .i64 s.y]] := rfl
@[simp] theorem frzRows_app (H : Heap) (d : Nat) (l : List Smp) (xs : Rows) (f : Bool) (k : IntKind) (y : Int) : frzRows (frz (d + 1) H) (smps l ++ [[.lst xs f, .int k y]]) = some (smps l ++ [[.lst xs f, .int k y]]) :=
  frzRows_id (fun r hr a ha => by
    rcases List.mem_append.1 hr with hr | hr
    · obtain ⟨s, _, rfl⟩ := List.mem_map.1 hr
      simp only [Smp.row, List.mem_cons, List.not_mem_nil, or_false] at ha
      rcases ha with rfl | rfl <;> rfl
    · cases List.mem_singleton.1 hr
      simp only [List.mem_cons, List.not_mem_nil, or_false] at ha
      rcases ha with rfl | rfl <;> rfl)
@[simp] theorem take_smps (l : List Smp) : List.take l.length (smps l) = smps l := List.take_of_length_le (by simp)
@[simp] theorem take_smps1 (l : List Smp) (x : Row) : List.take (l.length + 1) (smps l ++ [x]) = smps l ++ [x] := List.take_of_length_le (by simp)
structure Cnf.Ok (c : Cnf) : Prop where
  good : ¬ c.bad
  press : pressChk c.s c.k c.w c.dim = 0
  n1 : 1 ≤ c.n
  n2 : c.n ≤ 64
  w1 : 0 ≤ c.warm
  w2 : c.warm ≤ 1048576
  r1 : 0 ≤ c.rate
  r2 : c.rate ≤ pw c.frac
  m1 : 0 ≤ c.mom
  m2 : c.mom ≤ pw c.frac
  clip : 0 ≤ c.clip
  len : (c.l.length : Int) ≤ 256
  b1 : 1 ≤ c.batch
  b2 : c.batch ≤ 64
  b3 : c.batch ≤ (c.l.length : Int)
  fit : c.l.any c.misfit = false
theorem ite_one {p : Prop} [Decidable p] {x : Int} (h : (if p then 1 else x) = 0) : ¬ p ∧ x = 0 := by
  by_cases hp : p
  · simp [hp] at h
  · simp [hp] at h; exact ⟨hp, h⟩
theorem ite_two {p : Prop} [Decidable p] {x : Int} (h : x = 0 ∨ x = 1) : (if p then 1 else x) = 0 ∨ (if p then 1 else x) = 1 := by
  by_cases hp : p
  · simp [hp]
  · simp [hp, h]
theorem min_64 {a b : Int} (h : a ≤ if b < 64 then b else 64) : a ≤ b ∧ a ≤ 64 := by split at h <;> omega
theorem chk_iff (c : Cnf) : c.chk = 0 ↔ c.Ok := by
  constructor
  · intro h
    unfold Cnf.chk at h
    obtain ⟨h1, h⟩ := ite_one h
    obtain ⟨h2, h⟩ := ite_one h
    obtain ⟨h3, h⟩ := ite_one h
    obtain ⟨h4, h⟩ := ite_one h
    obtain ⟨h5, h⟩ := ite_one h
    obtain ⟨h6, h⟩ := ite_one h
    obtain ⟨h7, h⟩ := ite_one h
    obtain ⟨h8, h⟩ := ite_one h
    obtain ⟨h9, h⟩ := ite_one h
    obtain ⟨h10, h⟩ := ite_one h
    obtain ⟨h11, h12⟩ := Decidable.not_not.1 h9
    obtain ⟨h13, h14⟩ := min_64 h12
    exact ⟨h1, by omega, by omega, by omega, by omega, by omega, by omega, by omega, by omega, by omega, by omega, by omega, by omega, by omega, by omega, by simpa using h10⟩
  · intro h
    have hb3 := h.b3
    have hb2 := h.b2
    have h1 := h.n1; have h2 := h.n2; have h3 := h.w1; have h4 := h.w2; have h5 := h.r1; have h6 := h.r2; have h7 := h.m1; have h8 := h.m2; have h9 := h.clip; have h10 := h.len; have h11 := h.b1
    have h12 : ¬ c.clip < 0 := by omega
    have h13 : ¬ 256 < (c.l.length : Int) := by omega
    have h14 : c.batch ≤ if (c.l.length : Int) < 64 then (c.l.length : Int) else 64 := by split <;> omega
    unfold Cnf.chk
    simp only [h.good, h.press, h.fit, h1, h2, h3, h4, h5, h6, h7, h8, h11, h12, h13, h14, if_false, ne_eq, not_true_eq_false, and_self, Bool.false_eq_true]
theorem chk_one {c : Cnf} (h : ¬ c.Ok) : c.chk = 1 := by
  have h2 : c.chk = 0 ∨ c.chk = 1 := by
    unfold Cnf.chk
    exact ite_two (ite_two (ite_two (ite_two (ite_two (ite_two (ite_two (ite_two (ite_two (ite_two (.inl rfl))))))))))
  rcases h2 with h2 | h2
  · exact absurd ((chk_iff c).1 h2) h
  · exact h2
theorem misfit_empty (c : Cnf) (h : ¬ c.bad) : c.misfit ⟨[], true, 0⟩ = true := by
  have hi : 1 ≤ c.inn := by simp only [Cnf.bad, modelFail] at h; omega
  have ha : allFit c.inn [⟨[], true, 0⟩] = false := by simp [allFit]; omega
  have h2 : ¬ (modelBad c.kind c.out c.hid c.frac ∨ modelFail c.kind c.inn c.out c.hid) := h
  unfold Cnf.misfit fitsChk
  rw [if_neg h2]
  simp only [linChk, softChk, mlpChk, ha, Bool.false_eq_true, and_false, not_false_eq_true, if_true]
  repeat' split
  all_goals simp
theorem confBends (c : Cnf) (hb : c.l.length ≤ 9223372036854775807) : pure1 (C Q) 5 [c.av] = some (.bool true) := by
  have hl := live18
  have h0 := few_eq c (by omega)
  have h1 := confCheck_eq c (by omega)
  have h2 := confCheck_eq { c with n := 0 } (by simpa using (by omega : c.l.length ≤ 9223372036854775807))
  have h3 := confCheck_eq { c with l := [], full := true } (by simp)
  have h4 := confCheck_eq { c with batch := c.l.length + 1 } (by simpa using (by omega : c.l.length ≤ 9223372036854775807))
  have h6 := confCheck_eq { c with rate := pw c.frac + 1 } (by simpa using (by omega : c.l.length ≤ 9223372036854775807))
  have h7 := confCheck_eq { c with n := 64 } (by simpa using (by omega : c.l.length ≤ 9223372036854775807))
  simp only [Cnf.av, Cnf.cells] at h0 h1 h2 h3 h4 h6 h7
  simp only [smps_nil] at h3
  refine P_runH c5 0 (by kernel_rfl) (by kernel_rfl) rfl (fun r hr => ?_)
  by_cases hf : c.few
  · by_cases hk : c.chk = 0
    · have ok := (chk_iff c).1 hk
      have hfl : (c.l.length : Int) ≤ 300 := hf.2
      have h5 := confCheck_eq { c with l := c.l ++ [⟨[], true, 0⟩], full := false } (by simp; omega)
      simp only [Cnf.av, Cnf.cells, smps_append, smps_one] at h5
      have e2 : ({ c with n := 0 } : Cnf).chk = 1 := chk_one fun h => by have := h.n1; simp at this
      have e3 : ({ c with l := [], full := true } : Cnf).chk = 1 := chk_one fun h => by have := h.b1; have h3 := h.b3; simp at this h3; omega
      have e4 : ({ c with batch := c.l.length + 1 } : Cnf).chk = 1 := chk_one fun h => by have := h.b3; simp at this; omega
      have e5 : ({ c with l := c.l ++ [⟨[], true, 0⟩], full := false } : Cnf).chk = 1 := chk_one fun h => by
        have := h.fit
        simp only [List.any_append, List.any_cons, List.any_nil, Bool.or_false, Bool.or_eq_false_iff] at this
        have h6 := misfit_empty { c with l := c.l ++ [⟨[], true, 0⟩], full := false } h.good
        rw [h6] at this
        exact absurd this.2 (by simp)
      have e6 : ({ c with rate := pw c.frac + 1 } : Cnf).chk = 1 := chk_one fun h => by have := h.r2; simp at this; omega
      have e7 : ({ c with n := 64 } : Cnf).chk = 0 := (chk_iff _).2 ⟨ok.good, ok.press, by simp, by simp, ok.w1, ok.w2, ok.r1, ok.r2, ok.m1, ok.m2, ok.clip, ok.len, ok.b1, ok.b2, ok.b3, ok.fit⟩
      obtain ⟨hf0, hf1⟩ := Cnf.frac_bd ok.good
      have hne : smps c.l ≠ [] := by
        intro h
        have h1 : (smps c.l).length = 0 := by rw [h]; rfl
        rw [smps_length] at h1
        have := ok.b1; have := ok.b3
        omega
      have hsz := szOk_smps c.l
      have hf300 : c.l.length ≤ 300 := by have := hf.2; omega
      have hpw := pw_pos c.frac
      have hpw2 : pw c.frac ≤ 1073741824 := pw_le hf1
      simp (disch := omega) [c5, Cnf.av, Cnf.cells, hl, h0, hf, h1, hk, h2, e2, h3, e3, h4, e4, hsz, h5, e5, h6, e6, h7, e7, hne, hf300, clo, cloAll, cloRows]
      exact hr.out.symm
    · simp (disch := omega) [c5, Cnf.av, Cnf.cells, hl, h0, hf, h1, hk]
      exact hr.out.symm
  · simp (disch := omega) [c5, Cnf.av, Cnf.cells, hl, h0, hf]
    exact hr.out.symm
end Go.Abs
