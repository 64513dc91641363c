/- The document's answers for runs: the check, the samples that are seen. Conditions: those of each lemma. -/
import Derived.Test.YtjjcfcbhelecgaaGreatF9
set_option linter.unusedVariables false
set_option linter.unusedSimpArgs false
namespace Go.Abs
theorem r15Check_eq (inn out : Int) (ws : Rows) (fw : Bool) (l : List Smp) (full : Bool) (hb : l.length ≤ 9223372036854775807) :
    pure1 (C Q) 158 [.int .i64 inn, .int .i64 out, .lst ws fw, .lst (smps l) full] = some (.int .i64 (softChk inn out ws.length l)) := by
  refine WP.eq (P_W c158 (l.length + 1) (by kernel_rfl) (by kernel_rfl) rfl ?_)
  by_cases hi : (inn < 1 ∨ 16 < inn) ∨ (1 < out → 8 < out)
  · simp -implicitDefEqProofs (disch := omega) [c158, hi, softChk]
  · by_cases hw : (ws.length : Int) = (inn + 1) * out
    · simp -implicitDefEqProofs (disch := omega) [c158, hi, hw, softChk]
      rcases fit_cases inn l with ⟨ha, hb2⟩ | ⟨m, hm, ha, hb1, hb2⟩
      · refine W_loop (fun i => [(0, .int .i64 inn), (1, .int .i64 out), (3, .lst (smps l) full), (28, .lst (smps l) full), (29, .int .i64 l.length), (30, .int .i64 i)]) (fun i H => True) l.length (by omega) (by simp) trivial ?_ ?_
        · rintro i hi H -
          have h1 := smps_get hi
          have h2 := hb2 i hi
          simp -implicitDefEqProofs (disch := omega) [h1, h2, hi, Smp.row]
        · rintro H -
          by_cases hl0 : l = []
          · simp -implicitDefEqProofs (disch := omega) [ha, hl0]
            simp [allFit]
          · by_cases hl64 : 64 < (l.length : Int)
            · simp -implicitDefEqProofs (disch := omega) [ha, hl0, hl64]
            · simp -implicitDefEqProofs (disch := omega) [ha, hl0, hl64]
              rcases out_cases out l with ⟨oa, ob2⟩ | ⟨m, hm, oa, ob1, ob2⟩
              · refine W_loop (fun i => [(1, .int .i64 out), (48, .lst (smps l) full), (49, .int .i64 l.length), (50, .int .i64 i)]) (fun i H => True) l.length (by omega) (by simp) trivial ?_ ?_
                · rintro i hi H -
                  have h1 := smps_get hi
                  obtain ⟨h2, h3⟩ := ob2 i hi
                  simp -implicitDefEqProofs (disch := omega) [h1, h2, h3, hi, Smp.row]
                · rintro H -
                  simp -implicitDefEqProofs (disch := omega) [oa]
              · refine W_loop (fun i => [(1, .int .i64 out), (48, .lst (smps l) full), (49, .int .i64 l.length), (50, .int .i64 i)]) (fun i H => True) m (by omega) (by simp) trivial ?_ ?_
                · rintro i hi H -
                  have hi' : i < l.length := by omega
                  have h1 := smps_get hi'
                  obtain ⟨h2, h3⟩ := ob2 i hi
                  simp -implicitDefEqProofs (disch := omega) [h1, h2, h3, hi', Smp.row]
                · rintro H -
                  have h1 := smps_get hm
                  by_cases hy : (l[m]).y < 0
                  · simp -implicitDefEqProofs (disch := omega) [h1, hy, oa, hm, Smp.row]
                  · have hy2 : out ≤ (l[m]).y := by omega
                    simp -implicitDefEqProofs (disch := omega) [h1, hy, hy2, oa, hm, Smp.row]
      · refine W_loop (fun i => [(0, .int .i64 inn), (1, .int .i64 out), (3, .lst (smps l) full), (28, .lst (smps l) full), (29, .int .i64 l.length), (30, .int .i64 i)]) (fun i H => True) m (by omega) (by simp) trivial ?_ ?_
        · rintro i hi H -
          have hi' : i < l.length := by omega
          have h1 := smps_get hi'
          have h2 := hb2 i hi
          simp -implicitDefEqProofs (disch := omega) [h1, h2, hi', Smp.row]
        · rintro H -
          have h1 := smps_get hm
          simp -implicitDefEqProofs (disch := omega) [h1, hb1, ha, hm, Smp.row]
    · simp -implicitDefEqProofs (disch := omega) [c158, hi, hw, softChk]
theorem r17Fits_eq (kind inn out hid frac : Int) (ws : Rows) (fw : Bool) (l : List Smp) (full : Bool) (hb : l.length ≤ 9223372036854775807) :
    pure1 (C Q) 83 [.agg [.int .i64 kind, .int .i64 inn, .int .i64 out, .int .i64 hid, .int .i64 frac], .lst ws fw, .lst (smps l) full] = some (.int .i64 (fitsChk kind inn out hid frac ws.length l)) := by
  have h1 := r14Check_eq inn ws fw l full hb
  have h2 := r15Check_eq inn out ws fw l full hb
  have h3 := r16Check_eq inn hid ws fw l full hb
  refine P_runH c83 0 (by kernel_rfl) (by kernel_rfl) rfl (fun r hr => ?_)
  by_cases hg : modelBad kind out hid frac ∨ modelFail kind inn out hid
  · simp -implicitDefEqProofs (disch := omega) [c83, hg]
    have hr' := hr.out; clear hr; subst hr'
    simp [fitsChk, hg]
  · have hk : kind = 0 ∨ kind = 1 ∨ kind = 2 := by simp only [modelBad] at hg; omega
    rcases hk with rfl | rfl | rfl
    · simp -implicitDefEqProofs (disch := omega) [c83, hg, h1]
      have hr' := hr.out; clear hr; subst hr'
      simp [fitsChk, hg]
    · simp -implicitDefEqProofs (disch := omega) [c83, hg, h2]
      have hr' := hr.out; clear hr; subst hr'
      simp [fitsChk, hg]
    · simp -implicitDefEqProofs (disch := omega) [c83, hg, h3]
      have hr' := hr.out; clear hr; subst hr'
      simp [fitsChk, hg]
theorem mis_cases (c : Cnf) : (c.l.any c.misfit = false ∧ ∀ i (hi : i < c.l.length), fitsChk c.kind c.inn c.out c.hid c.frac c.dim.toNat [c.l[i]] = 0) ∨
    ∃ m, ∃ hm : m < c.l.length, c.l.any c.misfit = true ∧ fitsChk c.kind c.inn c.out c.hid c.frac c.dim.toNat [c.l[m]] ≠ 0 ∧ ∀ i (hi : i < m), fitsChk c.kind c.inn c.out c.hid c.frac c.dim.toNat [c.l[i]'(by omega)] = 0 := by
  rcases first_cases c.misfit c.l with ⟨h1, h2⟩ | ⟨m, hm, h1, h2, h3⟩
  · exact .inl ⟨h1, fun i hi => by simpa [Cnf.misfit] using h2 i hi⟩
  · exact .inr ⟨m, hm, h1, by simpa [Cnf.misfit] using h2, fun i hi => by simpa [Cnf.misfit] using h3 i hi⟩
theorem r18Check_eq (c : Cnf) (hb : c.l.length ≤ 9223372036854775807) : pure1 (C Q) 36 [c.av] = some (.int .i64 c.chk) := by
  have hfit : ∀ s : Smp, pure1 (C Q) 83 [.agg [.int .i64 c.kind, .int .i64 c.inn, .int .i64 c.out, .int .i64 c.hid, .int .i64 c.frac], .lst (nums .i64 (List.replicate c.dim.toNat 0)) false, .lst [[.lst s.xs s.f, .int .i64 s.y]] true] = some (.int .i64 (fitsChk c.kind c.inn c.out c.hid c.frac c.dim.toNat [s])) := fun s => by
    have := r17Fits_eq c.kind c.inn c.out c.hid c.frac (nums .i64 (List.replicate c.dim.toNat 0)) false [s] true (by simp)
    simpa [smps, Smp.row] using this
  by_cases hbad : c.bad
  · have h2 : modelBad c.kind c.out c.hid c.frac ∨ modelFail c.kind c.inn c.out c.hid := hbad
    refine P_run c36 0 (by kernel_rfl) (by kernel_rfl) rfl ?_
    simp -implicitDefEqProofs (disch := omega) [c36, Cnf.av, Cnf.cells, h2, Cnf.chk, hbad]
  · have h2 : ¬ (modelBad c.kind c.out c.hid c.frac ∨ modelFail c.kind c.inn c.out c.hid) := hbad
    obtain ⟨hf0, hf1⟩ := Cnf.frac_bd hbad
    obtain ⟨hd0, hd1⟩ := Cnf.dim_bd hbad
    by_cases hgood : pressChk c.s c.k c.w c.dim = 0 ∧ (1 ≤ c.n ∧ c.n ≤ 64) ∧ (0 ≤ c.warm ∧ c.warm ≤ 1048576) ∧ (0 ≤ c.rate ∧ c.rate ≤ pw c.frac) ∧ (0 ≤ c.mom ∧ c.mom ≤ pw c.frac) ∧ 0 ≤ c.clip ∧ (c.l.length : Int) ≤ 256 ∧ 1 ≤ c.batch ∧ c.batch ≤ 64 ∧ c.batch ≤ (c.l.length : Int)
    · obtain ⟨g1, ⟨g2, g3⟩, ⟨g4, g5⟩, ⟨g6, g7⟩, ⟨g8, g9⟩, g10, g11, g12, g13, g14⟩ := hgood
      have hmin : c.batch ≤ if (c.l.length : Int) < 64 then (c.l.length : Int) else 64 := by split <;> omega
      have hchk : c.chk = if c.l.any c.misfit = true then 1 else 0 := by
        unfold Cnf.chk
        rw [if_neg hbad, if_neg (by simp [g1]), if_neg (by simp; omega), if_neg (by simp; omega), if_neg (by simp; omega), if_neg (by simp; omega), if_neg (by omega), if_neg (by omega), if_neg (by simp; exact ⟨g12, hmin⟩)]
      have k1 : ¬ c.n < 1 := by omega
      have k2 : ¬ 64 < c.n := by omega
      have k3 : ¬ c.warm < 0 := by omega
      have k4 : ¬ 1048576 < c.warm := by omega
      have k5 : ¬ c.rate < 0 := by omega
      have k6 : ¬ pw c.frac < c.rate := by omega
      have k7 : ¬ c.mom < 0 := by omega
      have k8 : ¬ pw c.frac < c.mom := by omega
      have k9 : ¬ c.clip < 0 := by omega
      have k10 : ¬ 256 < (c.l.length : Int) := by omega
      have k11 : ¬ c.batch < 1 := by omega
      have k12 : ¬ 64 < c.batch := by omega
      have k13 : ¬ (c.l.length : Int) < c.batch := by omega
      simp only [Cnf.dim] at g1
      simp only [Cnf.dim] at hfit
      rcases mis_cases c with ⟨ha, hb2⟩ | ⟨m, hm, ha, hb1, hb2⟩
      · simp only [Cnf.dim] at hb2
        have hchk2 : c.chk = 0 := by rw [hchk, ha]; rfl
        rw [hchk2]
        refine WP.eq (P_W c36 (c.l.length + 1) (by kernel_rfl) (by kernel_rfl) rfl ?_)
        simp -implicitDefEqProofs (disch := omega) [c36, Cnf.av, Cnf.cells, h2, g1, k1, k2, k3, k4, k5, k6, k7, k8, k9, k10, k11, k12, k13]
        refine W_loop (fun i => [(1, .ptr 0 0 0 0), (3, .int .i64 (modelN c.kind c.inn c.out c.hid)), (95, .lst (smps c.l) c.full), (96, .int .i64 c.l.length), (97, .int .i64 i)]) (fun i H => ∃ G, H = [⟨0, false, .cells 16 [c.cells]⟩] ++ G) c.l.length (by omega) (by simp) ⟨[], rfl⟩ ?_ ?_
        · rintro i hi H ⟨G, rfl⟩
          have h1 := smps_get hi
          have h4 := hfit c.l[i]
          rw [hb2 i hi] at h4
          simp -implicitDefEqProofs (disch := omega) [h1, h4, hi, Smp.row, Cnf.cells]
        · rintro H ⟨G, rfl⟩
          simp -implicitDefEqProofs (disch := omega) [ha]
      · simp only [Cnf.dim] at hb2 hb1
        have hchk2 : c.chk = 1 := by rw [hchk, ha]; rfl
        rw [hchk2]
        refine WP.eq (P_W c36 (c.l.length + 1) (by kernel_rfl) (by kernel_rfl) rfl ?_)
        simp -implicitDefEqProofs (disch := omega) [c36, Cnf.av, Cnf.cells, h2, g1, k1, k2, k3, k4, k5, k6, k7, k8, k9, k10, k11, k12, k13]
        refine W_loop (fun i => [(1, .ptr 0 0 0 0), (3, .int .i64 (modelN c.kind c.inn c.out c.hid)), (95, .lst (smps c.l) c.full), (96, .int .i64 c.l.length), (97, .int .i64 i)]) (fun i H => ∃ G, H = [⟨0, false, .cells 16 [c.cells]⟩] ++ G) m (by omega) (by simp) ⟨[], rfl⟩ ?_ ?_
        · rintro i hi H ⟨G, rfl⟩
          have hi' : i < c.l.length := by omega
          have h1 := smps_get hi'
          have h4 := hfit c.l[i]
          rw [hb2 i hi] at h4
          simp -implicitDefEqProofs (disch := omega) [h1, h4, hi', Smp.row, Cnf.cells]
        · rintro H ⟨G, rfl⟩
          have h1 := smps_get hm
          have h4 := hfit c.l[m]
          simp -implicitDefEqProofs (disch := omega) [h1, h4, hb1, ha, hm, Smp.row, Cnf.cells]
    · have hchk : c.chk = 1 := chk_one (fun ok => hgood ⟨ok.press, ⟨ok.n1, ok.n2⟩, ⟨ok.w1, ok.w2⟩, ⟨ok.r1, ok.r2⟩, ⟨ok.m1, ok.m2⟩, ok.clip, ok.len, ok.b1, ok.b2, ok.b3⟩)
      rw [hchk]
      refine P_run c36 0 (by kernel_rfl) (by kernel_rfl) rfl ?_
      simp -implicitDefEqProofs (disch := omega) [c36, Cnf.av, Cnf.cells, h2]
      repeat' (split <;> (try simp -implicitDefEqProofs (disch := omega) [*, -hgood, -hchk]))
      all_goals intros
      all_goals (exfalso; exact hgood ⟨(by simp only [Cnf.dim]; assumption), by omega, by omega, by omega, by omega, by omega, by omega, by omega, by omega, by omega⟩)
end Go.Abs
