/- How many numbers are kept, how vectors are pressed at a step; ConfWarms. Conditions: those of each lemma. -/
import Derived.Test.YtjjcfcbhelecgaaGreatF6
set_option linter.unusedVariables false
set_option linter.unusedSimpArgs false
namespace Go.Abs
def keepBad (dim k warm step : Int) : Prop := ((¬ (1 ≤ dim ∧ dim ≤ 4096) ∨ ¬ (0 ≤ k ∧ k ≤ dim)) ∨ ¬ (0 ≤ warm ∧ warm ≤ 1048576)) ∨ ¬ (0 ≤ step ∧ step ≤ 1073741824)
instance (dim k warm step : Int) : Decidable (keepBad dim k warm step) := by unfold keepBad; infer_instance
def keepV (dim k warm step : Int) : Int := if warm ≤ step then k else dim - (dim - k) * step / warm
theorem keep_bd {dim k warm step : Int} (h : ¬ keepBad dim k warm step) (hs : step < warm) :
    0 ≤ (dim - k) * step ∧ (dim - k) * step ≤ 4294967296 ∧ 0 ≤ (dim - k) * step / warm ∧ (dim - k) * step / warm ≤ dim - k := by
  simp only [keepBad] at h
  have h1 := mul_bd (a := dim - k) (b := step) (x := 4096) (y := 1048576) (by omega) (by omega) (by omega) (by omega)
  refine ⟨h1.1, by omega, Int.ediv_nonneg h1.1 (by omega), ?_⟩
  have h2 : (dim - k) * step ≤ (dim - k) * warm := Int.mul_le_mul_of_nonneg_left (by omega) (by omega)
  exact Int.ediv_le_of_le_mul (by omega) h2
@[simp] theorem keep_eq (dim k warm step : Int) : pure1 (C Q) 34 [.int .i64 dim, .int .i64 k, .int .i64 warm, .int .i64 step] = some (if keepBad dim k warm step then .tuple [.int .i64 0, .int .i64 1] else .tuple [.int .i64 (keepV dim k warm step), .int .i64 0]) := by
  refine P_runH c34 0 (by kernel_rfl) (by kernel_rfl) rfl (fun r hr => ?_)
  by_cases hb : keepBad dim k warm step
  · simp (disch := omega) [c34]
    repeat' (split <;> (try simp (disch := omega) [*]))
    all_goals (have hr' := hr.out; clear hr; subst hr')
    all_goals (try simp [hb])
    all_goals (simp only [keepBad] at hb; omega)
  · by_cases hs : warm ≤ step
    · have hb' := hb
      simp only [keepBad, not_or, Decidable.not_not] at hb'
      obtain ⟨⟨⟨h1, h2⟩, h3⟩, h4⟩ := hb'
      simp (disch := omega) [c34, h1, h2, h3, h4, hs]
      have hr' := hr.out; clear hr; subst hr'
      simp [hb, keepV, hs]
    · obtain ⟨h5, h6, h7, h8⟩ := keep_bd hb (by omega)
      have hb' := hb
      simp only [keepBad, not_or, Decidable.not_not] at hb'
      obtain ⟨⟨⟨h1, h2⟩, h3⟩, h4⟩ := hb'
      simp (disch := omega) [c34, h1, h2, h3, h4, hs]
      have hr' := hr.out; clear hr; subst hr'
      simp [hb, keepV, hs]
def badStep (step : Int) : Prop := ¬ (0 ≤ step ∧ step ≤ 1073741824)
instance (step : Int) : Decidable (badStep step) := by unfold badStep; infer_instance
theorem at_eq (c : Cnf) (hb : c.l.length ≤ 9223372036854775807) (step : Int) : pure1 (C Q) 78 [c.av, .int .i64 step] = some (.bool (decide (¬ badStep step ∧ c.chk = 0))) := by
  have h1 := confCheck_eq c hb
  simp only [Cnf.av, Cnf.cells] at h1
  refine P_runH c78 0 (by kernel_rfl) (by kernel_rfl) rfl (fun r hr => ?_)
  simp (disch := omega) [c78, Cnf.av, Cnf.cells]
  repeat' (split <;> (try simp (disch := omega) [*]))
  all_goals (have hr' := hr.out; clear hr; subst hr')
  all_goals (try simp [*, badStep])
/-- How vectors are pressed at a step, or why not. -/
def Cnf.hBad (c : Cnf) (step : Int) : Prop := badStep step ∨ c.chk ≠ 0
instance (c : Cnf) (step : Int) : Decidable (c.hBad step) := by unfold Cnf.hBad; infer_instance
def Cnf.hS (c : Cnf) (step : Int) : Int := if c.hBad step then 0 else c.s
def Cnf.hK (c : Cnf) (step : Int) : Int := if c.hBad step then 0 else if c.s = 1 then keepV c.dim c.k c.warm step else c.k
def Cnf.hW (c : Cnf) (step : Int) : Int := if c.hBad step then 0 else c.w
def Cnf.hE (c : Cnf) (step : Int) : Int := if c.hBad step then 1 else 0
def Cnf.how (c : Cnf) (step : Int) : AV := .tuple [.agg [.int .i64 (c.hS step), .int .i64 (c.hK step), .int .i64 (c.hW step)], .int .i64 (c.hE step)]
theorem pressChk_zero {s k w dim : Int} : pressChk s k w dim = 0 ↔ 1 ≤ dim ∧ dim ≤ 4096 ∧ mayHow s k w dim := by
  unfold pressChk
  constructor
  · intro h
    repeat' (split at h <;> try omega)
    exact ⟨by omega, by omega, by assumption⟩
  · rintro ⟨h1, h2, h3⟩
    rw [if_neg (by omega), if_neg (by omega), if_pos h3]
theorem keep_good {c : Cnf} (ok : c.Ok) (h1 : c.s = 1) {step : Int} (hs : ¬ badStep step) : ¬ keepBad c.dim c.k c.warm step := by
  obtain ⟨h2, h3, h4⟩ := pressChk_zero.1 ok.press
  simp only [mayHow, h1] at h4
  have := ok.w1; have := ok.w2
  simp only [badStep] at hs
  simp only [keepBad]
  omega
theorem how_eq (c : Cnf) (hb : c.l.length ≤ 9223372036854775807) (step : Int) : pure1 (C Q) 29 [c.av, .int .i64 step] = some (c.how step) := by
  have h1 := at_eq c hb step
  simp only [Cnf.av, Cnf.cells] at h1
  refine P_runH c29 0 (by kernel_rfl) (by kernel_rfl) rfl (fun r hr => ?_)
  by_cases hs : badStep step ∨ c.chk ≠ 0
  · have h2 : decide (¬ badStep step ∧ c.chk = 0) = false := by simp; intro h; rcases hs with hs | hs; exact absurd hs h; exact hs
    rw [h2] at h1
    simp (disch := omega) [c29, Cnf.av, Cnf.cells, h1]
    have hr' := hr.out; clear hr; subst hr'
    simp [Cnf.how, Cnf.hS, Cnf.hK, Cnf.hW, Cnf.hE, Cnf.hBad, hs]
  · have hs' := hs
    simp only [not_or, ne_eq, Decidable.not_not] at hs'
    have h2 : decide (¬ badStep step ∧ c.chk = 0) = true := by simp [hs']
    rw [h2] at h1
    have ok := (chk_iff c).1 hs'.2
    have hg : ¬ (modelBad c.kind c.out c.hid c.frac ∨ modelFail c.kind c.inn c.out c.hid) := ok.good
    by_cases h3 : c.s = 1
    · have h4 := keep_good ok h3 hs'.1
      simp only [Cnf.dim] at h4
      rw [h3] at h1
      simp (disch := omega) [c29, Cnf.av, Cnf.cells, h1, hg, h3, h4]
      have hr' := hr.out; clear hr; subst hr'
      simp [Cnf.how, Cnf.hS, Cnf.hK, Cnf.hW, Cnf.hE, Cnf.hBad, hs, h3, Cnf.dim]
    · simp (disch := omega) [c29, Cnf.av, Cnf.cells, h1, hg, h3]
      have hr' := hr.out; clear hr; subst hr'
      simp [Cnf.how, Cnf.hS, Cnf.hK, Cnf.hW, Cnf.hE, Cnf.hBad, hs, h3]

theorem keep_mono {dim k warm a b : Int} (ha : ¬ keepBad dim k warm a) (hb : ¬ keepBad dim k warm b) (h : a ≤ b) : keepV dim k warm b ≤ keepV dim k warm a := by
  unfold keepV
  by_cases h1 : warm ≤ b
  · rw [if_pos h1]
    by_cases h2 : warm ≤ a
    · rw [if_pos h2]; exact Int.le_refl _
    · rw [if_neg h2]; have := keep_bd ha (by omega); omega
  · rw [if_neg h1, if_neg (by omega)]
    have hw : 0 < warm := by simp only [keepBad] at hb; omega
    have h3 : (dim - k) * a ≤ (dim - k) * b := Int.mul_le_mul_of_nonneg_left h (by simp only [keepBad] at hb; omega)
    have := Int.ediv_le_ediv hw h3
    omega
theorem keep_ge {dim k warm a : Int} (ha : ¬ keepBad dim k warm a) : k ≤ keepV dim k warm a ∧ keepV dim k warm a ≤ dim := by
  unfold keepV
  by_cases h2 : warm ≤ a
  · rw [if_pos h2]; simp only [keepBad] at ha; omega
  · rw [if_neg h2]; have := keep_bd ha (by omega); omega
theorem keep_zero {dim k warm : Int} (h : 0 < warm) : keepV dim k warm 0 = dim := by
  unfold keepV
  rw [if_neg (by omega)]; simp
/-- What is told at a step that may be. -/
structure Cnf.HowOk (c : Cnf) (a : Int) : Prop where
  s : c.hS a = c.s
  w : c.hW a = c.w
  e : c.hE a = 0
  ps : pressChk c.s (c.hK a) c.w c.dim = 0
  k1 : c.k ≤ c.hK a
  k2 : c.hK a ≤ c.dim
  k3 : c.s ≠ 1 → c.hK a = c.k
  k4 : c.s = 1 → c.warm ≤ a → c.hK a = c.k
  k5 : c.s = 1 → a ≤ 0 → c.warm ≠ 0 → c.hK a = c.dim
  st : 0 ≤ a ∧ a ≤ 1073741824
theorem how_ok {c : Cnf} {a : Int} (ok : c.Ok) (h : ¬ badStep a) : c.HowOk a := by
  have hk := (chk_iff c).2 ok
  have hb : ¬ c.hBad a := by simp [Cnf.hBad, h, hk]
  obtain ⟨p1, p2, p3⟩ := pressChk_zero.1 ok.press
  have hst : 0 ≤ a ∧ a ≤ 1073741824 := by simp only [badStep] at h; omega
  by_cases h1 : c.s = 1
  · have hg := keep_good ok h1 h
    have hge := keep_ge hg
    have e : c.hK a = keepV c.dim c.k c.warm a := by simp [Cnf.hK, hb, h1]
    refine ⟨by simp [Cnf.hS, hb], by simp [Cnf.hW, hb], by simp [Cnf.hE, hb], ?_, by omega, by omega, fun h => absurd h1 h, fun _ hw => ?_, fun _ h0 hw => ?_, hst⟩
    · refine pressChk_zero.2 ⟨p1, p2, ?_⟩
      have p4 : 0 ≤ c.k ∧ c.k ≤ c.dim ∧ c.w = 0 := by simp only [mayHow] at p3; omega
      exact .inr (.inl ⟨h1, by omega, by omega, p4.2.2⟩)
    · rw [e, keepV, if_pos hw]
    · have : a = 0 := by omega
      subst this
      have := ok.w1
      rw [e, keep_zero (by omega)]
  · have e : c.hK a = c.k := by simp [Cnf.hK, hb, h1]
    have : c.k ≤ c.dim := by simp only [mayHow] at p3; omega
    refine ⟨by simp [Cnf.hS, hb], by simp [Cnf.hW, hb], by simp [Cnf.hE, hb], by rw [e]; exact ok.press, by omega, by omega, fun _ => e, fun h => absurd h h1, fun h => absurd h h1, hst⟩
theorem how_no {c : Cnf} {a : Int} (h : badStep a) : c.hE a = 1 := by simp [Cnf.hE, Cnf.hBad, h]
theorem how_mono {c : Cnf} {a b : Int} (ok : c.Ok) (ha : ¬ badStep a) (hb : ¬ badStep b) (h1 : c.s = 1) (h : a ≤ b) : c.hK b ≤ c.hK a := by
  have hk := (chk_iff c).2 ok
  have e1 : c.hK a = keepV c.dim c.k c.warm a := by simp [Cnf.hK, Cnf.hBad, ha, hk, h1]
  have e2 : c.hK b = keepV c.dim c.k c.warm b := by simp [Cnf.hK, Cnf.hBad, hb, hk, h1]
  rw [e1, e2]
  exact keep_mono (keep_good ok h1 ha) (keep_good ok h1 hb) h
set_option maxRecDepth 100000 in
set_option maxHeartbeats 4000000 in
theorem confWarms (c : Cnf) (hb : c.l.length ≤ 9223372036854775807) (a b : Int) : pure1 (C Q) 6 [c.av, .int .i64 a, .int .i64 b] = some (.bool true) := by
  have hl := live18
  have h0 := few_eq c (by omega)
  have h1 := confCheck_eq c (by omega)
  have ha := how_eq c hb a
  have hbb := how_eq c hb b
  simp only [Cnf.av, Cnf.cells, Cnf.how] at h0 h1 ha hbb
  refine P_runH c6 0 (by kernel_rfl) (by kernel_rfl) rfl (fun r hr => ?_)
  by_cases hf : c.few
  · by_cases hk : c.chk = 0
    · have ok := (chk_iff c).1 hk
      have hg : ¬ (modelBad c.kind c.out c.hid c.frac ∨ modelFail c.kind c.inn c.out c.hid) := ok.good
      have hr' := hr.out; clear hr; subst hr'
      by_cases h2 : badStep a
      · have e1 := how_no (c := c) h2
        simp only [badStep] at h2
        by_cases hab : b < a
        · simp (disch := omega) [c6, Cnf.av, Cnf.cells, hl, h0, hf, h1, hk, hab, ha, hbb, hg, e1]
          repeat' (split <;> (try simp (disch := omega) [*]))
          all_goals (try omega)
        · simp (disch := omega) [c6, Cnf.av, Cnf.cells, hl, h0, hf, h1, hk, hab, ha, hbb, hg, e1]
          repeat' (split <;> (try simp (disch := omega) [*]))
          all_goals (try omega)
      · obtain ⟨a1, a2, a3, a4, a5, a6, a7, a8, a9, a10⟩ := how_ok ok h2
        by_cases h3 : badStep b
        · have e1 := how_no (c := c) h3
          simp only [badStep] at h3
          by_cases hab : b < a
          · simp (disch := omega) [c6, Cnf.av, Cnf.cells, hl, h0, hf, h1, hk, hab, ha, hbb, hg, e1, a3]
            repeat' (split <;> (try simp (disch := omega) [*]))
            all_goals (try omega)
          · simp (disch := omega) [c6, Cnf.av, Cnf.cells, hl, h0, hf, h1, hk, hab, ha, hbb, hg, e1, a3]
            repeat' (split <;> (try simp (disch := omega) [*]))
            all_goals (try omega)
        · obtain ⟨b1, b2, b3, b4, b5, b6, b7, b8, b9, b10⟩ := how_ok ok h3
          simp only [Cnf.dim] at a4 b4 a6 b6 a9 b9
          by_cases hs : c.s = 1
          · rw [hs] at a4 b4 h0 h1 ha hbb
            have a8 := a8 hs
            have a9 := a9 hs
            have b8 := b8 hs
            have b9 := b9 hs
            by_cases hab : b < a
            · have m := how_mono ok h3 h2 hs (by omega)
              simp (disch := omega) [c6, Cnf.av, Cnf.cells, hl, h0, hf, h1, hk, hab, ha, hbb, hg, a1, a2, a3, a4, b1, b2, b3, b4, hs]
              repeat' (split <;> (try simp (disch := omega) [*]))
              all_goals (try omega)
            · have m := how_mono ok h2 h3 hs (by omega)
              simp (disch := omega) [c6, Cnf.av, Cnf.cells, hl, h0, hf, h1, hk, hab, ha, hbb, hg, a1, a2, a3, a4, b1, b2, b3, b4, hs]
              repeat' (split <;> (try simp (disch := omega) [*]))
              all_goals (try omega)
          · have a7 := a7 hs
            have b7 := b7 hs
            rw [a7] at a4
            rw [b7] at b4
            by_cases hab : b < a
            · simp (disch := omega) [c6, Cnf.av, Cnf.cells, hl, h0, hf, h1, hk, hab, ha, hbb, hg, a1, a2, a3, a4, b1, b2, b3, b4, hs, a7, b7]
              repeat' (split <;> (try simp (disch := omega) [*]))
              all_goals (try omega)
            · simp (disch := omega) [c6, Cnf.av, Cnf.cells, hl, h0, hf, h1, hk, hab, ha, hbb, hg, a1, a2, a3, a4, b1, b2, b3, b4, hs, a7, b7]
              repeat' (split <;> (try simp (disch := omega) [*]))
              all_goals (try omega)
    · simp (disch := omega) [c6, Cnf.av, Cnf.cells, hl, h0, hf, h1, hk]
      exact hr.out.symm
  · simp (disch := omega) [c6, Cnf.av, Cnf.cells, hl, h0, hf]
    exact hr.out.symm
theorem one_int {k : IntKind} {a : AV} (h : ATyped (false, [.int k]) a) : ∃ n, a = .int k n ∧ (Lit.int k n).wf = true := by
  cases h with
  | one t a h => exact has_int h
theorem confWarms_law (as : List AV) (h : AllTyped [(true, cCnf), (false, [cI]), (false, [cI])] as) : pure1 (C Q) 6 as = some (.bool true) := by
  cases h with
  | cons h hs =>
    cases hs with
    | cons h1 hs =>
      cases hs with
      | cons h2 hs =>
        cases hs
        cases h with
        | agg tys row h =>
          obtain ⟨c, rfl, hb⟩ := typed_cnf h
          obtain ⟨a, rfl, _⟩ := one_int (k := .i64) h1
          obtain ⟨b, rfl, _⟩ := one_int (k := .i64) h2
          exact confWarms c hb a b
end Go.Abs
