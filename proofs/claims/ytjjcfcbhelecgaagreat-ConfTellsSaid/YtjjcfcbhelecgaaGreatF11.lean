/- The samples that are seen, how vectors are pressed: the program's and the document's; ConfTells. Conditions: those of each lemma. -/
import Derived.Test.YtjjcfcbhelecgaaGreatF10
set_option linter.unusedVariables false
set_option linter.unusedSimpArgs false
namespace Go.Abs
@[simp] theorem keep18_eq (dim k warm step : Int) : pure1 (C Q) 35 [.int .i64 dim, .int .i64 k, .int .i64 warm, .int .i64 step] = some (if keepBad dim k warm step then .tuple [.int .i64 0, .int .i64 1] else .tuple [.int .i64 (keepV dim k warm step), .int .i64 0]) := by
  refine P_runH c35 0 (by kernel_rfl) (by kernel_rfl) rfl (fun r hr => ?_)
  by_cases hb : keepBad dim k warm step
  · simp -implicitDefEqProofs (disch := omega) [c35]
    repeat' (split <;> (try simp -implicitDefEqProofs (disch := omega) [*]))
    all_goals (have hr' := hr.out; clear hr; subst hr')
    all_goals (try simp [hb])
    all_goals (simp only [keepBad] at hb; omega)
  · have hb' := hb
    simp only [keepBad, not_or, Decidable.not_not] at hb'
    obtain ⟨⟨⟨⟨h1, h1'⟩, ⟨h2, h2'⟩⟩, ⟨h3, h3'⟩⟩, ⟨h4, h4'⟩⟩ := hb'
    have k1 : ¬ dim < 1 := by omega
    have k2 : ¬ 4096 < dim := by omega
    have k3 : ¬ k < 0 := by omega
    have k4 : ¬ dim < k := by omega
    have k5 : ¬ warm < 0 := by omega
    have k6 : ¬ 1048576 < warm := by omega
    have k7 : ¬ step < 0 := by omega
    have k8 : ¬ 1073741824 < step := by omega
    by_cases hs : warm ≤ step
    · simp -implicitDefEqProofs (disch := omega) [c35, k1, k2, k3, k4, k5, k6, k7, k8, hs]
      have hr' := hr.out; clear hr; subst hr'
      simp [hb, keepV, hs]
    · obtain ⟨h5, h6, h7, h8⟩ := keep_bd hb (by omega)
      simp -implicitDefEqProofs (disch := omega) [c35, k1, k2, k3, k4, k5, k6, k7, k8, hs]
      have hr' := hr.out; clear hr; subst hr'
      simp [hb, keepV, hs]
theorem how18_eq (c : Cnf) (hb : c.l.length ≤ 9223372036854775807) (step : Int) : pure1 (C Q) 31 [c.av, .int .i64 step] = some (c.how step) := by
  have h1 := r18Check_eq c hb
  simp only [Cnf.av, Cnf.cells] at h1
  refine P_runH c31 0 (by kernel_rfl) (by kernel_rfl) rfl (fun r hr => ?_)
  by_cases hk : c.chk = 0
  · have ok := (chk_iff c).1 hk
    have hg : ¬ (modelBad c.kind c.out c.hid c.frac ∨ modelFail c.kind c.inn c.out c.hid) := ok.good
    by_cases hs : badStep step
    · have hs' := hs
      simp only [badStep] at hs'
      by_cases hs0 : step < 0
      · simp -implicitDefEqProofs (disch := omega) [c31, Cnf.av, Cnf.cells, h1, hk, hs0]
        have hr' := hr.out; clear hr; subst hr'
        simp [Cnf.how, Cnf.hS, Cnf.hK, Cnf.hW, Cnf.hE, Cnf.hBad, hs]
      · have hs1 : 1073741824 < step := by omega
        simp -implicitDefEqProofs (disch := omega) [c31, Cnf.av, Cnf.cells, h1, hk, hs0, hs1]
        have hr' := hr.out; clear hr; subst hr'
        simp [Cnf.how, Cnf.hS, Cnf.hK, Cnf.hW, Cnf.hE, Cnf.hBad, hs]
    · have hs' := hs
      simp only [badStep, Decidable.not_not] at hs'
      have hs0 : ¬ step < 0 := by omega
      have hs1 : ¬ 1073741824 < step := by omega
      by_cases h3 : c.s = 1
      · have h4 := keep_good ok h3 hs
        simp only [Cnf.dim] at h4
        rw [h3] at h1
        simp -implicitDefEqProofs (disch := omega) [c31, Cnf.av, Cnf.cells, h1, hk, hg, h3, h4, hs0, hs1]
        have hr' := hr.out; clear hr; subst hr'
        simp [Cnf.how, Cnf.hS, Cnf.hK, Cnf.hW, Cnf.hE, Cnf.hBad, hs, h3, Cnf.dim, hk]
      · simp -implicitDefEqProofs (disch := omega) [c31, Cnf.av, Cnf.cells, h1, hk, hg, h3, hs0, hs1]
        have hr' := hr.out; clear hr; subst hr'
        simp [Cnf.how, Cnf.hS, Cnf.hK, Cnf.hW, Cnf.hE, Cnf.hBad, hs, h3, hk]
  · simp -implicitDefEqProofs (disch := omega) [c31, Cnf.av, Cnf.cells, h1, hk]
    have hr' := hr.out; clear hr; subst hr'
    simp [Cnf.how, Cnf.hS, Cnf.hK, Cnf.hW, Cnf.hE, Cnf.hBad, hk]
/-- Some that are drawn. -/
def pkE (many of : Int) : Int := if many < 0 ∨ of < many then 1 else if 4096 < of then 3 else 0
def pkL (many of s : Int) (l : List Int) : List Int := if pkE many of = 0 then (orderD of.toNat s l).take many.toNat else []
@[simp] theorem orderD_length (n : Nat) (s : Int) (l : List Int) : (orderD n s l).length = n := by simp [orderD]
theorem pick_eq (many of s : Int) (l : List Int) (full : Bool) (hb : l.length ≤ 1048576) : pure1 (C Q) 80 [.int .i64 many, .int .i64 of, .int .u64 s, .lst (nums .i64 l) full] = some (.tuple [.lst (nums .i64 (pkL many of s l)) (decide (pkE many of ≠ 0)), .int .i64 (pkE many of)]) := by
  have ho := order_eq of s l full (by omega)
  refine P_run c80 0 (by kernel_rfl) (by kernel_rfl) rfl ?_
  by_cases h1 : many < 0
  · simp -implicitDefEqProofs (disch := omega) [c80, h1, pkL, pkE]
  · by_cases h2 : of < many
    · simp -implicitDefEqProofs (disch := omega) [c80, h1, h2, pkL, pkE]
    · by_cases h3 : 4096 < of
      · have h4 : orderA of s l = .tuple [.lst [] true, .int .i64 3] := by simp [orderA, h3]; omega
        rw [h4] at ho
        simp -implicitDefEqProofs (disch := omega) [c80, h1, h2, ho, pkL, pkE, h3]
      · have h4 : orderA of s l = .tuple [.own (nums .i64 (orderD of.toNat s l)), .int .i64 0] := by simp [orderA, h3]; omega
        rw [h4] at ho
        have h5 : 0 ≤ many := by omega
        have h6 : many.toNat ≤ of.toNat := by omega
        simp -implicitDefEqProofs (disch := omega) [c80, h1, h2, ho, pkL, pkE, h3, h5, h6]
theorem pick8_eq (many of s : Int) (l : List Int) (full : Bool) (hb : l.length ≤ 1048576) : pure1 (C Q) 81 [.int .i64 many, .int .i64 of, .int .u64 s, .lst (nums .i64 l) full] = some (.tuple [.lst (nums .i64 (pkL many of s l)) (decide (pkE many of ≠ 0)), .int .i64 (pkE many of)]) := by
  have ho := order8_eq of s l full (by omega)
  refine P_run c81 0 (by kernel_rfl) (by kernel_rfl) rfl ?_
  by_cases h1 : many < 0
  · simp -implicitDefEqProofs (disch := omega) [c81, h1, pkL, pkE]
  · by_cases h2 : of < many
    · simp -implicitDefEqProofs (disch := omega) [c81, h1, h2, pkL, pkE]
    · by_cases h3 : 4096 < of
      · have h4 : orderA of s l = .tuple [.lst [] true, .int .i64 3] := by simp [orderA, h3]; omega
        rw [h4] at ho
        simp -implicitDefEqProofs (disch := omega) [c81, h1, h2, ho, pkL, pkE, h3]
      · have h4 : orderA of s l = .tuple [.own (nums .i64 (orderD of.toNat s l)), .int .i64 0] := by simp [orderA, h3]; omega
        rw [h4] at ho
        have h5 : 0 ≤ many := by omega
        have h6 : many.toNat ≤ of.toNat := by omega
        simp -implicitDefEqProofs (disch := omega) [c81, h1, h2, ho, pkL, pkE, h3, h5, h6]
/-- A worker's samples. -/
def Cnf.pkBad (c : Cnf) (worker step : Int) : Prop := badStep step ∨ c.chk ≠ 0 ∨ ¬ (0 ≤ worker ∧ worker ≤ c.n - 1)
instance (c : Cnf) (worker step : Int) : Decidable (c.pkBad worker step) := by unfold Cnf.pkBad; infer_instance
def Cnf.pkE (c : Cnf) (worker step : Int) : Int := if c.pkBad worker step then 1 else Abs.pkE c.batch c.l.length
def Cnf.pk (c : Cnf) (worker step : Int) : List Int := if c.pkBad worker step then [] else pkL c.batch c.l.length c.seed [worker, step]
def Cnf.pkF (c : Cnf) (worker step : Int) : Bool := if c.pkBad worker step then true else decide (Abs.pkE c.batch c.l.length ≠ 0)
theorem picks_eq (c : Cnf) (hb : c.l.length ≤ 9223372036854775807) (worker step : Int) : pure1 (C Q) 32 [c.av, .int .i64 worker, .int .i64 step] = some (.tuple [.lst (nums .i64 (c.pk worker step)) (c.pkF worker step), .int .i64 (c.pkE worker step)]) := by
  have h1 := at_eq c hb step
  simp only [Cnf.av, Cnf.cells] at h1
  have hp := pick_eq c.batch c.l.length c.seed [worker, step] true (by simp)
  simp only [nums_cons, nums_nil] at hp
  refine P_runH c32 0 (by kernel_rfl) (by kernel_rfl) rfl (fun r hr => ?_)
  by_cases hs : ¬ badStep step ∧ c.chk = 0
  · obtain ⟨hs1, hs2⟩ := hs
    have ok := (chk_iff c).1 hs2
    have n1 := ok.n1
    have n2 := ok.n2
    by_cases hw : 0 ≤ worker ∧ worker ≤ c.n - 1
    · simp -implicitDefEqProofs (disch := omega) [c32, Cnf.av, Cnf.cells, h1, hs1, hs2, hw, hp]
      have hr' := hr.out; clear hr; subst hr'
      have hb0 : ¬ c.pkBad worker step := by simp only [Cnf.pkBad, hs1, hs2, hw]; simp
      simp [Cnf.pk, Cnf.pkE, Cnf.pkF, hb0]
    · simp -implicitDefEqProofs (disch := omega) [c32, Cnf.av, Cnf.cells, h1, hs1, hs2, hw]
      have hr' := hr.out; clear hr; subst hr'
      have hb0 : c.pkBad worker step := .inr (.inr hw)
      simp [Cnf.pk, Cnf.pkE, Cnf.pkF, hb0]
  · rw [decide_eq_false hs] at h1
    simp -implicitDefEqProofs (disch := omega) [c32, Cnf.av, Cnf.cells, h1]
    have hr' := hr.out; clear hr; subst hr'
    have hb0 : c.pkBad worker step := by simp only [Cnf.pkBad]; by_cases h2 : badStep step; exact .inl h2; exact .inr (.inl fun h3 => hs ⟨h2, h3⟩)
    simp [Cnf.pk, Cnf.pkE, Cnf.pkF, hb0]
theorem picks18_eq (c : Cnf) (hb : c.l.length ≤ 9223372036854775807) (worker step : Int) : pure1 (C Q) 33 [c.av, .int .i64 worker, .int .i64 step] = some (.tuple [.lst (nums .i64 (c.pk worker step)) (c.pkF worker step), .int .i64 (c.pkE worker step)]) := by
  have h1 := r18Check_eq c hb
  simp only [Cnf.av, Cnf.cells] at h1
  have hp := pick8_eq c.batch c.l.length c.seed [worker, step] true (by simp)
  simp only [nums_cons, nums_nil] at hp
  refine P_runH c33 0 (by kernel_rfl) (by kernel_rfl) rfl (fun r hr => ?_)
  by_cases hb0 : c.pkBad worker step
  · simp -implicitDefEqProofs (disch := omega) [c33, Cnf.av, Cnf.cells, h1]
    repeat' (split <;> (try simp -implicitDefEqProofs (disch := omega) [*]))
    all_goals (have hr' := hr.out; clear hr; subst hr')
    all_goals (try simp [Cnf.pk, Cnf.pkE, Cnf.pkF, hb0])
    all_goals (exfalso; simp only [Cnf.pkBad, badStep] at hb0; omega)
  · have hb1 := hb0
    simp only [Cnf.pkBad, badStep, not_or, Decidable.not_not, ne_eq] at hb1
    obtain ⟨hs1, hk, hw⟩ := hb1
    have k1 : ¬ step < 0 := by omega
    have k2 : ¬ 1073741824 < step := by omega
    have k3 : ¬ worker < 0 := by omega
    have k4 : ¬ c.n ≤ worker := by omega
    simp -implicitDefEqProofs (disch := omega) [c33, Cnf.av, Cnf.cells, h1, hk, k1, k2, k3, k4, hp]
    have hr' := hr.out; clear hr; subst hr'
    simp [Cnf.pk, Cnf.pkE, Cnf.pkF, hb0]
theorem equal6_eq (a b : List Int) (f g : Bool) (hb : a.length ≤ 9223372036854775807) : pure1 (C Q) 37 [.lst (nums .i64 a) f, .lst (nums .i64 b) g] = some (.bool (decide (a = b))) := by
  by_cases hl : a.length = b.length
  · by_cases hd : diff a b < a.length
    · have hne := diff_at hl hd
      have hn := diff_ne hl hd
      generalize hm : diff a b = m at *
      have hmb : m < b.length := by omega
      refine P_run c37 (a.length + 1) (by kernel_rfl) (by kernel_rfl) rfl ?_
      simp -implicitDefEqProofs (disch := omega) [c37, hl, hn]
      refine R_loop (fun i => [(0, .lst (nums .i64 a) f), (1, .lst (nums .i64 b) g), (12, .int .i64 b.length), (13, .int .i64 i)]) (fun i => []) m (by omega) (by simp) rfl ?_ ?_
      · intro i hi
        have h1 := diff_before hl (by rw [hm]; exact hi) (by omega) (by omega)
        have h2 : i < a.length := by omega
        have h3 : i < b.length := by omega
        simp -implicitDefEqProofs (disch := omega) [h1, h2, h3]
      · simp -implicitDefEqProofs (disch := omega) [hd, hmb, hne]
    · have he := diff_eq hl hd
      subst he
      refine P_run c37 (a.length + 1) (by kernel_rfl) (by kernel_rfl) rfl ?_
      simp -implicitDefEqProofs (disch := omega) [c37]
      refine R_loop (fun i => [(0, .lst (nums .i64 a) f), (1, .lst (nums .i64 a) g), (12, .int .i64 a.length), (13, .int .i64 i)]) (fun i => []) a.length (by omega) (by simp) rfl ?_ ?_
      · intro i hi
        simp -implicitDefEqProofs (disch := omega) [hi]
      · simp -implicitDefEqProofs (disch := omega)
  · have hn : ¬ a = b := fun h => hl (by rw [h])
    have hl' : ¬ (a.length : Int) = b.length := by omega
    refine P_run c37 0 (by kernel_rfl) (by kernel_rfl) rfl ?_
    simp -implicitDefEqProofs (disch := omega) [c37, hl', hn]
theorem pk_length (c : Cnf) (worker step : Int) : (c.pk worker step).length ≤ 4096 := by
  unfold Cnf.pk
  split
  · simp
  · unfold pkL
    split
    · rename_i h
      unfold Abs.pkE at h
      simp only [List.length_take, orderD_length]
      split at h <;> (try omega)
    · simp
theorem confTells (c : Cnf) (hb : c.l.length ≤ 9223372036854775807) (worker step k : Int) : pure1 (C Q) 7 [c.av, .int .i64 worker, .int .i64 step, .int .i64 k] = some (.bool true) := by
  have hl := live18
  have h0 := few_eq c hb
  have h1 := confCheck_eq c hb
  have h2 := r18Check_eq c hb
  have h3 := how_eq c hb step
  have h4 := how18_eq c hb step
  have h5 := picks_eq c hb worker step
  have h6 := picks18_eq c hb worker step
  have h7 := equal6_eq (c.pk worker step) (c.pk worker step) (c.pkF worker step) (c.pkF worker step) (by have := pk_length c worker step; omega)
  rw [decide_eq_true rfl] at h7
  simp only [Cnf.av, Cnf.cells, Cnf.how] at h0 h1 h2 h3 h4 h5 h6
  refine P_run c7 0 (by kernel_rfl) (by kernel_rfl) rfl ?_
  by_cases hf : c.few
  · by_cases hk : keepBad c.batch k c.warm step
    · simp -implicitDefEqProofs (disch := omega) [c7, Cnf.av, Cnf.cells, hl, h0, hf, h1, h2, h3, h4, h5, h6, h7, hk]
    · simp -implicitDefEqProofs (disch := omega) [c7, Cnf.av, Cnf.cells, hl, h0, hf, h1, h2, h3, h4, h5, h6, h7, hk]
  · simp -implicitDefEqProofs (disch := omega) [c7, Cnf.av, Cnf.cells, hl, h0, hf]
theorem confTells_law (as : List AV) (h : AllTyped [(true, cCnf), (false, [cI]), (false, [cI]), (false, [cI])] as) : pure1 (C Q) 7 as = some (.bool true) := by
  cases h with
  | cons h hs =>
    cases hs with
    | cons h1 hs =>
      cases hs with
      | cons h2 hs =>
        cases hs with
        | cons h3 hs =>
          cases hs
          cases h with
          | agg tys row h =>
            obtain ⟨c, rfl, hb⟩ := typed_cnf h
            obtain ⟨a, rfl, _⟩ := one_int (k := .i64) h1
            obtain ⟨b, rfl, _⟩ := one_int (k := .i64) h2
            obtain ⟨d, rfl, _⟩ := one_int (k := .i64) h3
            exact confTells c hb a b d
end Go.Abs
