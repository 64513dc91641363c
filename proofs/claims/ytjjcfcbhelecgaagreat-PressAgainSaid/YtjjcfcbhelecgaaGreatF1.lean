import Derived.Test.YtjjcfcbhelecgaaGreatAbsQ
set_option linter.unusedVariables false
set_option linter.unusedSimpArgs false
namespace Go.Abs
@[simp] theorem within_eq (n a b : Int) : pure1 (C Q) 72 [.int .i64 n, .int .i64 a, .int .i64 b] = some (.bool (decide (a ≤ n ∧ n ≤ b))) := by
  refine P_runH c72 0 (by kernel_rfl) (by kernel_rfl) rfl (fun r hr => ?_)
  simp (disch := omega) [c72]
  repeat' (split <;> (try simp (disch := omega) [*]))
  all_goals (have hr' := hr.out; clear hr; subst hr')
  all_goals (try simp [*])
  all_goals (try omega)
  all_goals (repeat' split)
  all_goals (try omega)
@[simp] theorem within64_eq (n a b : Int) : pure1 (C Q) 73 [.int .i64 n, .int .i64 a, .int .i64 b] = some (.bool (decide (a ≤ n ∧ n ≤ b))) := by
  refine P_runH c73 0 (by kernel_rfl) (by kernel_rfl) rfl (fun r hr => ?_)
  simp (disch := omega) [c73]
  repeat' (split <;> (try simp (disch := omega) [*]))
  all_goals (have hr' := hr.out; clear hr; subst hr')
  all_goals (try simp [*])
  all_goals (try omega)
  all_goals (repeat' split)
  all_goals (try omega)
@[simp] theorem linDim_eq (n : Int) : pure1 (C Q) 363 [.int .i64 n] = some (if n < 1 ∨ 16 < n then .tuple [.int .i64 0, .int .i64 1] else .tuple [.int .i64 (n + 1), .int .i64 0]) := by
  refine P_runH c363 0 (by kernel_rfl) (by kernel_rfl) rfl (fun r hr => ?_)
  simp (disch := omega) [c363]
  repeat' (split <;> (try simp (disch := omega) [*]))
  all_goals (have hr' := hr.out; clear hr; subst hr')
  all_goals (try simp [*])
  all_goals (try omega)
  all_goals (repeat' split)
  all_goals (try omega)
@[simp] theorem classes_eq (n : Int) : pure1 (C Q) 392 [.int .i64 n] = some (.bool (decide (1 < n ∧ n ≤ 8))) := by
  refine P_runH c392 0 (by kernel_rfl) (by kernel_rfl) rfl (fun r hr => ?_)
  simp (disch := omega) [c392]
  repeat' (split <;> (try simp (disch := omega) [*]))
  all_goals (have hr' := hr.out; clear hr; subst hr')
  all_goals (try simp [*])
  all_goals (try omega)
  all_goals (repeat' split)
  all_goals (try omega)
@[simp] theorem hides_eq (n : Int) : pure1 (C Q) 419 [.int .i64 n] = some (.bool (decide (0 < n ∧ n ≤ 8))) := by
  refine P_runH c419 0 (by kernel_rfl) (by kernel_rfl) rfl (fun r hr => ?_)
  simp (disch := omega) [c419]
  repeat' (split <;> (try simp (disch := omega) [*]))
  all_goals (have hr' := hr.out; clear hr; subst hr')
  all_goals (try simp [*])
  all_goals (try omega)
  all_goals (repeat' split)
  all_goals (try omega)
@[simp] theorem softDim_eq (n o : Int) : pure1 (C Q) 389 [.int .i64 n, .int .i64 o] = some (if (n < 1 ∨ 16 < n) ∨ ¬ (1 < o ∧ o ≤ 8) then .tuple [.int .i64 0, .int .i64 1] else .tuple [.int .i64 ((n + 1) * o), .int .i64 0]) := by
  refine P_runH c389 0 (by kernel_rfl) (by kernel_rfl) rfl (fun r hr => ?_)
  simp (disch := omega) [c389]
  repeat' (split <;> (try simp (disch := omega) [*]))
  all_goals (have hr' := hr.out; clear hr; subst hr')
  all_goals (try simp [*])
  all_goals (try omega)
  all_goals (repeat' split)
  all_goals (try omega)
theorem mul_bd {a b x y : Int} (h1 : 0 ≤ a) (h2 : a ≤ x) (h3 : 0 ≤ b) (h4 : b ≤ y) : 0 ≤ a * b ∧ a * b ≤ x * y := ⟨Int.mul_nonneg h1 h3, Int.mul_le_mul h2 h4 h3 (by omega)⟩
@[simp] theorem mlpDim_eq (n o : Int) : pure1 (C Q) 416 [.int .i64 n, .int .i64 o] = some (if (n < 1 ∨ 16 < n) ∨ ¬ (0 < o ∧ o ≤ 8) then .tuple [.int .i64 0, .int .i64 1] else .tuple [.int .i64 (o * (n + 1) + o + 1), .int .i64 0]) := by
  refine P_runH c416 0 (by kernel_rfl) (by kernel_rfl) rfl (fun r hr => ?_)
  simp (disch := omega) [c416]
  repeat' (split <;> (try simp (disch := omega) [*]))
  all_goals (have hr' := hr.out; clear hr; subst hr')
  all_goals (try simp [*])
  all_goals (try omega)
  all_goals (repeat' split)
  all_goals (try omega)
  have := mul_bd (a := o) (b := n + 1) (x := 8) (y := 17) (by omega) (by omega) (by omega) (by omega)
  have e1 : IntKind.i64.wrap (o * (n + 1) + o) = o * (n + 1) + o := wrap_i64 (by omega) (by omega)
  simp only [e1, wrap_i64 (n := o * (n + 1) + o + 1) (by omega) (by omega)]
@[simp] theorem straightDim_eq (kind inn out hid frac : Int) : pure1 (C Q) 359 [.agg [.int .i64 kind, .int .i64 inn, .int .i64 out, .int .i64 hid, .int .i64 frac]] = some (if inn < 1 ∨ 16 < inn then .tuple [.int .i64 0, .int .i64 1] else .tuple [.int .i64 (inn + 1), .int .i64 0]) := by
  refine P_runH c359 0 (by kernel_rfl) (by kernel_rfl) rfl (fun r hr => ?_)
  simp (disch := omega) [c359]
  repeat' (split <;> (try simp (disch := omega) [*]))
  all_goals (have hr' := hr.out; clear hr; subst hr')
  all_goals (try simp [*])
  all_goals (try omega)
  all_goals (repeat' split)
  all_goals (try omega)
@[simp] theorem classesDim_eq (kind inn out hid frac : Int) : pure1 (C Q) 385 [.agg [.int .i64 kind, .int .i64 inn, .int .i64 out, .int .i64 hid, .int .i64 frac]] = some (if (inn < 1 ∨ 16 < inn) ∨ ¬ (1 < out ∧ out ≤ 8) then .tuple [.int .i64 0, .int .i64 1] else .tuple [.int .i64 ((inn + 1) * out), .int .i64 0]) := by
  refine P_runH c385 0 (by kernel_rfl) (by kernel_rfl) rfl (fun r hr => ?_)
  simp (disch := omega) [c385]
  repeat' (split <;> (try simp (disch := omega) [*]))
  all_goals (have hr' := hr.out; clear hr; subst hr')
  all_goals (try simp [*])
  all_goals (try omega)
  all_goals (repeat' split)
  all_goals (try omega)
@[simp] theorem layersDim_eq (kind inn out hid frac : Int) : pure1 (C Q) 412 [.agg [.int .i64 kind, .int .i64 inn, .int .i64 out, .int .i64 hid, .int .i64 frac]] = some (if (inn < 1 ∨ 16 < inn) ∨ ¬ (0 < hid ∧ hid ≤ 8) then .tuple [.int .i64 0, .int .i64 1] else .tuple [.int .i64 (hid * (inn + 1) + hid + 1), .int .i64 0]) := by
  refine P_runH c412 0 (by kernel_rfl) (by kernel_rfl) rfl (fun r hr => ?_)
  simp (disch := omega) [c412]
  repeat' (split <;> (try simp (disch := omega) [*]))
  all_goals (have hr' := hr.out; clear hr; subst hr')
  all_goals (try simp [*])
  all_goals (try omega)
  all_goals (repeat' split)
  all_goals (try omega)
/-- How many numbers a model has. -/
def modelN (kind inn out hid : Int) : Int := if kind = 0 then inn + 1 else if kind = 1 then (inn + 1) * out else hid * (inn + 1) + hid + 1
/-- A model's kind, as it is looked up. -/
def modelK (kind inn out hid frac : Int) : AV := .iface (if kind = 0 then 177 else if kind = 1 then 178 else 179) (.agg [.int .i64 kind, .int .i64 inn, .int .i64 out, .int .i64 hid, .int .i64 frac])
def modelBad (kind out hid frac : Int) : Prop := ((((kind ≠ 0 ∧ kind ≠ 1 ∧ kind ≠ 2) ∨ frac < 0) ∨ 30 < frac) ∨ (kind ≠ 1 ∧ out ≠ 0)) ∨ (kind ≠ 2 ∧ hid ≠ 0)
instance (kind out hid frac : Int) : Decidable (modelBad kind out hid frac) := by unfold modelBad; infer_instance
def modelFail (kind inn out hid : Int) : Prop := (inn < 1 ∨ 16 < inn) ∨ (kind = 1 ∧ ¬ (1 < out ∧ out ≤ 8)) ∨ (kind = 2 ∧ ¬ (0 < hid ∧ hid ≤ 8))
instance (kind inn out hid : Int) : Decidable (modelFail kind inn out hid) := by unfold modelFail; infer_instance
@[simp] theorem of_eq (kind inn out hid frac : Int) : pure1 (C Q) 77 [.agg [.int .i64 kind, .int .i64 inn, .int .i64 out, .int .i64 hid, .int .i64 frac]] = some (if modelBad kind out hid frac then .tuple [.nilif, .int .i64 0, .int .i64 1] else .tuple [modelK kind inn out hid frac, .int .i64 (if modelFail kind inn out hid then 0 else modelN kind inn out hid), .int .i64 (if modelFail kind inn out hid then 1 else 0)]) := by
  refine P_runH c77 0 (by kernel_rfl) (by kernel_rfl) rfl (fun r hr => ?_)
  simp (disch := omega) [c77]
  repeat' (split <;> (try simp (disch := omega) [*]))
  all_goals (have hr' := hr.out; clear hr; subst hr')
  all_goals (try simp [*, modelBad, modelFail, modelN, modelK])
  all_goals (try omega)
  all_goals (repeat' split)
  all_goals (try omega)
@[simp] theorem modelDim_eq (kind inn out hid frac : Int) : pure1 (C Q) 28 [.agg [.int .i64 kind, .int .i64 inn, .int .i64 out, .int .i64 hid, .int .i64 frac]] = some (if modelBad kind out hid frac ∨ modelFail kind inn out hid then .tuple [.int .i64 0, .int .i64 1] else .tuple [.int .i64 (modelN kind inn out hid), .int .i64 0]) := by
  refine P_runH c28 0 (by kernel_rfl) (by kernel_rfl) rfl (fun r hr => ?_)
  simp (disch := omega) [c28, modelK]
  repeat' (split <;> (try simp (disch := omega) [*, modelK]))
  all_goals (have hr' := hr.out; clear hr; subst hr')
  all_goals (try simp [*, modelK])
  all_goals (try omega)
  all_goals (repeat' split)
  all_goals (try omega)
end Go.Abs
