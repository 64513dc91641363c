import Derived.Test.YtjjcfcbhelecgaaGreatF3
set_option linter.unusedVariables false
set_option linter.unusedSimpArgs false
namespace Go.Abs
def wayA (a b c d : Nat) : AV := .agg [.func (.func a) [] [], .func (.func b) [] [], .func (.func c) [] [], .func (.func d) [] []]
@[simp] theorem ways_eq : pure1 (C Q) 52 [] = some (.mp [(0, wayA 99 100 101 103), (1, wayA 104 105 106 108), (2, wayA 110 111 113 114), (3, wayA 99 116 118 119)]) := by
  refine P_run c52 0 (by kernel_rfl) (by kernel_rfl) rfl ?_
  simp [c52, wayA]
@[simp] theorem bare_eq (s k w dim : Int) : pure1 (C Q) 99 [.agg [.int .i64 s, .int .i64 k, .int .i64 w], .int .i64 dim] = some (.bool (decide (k = 0 ∧ w = 0))) := by
  refine P_run c99 0 (by kernel_rfl) (by kernel_rfl) rfl ?_
  simp [c99]
  split <;> simp [*]
@[simp] theorem may1_eq (s k w dim : Int) : pure1 (C Q) 104 [.agg [.int .i64 s, .int .i64 k, .int .i64 w], .int .i64 dim] = some (.bool (decide (0 ≤ k ∧ k ≤ dim ∧ w = 0))) := by
  refine P_runH c104 0 (by kernel_rfl) (by kernel_rfl) rfl (fun r hr => ?_)
  simp [c104]
  repeat' (split <;> (try simp (disch := omega) [*]))
  all_goals (have hr' := hr.out; clear hr; subst hr')
  all_goals (try simp [*])
@[simp] theorem may2_eq (s k w dim : Int) : pure1 (C Q) 110 [.agg [.int .i64 s, .int .i64 k, .int .i64 w], .int .i64 dim] = some (.bool (decide (k = 0 ∧ 0 < w ∧ w ≤ 8))) := by
  refine P_runH c110 0 (by kernel_rfl) (by kernel_rfl) rfl (fun r hr => ?_)
  simp [c110]
  repeat' (split <;> (try simp (disch := omega) [*]))
  all_goals (have hr' := hr.out; clear hr; subst hr')
  all_goals (try simp [*])
/-- Whether a way may be, of so many numbers. -/
def mayHow (s k w dim : Int) : Prop := (s = 0 ∧ k = 0 ∧ w = 0) ∨ (s = 1 ∧ 0 ≤ k ∧ k ≤ dim ∧ w = 0) ∨ (s = 2 ∧ k = 0 ∧ 0 < w ∧ w ≤ 8) ∨ (s = 3 ∧ k = 0 ∧ w = 0)
instance (s k w dim : Int) : Decidable (mayHow s k w dim) := by unfold mayHow; infer_instance
def pressChk (s k w dim : Int) : Int := if dim < 1 then 1 else if 4096 < dim then 1 else if mayHow s k w dim then 0 else 1
@[simp] theorem pressCheck_eq (s k w dim : Int) : pure1 (C Q) 30 [.agg [.int .i64 s, .int .i64 k, .int .i64 w], .int .i64 dim] = some (.int .i64 (pressChk s k w dim)) := by
  refine P_runH c30 0 (by kernel_rfl) (by kernel_rfl) rfl (fun r hr => ?_)
  by_cases h0 : s = 0
  · subst h0
    simp [c30, wayA]
    repeat' (split <;> (try simp (disch := omega) [*]))
    all_goals (have hr' := hr.out; clear hr; subst hr')
    all_goals (try simp [*, pressChk, mayHow])
    all_goals (try omega)
  · by_cases h1 : s = 1
    · subst h1
      simp [c30, wayA]
      repeat' (split <;> (try simp (disch := omega) [*]))
      all_goals (have hr' := hr.out; clear hr; subst hr')
      all_goals (try simp [*, pressChk, mayHow])
      all_goals (try omega)
    · by_cases h2 : s = 2
      · subst h2
        simp [c30, wayA]
        repeat' (split <;> (try simp (disch := omega) [*]))
        all_goals (have hr' := hr.out; clear hr; subst hr')
        all_goals (try simp [*, pressChk, mayHow])
        all_goals (try omega)
      · by_cases h3 : s = 3
        · subst h3
          simp [c30, wayA]
          repeat' (split <;> (try simp (disch := omega) [*]))
          all_goals (have hr' := hr.out; clear hr; subst hr')
          all_goals (try simp [*, pressChk, mayHow])
          all_goals (try omega)
        · simp [c30, wayA, *]
          repeat' (split <;> (try simp (disch := omega) [*]))
          all_goals (have hr' := hr.out; clear hr; subst hr')
          all_goals (try simp [*, pressChk, mayHow])
          all_goals (try omega)

/-- A run. -/
structure Cnf where
  n : Int
  kind : Int
  inn : Int
  out : Int
  hid : Int
  frac : Int
  s : Int
  k : Int
  w : Int
  warm : Int
  rate : Int
  mom : Int
  clip : Int
  batch : Int
  seed : Int
  l : List Smp
  full : Bool
def Cnf.cells (c : Cnf) : List AV := [.int .i64 c.n, .int .i64 c.kind, .int .i64 c.inn, .int .i64 c.out, .int .i64 c.hid, .int .i64 c.frac, .int .i64 c.s, .int .i64 c.k, .int .i64 c.w, .int .i64 c.warm, .int .i64 c.rate, .int .i64 c.mom, .int .i64 c.clip, .int .i64 c.batch, .int .u64 c.seed, .lst (smps c.l) c.full]
def Cnf.av (c : Cnf) : AV := .agg c.cells
def Cnf.bad (c : Cnf) : Prop := modelBad c.kind c.out c.hid c.frac ∨ modelFail c.kind c.inn c.out c.hid
instance (c : Cnf) : Decidable c.bad := by unfold Cnf.bad; infer_instance
def Cnf.dim (c : Cnf) : Int := modelN c.kind c.inn c.out c.hid
/-- A sample goes with the run's model. -/
def Cnf.misfit (c : Cnf) (s : Smp) : Bool := decide (fitsChk c.kind c.inn c.out c.hid c.frac c.dim.toNat [s] ≠ 0)
def Cnf.few (c : Cnf) : Prop := c.l.all (fun s => decide (s.xs.length ≤ 100)) = true ∧ (c.l.length : Int) ≤ 300
instance (c : Cnf) : Decidable c.few := by unfold Cnf.few; infer_instance
theorem few_eq (c : Cnf) (hb : c.l.length ≤ 9223372036854775807) : pure1 (C Q) 26 [c.av] = some (.bool (decide c.few)) := by
  refine WP.eq (P_W c26 (c.l.length + 1) (by kernel_rfl) (by kernel_rfl) rfl ?_)
  simp (disch := omega) [c26, Cnf.av]
  have hc : c.cells.length = 16 := rfl
  have hg : c.cells[15]? = some (.lst (smps c.l) c.full) := rfl
  have hd : c.cells.drop 15 = [.lst (smps c.l) c.full] := rfl
  simp (disch := omega) [hc, hd]
  by_cases hx : c.l.findIdx (fun s => decide (100 < s.xs.length)) < c.l.length
  · have hs : decide c.few = false := by
      have := List.findIdx_getElem (w := hx)
      simp only [Cnf.few, decide_eq_false_iff_not, not_and, List.all_eq_true, decide_eq_true_eq]
      intro h
      have h1 := h _ (List.getElem_mem hx)
      simp only [decide_eq_true_eq] at this
      omega
    refine W_loop (fun i => [(1, .ptr 0 0 0 0), (6, .lst (smps c.l) c.full), (7, .int .i64 c.l.length), (8, .int .i64 i)]) (fun i H => ∃ G, H = [⟨0, false, .cells 16 [c.cells]⟩] ++ G) (c.l.findIdx (fun s => decide (100 < s.xs.length))) (by omega) (by simp) ⟨[], rfl⟩ ?_ ?_
    · rintro i hi H ⟨G, rfl⟩
      have hi' : i < c.l.length := by omega
      have h1 := smps_get hi'
      have h2 : ¬ 100 < (c.l[i]).xs.length := by simpa using List.not_of_lt_findIdx hi
      have h3 : ¬ 100 < ((c.l[i]).xs.length : Int) := by omega
      simp (disch := omega) [*, Smp.row]
    · rintro H ⟨G, rfl⟩
      have h1 := smps_get hx
      have h2 : 100 < ((c.l[c.l.findIdx (fun s => decide (100 < s.xs.length))]).xs.length : Int) := by
        have := List.findIdx_getElem (w := hx)
        simp only [decide_eq_true_eq] at this
        omega
      rw [hs]
      simp (disch := omega) [h1, h2, Smp.row, hx]
  · have hall : ∀ i (h : i < c.l.length), ¬ 100 < (c.l[i]).xs.length := fun i h h' => hx (List.findIdx_lt_length_of_exists ⟨c.l[i], List.getElem_mem h, by simpa using h'⟩)
    refine W_loop (fun i => [(1, .ptr 0 0 0 0), (6, .lst (smps c.l) c.full), (7, .int .i64 c.l.length), (8, .int .i64 i)]) (fun i H => ∃ G, H = [⟨0, false, .cells 16 [c.cells]⟩] ++ G) c.l.length (by omega) (by simp) ⟨[], rfl⟩ ?_ ?_
    · rintro i hi H ⟨G, rfl⟩
      have h1 := smps_get hi
      have h3 : ¬ 100 < ((c.l[i]).xs.length : Int) := by have := hall i hi; omega
      simp (disch := omega) [*, Smp.row]
    · rintro H ⟨G, rfl⟩
      have h4 : c.l.all (fun s => decide (s.xs.length ≤ 100)) = true := by
        rw [List.all_eq_true]
        intro s hs
        obtain ⟨i, hi, rfl⟩ := List.mem_iff_getElem.1 hs
        have := hall i hi
        simp; omega
      simp (disch := omega) [hc, hd, Cnf.few, h4]
def Cnf.H0 (c : Cnf) : Heap := [⟨0, false, .cells 16 [c.cells]⟩, ⟨0, false, .cells 1 (List.replicate c.dim.toNat [.int .i64 0])⟩, ⟨0, false, .cells 1 [[.sl 1 0 0 c.dim.toNat]]⟩]
theorem clo75 (c : Cnf) (s : Smp) : Clo c.H0 75 [.agg s.row, .ptr 0 0 0 0, .ptr 2 0 0 0] (.bool (c.misfit s)) := by
  have h1 := modelFits_eq c.kind c.inn c.out c.hid c.frac (List.replicate c.dim.toNat [.int .i64 0]) false [s] true (by simp)
  refine clo_of fun G => ?_
  simp [Smp.row, Cnf.H0]
  refine C_W c75 0 (by kernel_rfl) (by kernel_rfl) rfl ?_
  simp [smps, Smp.row] at h1
  simp [c75, Cnf.cells, h1, clo, cloAll, cloRows, Cnf.misfit]
def pMis (c : Cnf) : Row → Bool
  | [.lst xs f, .int _ y] => c.misfit ⟨xs, f, y⟩
  | _ => false
theorem any_mis (c : Cnf) (l : List Smp) : (smps l).any (pMis c) = l.any c.misfit := by
  simp only [smps, List.any_map]
  congr 1
def Cnf.chk (c : Cnf) : Int :=
  if c.bad then 1 else if pressChk c.s c.k c.w c.dim ≠ 0 then 1
  else if ¬ (1 ≤ c.n ∧ c.n ≤ 64) then 1 else if ¬ (0 ≤ c.warm ∧ c.warm ≤ 1048576) then 1 else if ¬ (0 ≤ c.rate ∧ c.rate ≤ pw c.frac) then 1 else if ¬ (0 ≤ c.mom ∧ c.mom ≤ pw c.frac) then 1 else if c.clip < 0 then 1
  else if 256 < (c.l.length : Int) then 1 else if ¬ (1 ≤ c.batch ∧ c.batch ≤ if (c.l.length : Int) < 64 then (c.l.length : Int) else 64) then 1
  else if c.l.any c.misfit = true then 1 else 0
theorem modelN_bd {kind inn out hid : Int} (hf : ¬ modelFail kind inn out hid) (hk : kind = 0 ∨ kind = 1 ∨ kind = 2) : 1 ≤ modelN kind inn out hid ∧ modelN kind inn out hid ≤ 4096 := by
  simp only [modelFail, not_or] at hf
  obtain ⟨h1, h2, h3⟩ := hf
  rcases hk with rfl | rfl | rfl
  · simp only [modelN, if_true]; omega
  · have := mul_bd (a := inn + 1) (b := out) (x := 17) (y := 8) (by omega) (by omega) (by omega) (by omega)
    have h4 : 1 * 1 ≤ (inn + 1) * out := Int.mul_le_mul (by omega) (by omega) (by omega) (by omega)
    simp only [modelN]; simp; omega
  · have := mul_bd (a := hid) (b := inn + 1) (x := 8) (y := 17) (by omega) (by omega) (by omega) (by omega)
    simp only [modelN]; simp; omega
theorem Cnf.frac_bd {c : Cnf} (h : ¬ c.bad) : 0 ≤ c.frac ∧ c.frac ≤ 30 := by
  simp only [Cnf.bad, modelBad] at h; omega
theorem Cnf.dim_bd {c : Cnf} (h : ¬ c.bad) : 1 ≤ modelN c.kind c.inn c.out c.hid ∧ modelN c.kind c.inn c.out c.hid ≤ 4096 :=
  modelN_bd (fun hf => h (.inr hf)) (by simp only [Cnf.bad, modelBad] at h; omega)
theorem confCheck_eq (c : Cnf) (hb : c.l.length ≤ 9223372036854775807) : pure1 (C Q) 27 [c.av] = some (.int .i64 c.chk) := by
  have hb' : (smps c.l).length ≤ 9223372036854775807 := by simpa using hb
  obtain ⟨⟨a1, H1⟩, h1, rfl, G1, h1'⟩ := contains_sample c.H0 (smps c.l) c.full 75 [.ptr 0 0 0 0, .ptr 2 0 0 0] (pMis c) (by simp) hb' (smps_sz c.l)
    (fun r hr => by obtain ⟨s, _, rfl⟩ := List.mem_map.1 hr; exact clo75 c s) _ ⟨[], rfl⟩
  simp only at h1'
  subst h1'
  rw [any_mis] at h1
  simp only [List.append_nil, Cnf.H0, Cnf.dim, Cnf.cells] at h1
  refine P_runH c27 0 (by kernel_rfl) (by kernel_rfl) rfl (fun r hr => ?_)
  by_cases hbad : c.bad
  · have hr' := hr.out; clear hr; subst hr'
    have h2 : modelBad c.kind c.out c.hid c.frac ∨ modelFail c.kind c.inn c.out c.hid := hbad
    simp (disch := omega) [c27, Cnf.av, Cnf.cells, h2, Cnf.chk, hbad]
  · have h2 : ¬ (modelBad c.kind c.out c.hid c.frac ∨ modelFail c.kind c.inn c.out c.hid) := hbad
    obtain ⟨hf0, hf1⟩ := Cnf.frac_bd hbad
    obtain ⟨hd0, hd1⟩ := Cnf.dim_bd hbad
    simp only [List.cons_append, List.nil_append] at h1
    simp (disch := omega) [c27, Cnf.av, Cnf.cells, h2]
    repeat' (split <;> (try simp (disch := omega) [*]))
    all_goals (have hr' := hr.out; clear hr; subst hr')
    all_goals (try simp [*, Cnf.chk, Cnf.dim])
    all_goals (try omega)
    all_goals (repeat' split)
    all_goals (try omega)
    all_goals trace_state
end Go.Abs
