import Derived.Test.YtjjcfcbhelecgaaGreatF2
set_option linter.unusedVariables false
set_option linter.unusedSimpArgs false
namespace Go.Abs
/-- A sample. -/
structure Smp where
  xs : Rows
  f : Bool
  y : Int
def Smp.row (s : Smp) : Row := [.lst s.xs s.f, .int .i64 s.y]
def smps (l : List Smp) : Rows := l.map Smp.row
@[simp] theorem smps_length (l : List Smp) : (smps l).length = l.length := by simp [smps]
theorem smps_get {l : List Smp} {i : Nat} (h : i < l.length) : (smps l)[i]? = some (l[i]).row := by simp [smps, h]
theorem smps_sz (l : List Smp) : ∀ r ∈ smps l, r.length = 2 := by
  intro r hr
  obtain ⟨s, _, rfl⟩ := List.mem_map.1 hr
  rfl
def allFit (inn : Int) (l : List Smp) : Bool := l.all fun s => decide ((s.xs.length : Int) = inn)
theorem allFit_succ (inn : Int) (l : List Smp) (i : Nat) (h : i < l.length) : allFit inn (l.take (i + 1)) = (allFit inn (l.take i) && decide (((l[i]).xs.length : Int) = inn)) := by
  rw [allFit, List.take_succ_eq_append_getElem h, List.all_append]
  simp [allFit]
def fitB (inn : Int) (n : Nat) (l : List Smp) (i : Nat) : Bool := decide ((n : Int) = inn + 1) && allFit inn (l.take i)
theorem fitB_zero (inn : Int) (n : Nat) (l : List Smp) : fitB inn n l 0 = decide ((n : Int) = inn + 1) := by simp [fitB, allFit]
theorem fitB_succ (inn : Int) (n : Nat) (l : List Smp) (i : Nat) (h : i < l.length) : fitB inn n l (i + 1) = (fitB inn n l i && decide (((l[i]).xs.length : Int) = inn)) := by
  rw [fitB, allFit_succ inn l i h, fitB, Bool.and_assoc]
theorem fitB_end (inn : Int) (n : Nat) (l : List Smp) : fitB inn n l l.length = (decide ((n : Int) = inn + 1) && allFit inn l) := by simp [fitB]
@[simp] theorem linCheck_eq (inn : Int) (ws : Rows) (fw : Bool) (l : List Smp) (full : Bool) (hb : l.length ≤ 9223372036854775807) :
    pure1 (C Q) 364 [.int .i64 inn, .lst ws fw, .lst (smps l) full] = some (.int .i64 (if inn < 1 ∨ 16 < inn then 1 else if ¬ (((ws.length : Int) = inn + 1) ∧ allFit inn l = true) then 4 else if l.length = 0 ∨ 64 < (l.length : Int) then 1 else 0)) := by
  refine WP.eq (P_W c364 (l.length + 1) (by kernel_rfl) (by kernel_rfl) rfl ?_)
  simp (disch := omega) [c364]
  by_cases hi : inn < 1 ∨ 16 < inn
  · simp [*]
  · simp [*]
    refine W_loop (fun i => [(0, .int .i64 inn), (2, .lst (smps l) full), (9, .bool (fitB inn ws.length l i)), (24, .lst (smps l) full), (25, .int .i64 l.length), (26, .int .i64 i)]) (fun i H => True) l.length (by omega) (by simp [fitB_zero]) trivial ?_ ?_
    · rintro i hi H -
      have h1 := smps_get hi
      have h2 := fitB_succ inn ws.length l i hi
      cases hB : fitB inn ws.length l i
      · simp (disch := omega) [*, Smp.row]
      · simp (disch := omega) [*, Smp.row]
    · rintro H -
      have h2 := fitB_end inn ws.length l
      cases hB : fitB inn ws.length l l.length
      · rw [hB] at h2
        have h3 : ¬ ((ws.length : Int) = inn + 1 ∧ allFit inn l = true) := by simpa using h2.symm
        clear h2
        simp (disch := omega) [*, -not_and]
      · rw [hB] at h2
        have h3 : (ws.length : Int) = inn + 1 ∧ allFit inn l = true := by simpa using h2.symm
        clear h2
        simp (disch := omega) [*]
        repeat' (split <;> (try simp (disch := omega) [*]))
        all_goals (try omega)

theorem clo_of {H0 : Heap} {g : FuncId} {as : List AV} {r : AV} (h : ∀ G, WP (doCall (C Q) g as .auto (H0 ++ G)) (fun x => x.1 = r ∧ ∃ G', x.2 = H0 ++ G')) : Clo H0 g as r := fun G => by
  obtain ⟨⟨a, H'⟩, h1, h2, G', h3⟩ := h G
  simp only at h2 h3
  subst h2 h3
  exact ⟨G', h1⟩
theorem clo393 (inn : Int) (b : Blk) (s : Smp) : Clo [⟨0, false, .cells 1 [[.int .i64 inn]]⟩, b] 393 [.agg s.row, .ptr 0 0 0 0] (.bool (decide ((s.xs.length : Int) ≠ inn))) := by
  refine clo_of fun G => ?_
  simp [Smp.row]
  refine C_W c393 0 (by kernel_rfl) (by kernel_rfl) rfl ?_
  simp [c393]
theorem clo394 (out : Int) (b : Blk) (s : Smp) : Clo [b, ⟨0, false, .cells 1 [[.int .i64 out]]⟩] 394 [.agg s.row, .ptr 1 0 0 0] (.bool (decide (s.y < 0 ∨ out ≤ s.y))) := by
  refine clo_of fun G => ?_
  simp [Smp.row]
  refine C_W c394 0 (by kernel_rfl) (by kernel_rfl) rfl ?_
  simp [c394]
  split <;> simp [*]
theorem clo420 (inn : Int) (s : Smp) : Clo [⟨0, false, .cells 1 [[.int .i64 inn]]⟩] 420 [.agg s.row, .ptr 0 0 0 0] (.bool (decide ((s.xs.length : Int) ≠ inn))) := by
  refine clo_of fun G => ?_
  simp [Smp.row]
  refine C_W c420 0 (by kernel_rfl) (by kernel_rfl) rfl ?_
  simp [c420]
def pLen (inn : Int) : Row → Bool
  | .lst xs _ :: _ => decide ((xs.length : Int) ≠ inn)
  | _ => false
def pOut (out : Int) : Row → Bool
  | [_, .int _ y] => decide (y < 0 ∨ out ≤ y)
  | _ => false
theorem pLen_row (inn : Int) (s : Smp) : pLen inn s.row = decide ((s.xs.length : Int) ≠ inn) := rfl
theorem pOut_row (out : Int) (s : Smp) : pOut out s.row = decide (s.y < 0 ∨ out ≤ s.y) := rfl
def anyOut (out : Int) (l : List Smp) : Bool := l.any fun s => decide (s.y < 0 ∨ out ≤ s.y)
theorem any_len (inn : Int) (l : List Smp) : (smps l).any (pLen inn) = !allFit inn l := by
  simp only [smps, List.any_map, allFit, List.not_all_eq_any_not]
  congr 1
  funext s
  simp [pLen_row]
theorem any_out (out : Int) (l : List Smp) : (smps l).any (pOut out) = anyOut out l := by
  simp only [smps, List.any_map, anyOut]
  congr 1
def softChk (inn out : Int) (n : Nat) (l : List Smp) : Int := if (inn < 1 ∨ 16 < inn) ∨ ¬ (1 < out ∧ out ≤ 8) then 1 else if (n : Int) ≠ (inn + 1) * out then 4 else if allFit inn l = false then 4 else if l.length = 0 then 1 else if 64 < (l.length : Int) then 1 else if anyOut out l = true then 1 else 0
theorem softCheck_eq (inn out : Int) (ws : Rows) (fw : Bool) (l : List Smp) (full : Bool) (hb : l.length ≤ 9223372036854775807) :
    pure1 (C Q) 390 [.int .i64 inn, .int .i64 out, .lst ws fw, .lst (smps l) full] = some (.int .i64 (softChk inn out ws.length l)) := by
  have hb' : (smps l).length ≤ 9223372036854775807 := by simpa using hb
  obtain ⟨⟨a1, H1⟩, h1, rfl, G1, h1'⟩ := contains_sample [⟨0, false, .cells 1 [[.int .i64 inn]]⟩, ⟨0, false, .cells 1 [[.int .i64 out]]⟩] (smps l) full 393 [.ptr 0 0 0 0] (pLen inn) (by simp) hb' (smps_sz l)
    (fun r hr => by obtain ⟨s, _, rfl⟩ := List.mem_map.1 hr; rw [pLen_row]; exact clo393 inn _ s) _ ⟨[], rfl⟩
  simp only at h1'
  subst h1'
  obtain ⟨⟨a2, H2⟩, h2, rfl, G2, h2'⟩ := contains_sample [⟨0, false, .cells 1 [[.int .i64 inn]]⟩, ⟨0, false, .cells 1 [[.int .i64 out]]⟩] (smps l) full 394 [.ptr 1 0 0 0] (pOut out) (by simp) hb' (smps_sz l)
    (fun r hr => by obtain ⟨s, _, rfl⟩ := List.mem_map.1 hr; rw [pOut_row]; exact clo394 out _ s) _ ⟨G1, rfl⟩
  simp only at h2'
  subst h2'
  rw [any_len] at h1
  rw [any_out] at h2
  simp only [List.append_nil, List.cons_append, List.nil_append] at h1 h2
  refine P_runH c390 0 (by kernel_rfl) (by kernel_rfl) rfl (fun r hr => ?_)
  simp (disch := omega) [c390]
  repeat' (split <;> (try simp (disch := omega) [*]))
  all_goals (have hr' := hr.out; clear hr; subst hr')
  all_goals (try simp [*, softChk])
  all_goals (try simp [allFit])
def mlpChk (inn hid : Int) (n : Nat) (l : List Smp) : Int := if (inn < 1 ∨ 16 < inn) ∨ ¬ (0 < hid ∧ hid ≤ 8) then 1 else if (n : Int) ≠ hid * (inn + 1) + hid + 1 then 4 else if allFit inn l = false then 4 else if l.length = 0 then 1 else if 64 < (l.length : Int) then 1 else 0
theorem mlpCheck_eq (inn hid : Int) (ws : Rows) (fw : Bool) (l : List Smp) (full : Bool) (hb : l.length ≤ 9223372036854775807) :
    pure1 (C Q) 417 [.int .i64 inn, .int .i64 hid, .lst ws fw, .lst (smps l) full] = some (.int .i64 (mlpChk inn hid ws.length l)) := by
  have hb' : (smps l).length ≤ 9223372036854775807 := by simpa using hb
  obtain ⟨⟨a1, H1⟩, h1, rfl, G1, h1'⟩ := contains_sample [⟨0, false, .cells 1 [[.int .i64 inn]]⟩] (smps l) full 420 [.ptr 0 0 0 0] (pLen inn) (by simp) hb' (smps_sz l)
    (fun r hr => by obtain ⟨s, _, rfl⟩ := List.mem_map.1 hr; rw [pLen_row]; exact clo420 inn s) _ ⟨[], rfl⟩
  simp only at h1'
  subst h1'
  rw [any_len] at h1
  simp only [List.append_nil, List.cons_append, List.nil_append] at h1
  refine P_runH c417 0 (by kernel_rfl) (by kernel_rfl) rfl (fun r hr => ?_)
  simp (disch := omega) [c417]
  repeat' (split <;> (try simp (disch := omega) [*]))
  all_goals (have hr' := hr.out; clear hr; subst hr')
  all_goals (try simp [*, mlpChk])
  all_goals (try simp [allFit])
/-- Whether a model goes with samples, by its kind's own rule. -/
def linChk (inn : Int) (n : Nat) (l : List Smp) : Int := if inn < 1 ∨ 16 < inn then 1 else if ¬ (((n : Int) = inn + 1) ∧ allFit inn l = true) then 4 else if l.length = 0 ∨ 64 < (l.length : Int) then 1 else 0
@[simp] theorem fits360 (kind inn out hid frac : Int) (ws : Rows) (fw : Bool) (l : List Smp) (full : Bool) (hb : l.length ≤ 9223372036854775807) :
    pure1 (C Q) 360 [.agg [.int .i64 kind, .int .i64 inn, .int .i64 out, .int .i64 hid, .int .i64 frac], .lst ws fw, .lst (smps l) full] = some (.int .i64 (linChk inn ws.length l)) := by
  have h := linCheck_eq inn ws fw l full hb
  refine P_run c360 0 (by kernel_rfl) (by kernel_rfl) rfl ?_
  simp [c360, h, linChk]
@[simp] theorem fits386 (kind inn out hid frac : Int) (ws : Rows) (fw : Bool) (l : List Smp) (full : Bool) (hb : l.length ≤ 9223372036854775807) :
    pure1 (C Q) 386 [.agg [.int .i64 kind, .int .i64 inn, .int .i64 out, .int .i64 hid, .int .i64 frac], .lst ws fw, .lst (smps l) full] = some (.int .i64 (softChk inn out ws.length l)) := by
  have h := softCheck_eq inn out ws fw l full hb
  refine P_run c386 0 (by kernel_rfl) (by kernel_rfl) rfl ?_
  simp [c386, h]
@[simp] theorem fits413 (kind inn out hid frac : Int) (ws : Rows) (fw : Bool) (l : List Smp) (full : Bool) (hb : l.length ≤ 9223372036854775807) :
    pure1 (C Q) 413 [.agg [.int .i64 kind, .int .i64 inn, .int .i64 out, .int .i64 hid, .int .i64 frac], .lst ws fw, .lst (smps l) full] = some (.int .i64 (mlpChk inn hid ws.length l)) := by
  have h := mlpCheck_eq inn hid ws fw l full hb
  refine P_run c413 0 (by kernel_rfl) (by kernel_rfl) rfl ?_
  simp [c413, h]
def fitsChk (kind inn out hid frac : Int) (n : Nat) (l : List Smp) : Int :=
  if modelBad kind out hid frac ∨ modelFail kind inn out hid then 1 else if kind = 0 then linChk inn n l else if kind = 1 then softChk inn out n l else mlpChk inn hid n l
theorem modelFits_eq (kind inn out hid frac : Int) (ws : Rows) (fw : Bool) (l : List Smp) (full : Bool) (hb : l.length ≤ 9223372036854775807) :
    pure1 (C Q) 76 [.agg [.int .i64 kind, .int .i64 inn, .int .i64 out, .int .i64 hid, .int .i64 frac], .lst ws fw, .lst (smps l) full] = some (.int .i64 (fitsChk kind inn out hid frac ws.length l)) := by
  have h1 := fits360 kind inn out hid frac ws fw l full hb
  have h2 := fits386 kind inn out hid frac ws fw l full hb
  have h3 := fits413 kind inn out hid frac ws fw l full hb
  refine P_runH c76 0 (by kernel_rfl) (by kernel_rfl) rfl (fun r hr => ?_)
  simp (disch := omega) [c76]
  by_cases hb : modelBad kind out hid frac
  · simp (disch := omega) [*]
    have hr' := hr.out; clear hr; subst hr'
    simp [fitsChk, *]
  · by_cases hf : modelFail kind inn out hid
    · simp (disch := omega) [*, modelK]
      have hr' := hr.out; clear hr; subst hr'
      simp [fitsChk, *]
    · have hk : kind = 0 ∨ kind = 1 ∨ kind = 2 := by simp only [modelBad] at hb; omega
      rcases hk with rfl | rfl | rfl
      · simp (disch := omega) [*, modelK]
        have hr' := hr.out; clear hr; subst hr'
        simp [fitsChk, *]
      · simp (disch := omega) [*, modelK]
        have hr' := hr.out; clear hr; subst hr'
        simp [fitsChk, *]
      · simp (disch := omega) [*, modelK]
        have hr' := hr.out; clear hr; subst hr'
        simp [fitsChk, *]
end Go.Abs
