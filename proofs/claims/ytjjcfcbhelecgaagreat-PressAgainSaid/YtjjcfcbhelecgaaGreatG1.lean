/- Texts F12, F13, F14, F15, F16, F17 as one. Conditions: those of each lemma. -/
import Derived.Test.YtjjcfcbhelecgaaGreatF9
/- Pairs of a place and a size: how topk orders them. Conditions: those of each lemma. -/
set_option linter.unusedVariables false
set_option linter.unusedSimpArgs false
namespace Go.Abs
/-- A place, and a size. -/
def o1 (p : Int × Int) : Row := [.int .i64 p.1, .int .u64 p.2]
def prs (l : List (Int × Int)) : Rows := l.map o1
section
variable {l m : List (Int × Int)} {H : Heap} {d : Nat}
@[simp] theorem prs_length : (prs l).length = l.length := by simp [prs]
@[simp] theorem prs_nil : prs [] = [] := rfl
theorem prs_cons (x : Int × Int) : prs (x :: l) = o1 x :: prs l := rfl
@[simp] theorem prs_isEmpty : (prs l).isEmpty = l.isEmpty := by cases l <;> rfl
@[simp] theorem prs_snoc (x y : Int) : prs l ++ [[.int .i64 x, .int .u64 y]] = prs (l ++ [(x, y)]) := by simp [prs, o1]
@[simp] theorem prs_snoc1 (x : Int × Int) : prs l ++ [o1 x] = prs (l ++ [x]) := by simp [prs]
@[simp] theorem prs_app : prs l ++ prs m = prs (l ++ m) := List.map_append.symm
@[simp] theorem prs_take (n : Nat) : List.take n (prs l) = prs (l.take n) := List.map_take.symm
@[simp] theorem prs_drop (n : Nat) : List.drop n (prs l) = prs (l.drop n) := List.map_drop.symm
@[simp] theorem prs_set (i : Nat) (x y : Int) : (prs l).set i [.int .i64 x, .int .u64 y] = prs (l.set i (x, y)) := (List.map_set (f := o1) (a := (x, y))).symm
def oneP : Option (Int × Int) → Option Row
  | some x => some [.int .i64 x.1, .int .u64 x.2]
  | none => none
@[simp] theorem oneP_some (x : Int × Int) : oneP (some x) = some [.int .i64 x.1, .int .u64 x.2] := rfl
@[simp] theorem prs_get (i : Nat) : (prs l)[i]? = oneP l[i]? := by
  simp only [prs, List.getElem?_map]; cases l[i]? <;> rfl
@[simp] theorem prs_rep (n : Nat) (x y : Int) : List.replicate n [AV.int .i64 x, AV.int .u64 y] = prs (List.replicate n (x, y)) := by simp [prs, o1]
@[simp] theorem prs_eq_nil : prs l = [] ↔ l = [] := by cases l <;> simp [prs]
@[simp] theorem szOk_prs : szOk 2 (prs l) = true := szOk_iff.2 (fun r hr => by obtain ⟨x, _, rfl⟩ := List.mem_map.1 hr; rfl)
theorem prs_atom {r : Row} (hr : r ∈ prs l) {a : AV} (ha : a ∈ r) : ∃ k n, a = .int k n := by
  obtain ⟨x, _, rfl⟩ := List.mem_map.1 hr
  simp only [o1, List.mem_cons, List.not_mem_nil, or_false] at ha
  rcases ha with rfl | rfl <;> exact ⟨_, _, rfl⟩
@[simp] theorem frzRows_prs : frzRows (frz (d + 1) H) (prs l) = some (prs l) :=
  frzRows_id (fun r hr a ha => by obtain ⟨k, n, rfl⟩ := prs_atom hr ha; rfl)
@[simp] theorem metRows_prs : metRows (met (d + 1) H) (prs l) = [] :=
  metRows_no (fun r hr a ha => by obtain ⟨k, n, rfl⟩ := prs_atom hr ha; rfl)
@[simp] theorem metRows_refs_prs : metRows (refs d) (prs l) = [] :=
  metRows_no (fun r hr a ha => by obtain ⟨k, n, rfl⟩ := prs_atom hr ha; cases d <;> rfl)
@[simp] theorem lstRows_prs : lstRows (hasLst (d + 1)) (prs l) = false :=
  lstRows_no (fun r hr a ha => by obtain ⟨k, n, rfl⟩ := prs_atom hr ha; rfl)
end

/-- A number's size. -/
def sz (n : Int) : Int := if n < 0 then -n else n
theorem wrap_u64_neg {n : Int} (h1 : -9223372036854775808 ≤ n) (h2 : n < 0) : IntKind.u64.wrap n = n + 18446744073709551616 := by
  have e : (2 : Int) ^ 64 = 18446744073709551616 := by decide
  simp only [IntKind.wrap, IntKind.bits, IntKind.signed, Bool.false_and, Bool.false_eq_true, if_false, e]
  omega
theorem wrap_u64_back {n : Int} (h1 : -9223372036854775808 ≤ n) (h2 : n < 0) : IntKind.u64.wrap (-(n + 18446744073709551616)) = -n := by
  have e : (2 : Int) ^ 64 = 18446744073709551616 := by decide
  simp only [IntKind.wrap, IntKind.bits, IntKind.signed, Bool.false_and, Bool.false_eq_true, if_false, e]
  omega
theorem size_eq (n : Int) (h1 : -9223372036854775808 ≤ n) (h2 : n ≤ 9223372036854775807) : pure1 (C Q) 127 [.int .i64 n] = some (.int .u64 (sz n)) := by
  refine P_run c127 0 (by kernel_rfl) (by kernel_rfl) rfl ?_
  by_cases h : n < 0
  · have e1 := wrap_u64_neg h1 h
    have e2 := wrap_u64_back h1 h
    simp -implicitDefEqProofs (disch := omega) [c127, h, e1, e2, sz]
  · simp -implicitDefEqProofs (disch := omega) [c127, h, sz]
/-- Two numbers set beside one another. -/
def cmpV (x y : Int) : Int := if x < y then -1 else if y < x then 1 else 0
@[simp] theorem nan_u64 (x : Int) : pure1 (C Q) 358 [.int .u64 x] = some (.bool false) := by
  refine P_run c358 0 (by kernel_rfl) (by kernel_rfl) rfl ?_
  simp -implicitDefEqProofs [c358]
@[simp] theorem nan_int (x : Int) : pure1 (C Q) 275 [.int .i64 x] = some (.bool false) := by
  refine P_run c275 0 (by kernel_rfl) (by kernel_rfl) rfl ?_
  simp -implicitDefEqProofs [c275]
@[simp] theorem cmp_u64 (x y : Int) : pure1 (C Q) 356 [.int .u64 x, .int .u64 y] = some (.int .i64 (cmpV x y)) := by
  refine P_run c356 0 (by kernel_rfl) (by kernel_rfl) rfl ?_
  by_cases h1 : x < y
  · simp -implicitDefEqProofs (disch := omega) [c356, cmpV, h1]
  · by_cases h2 : y < x
    · simp -implicitDefEqProofs (disch := omega) [c356, cmpV, h1, h2]
    · simp -implicitDefEqProofs (disch := omega) [c356, cmpV, h1, h2]
@[simp] theorem cmp_int (x y : Int) : pure1 (C Q) 357 [.int .i64 x, .int .i64 y] = some (.int .i64 (cmpV x y)) := by
  refine P_run c357 0 (by kernel_rfl) (by kernel_rfl) rfl ?_
  by_cases h1 : x < y
  · simp -implicitDefEqProofs (disch := omega) [c357, cmpV, h1]
  · by_cases h2 : y < x
    · simp -implicitDefEqProofs (disch := omega) [c357, cmpV, h1, h2]
    · simp -implicitDefEqProofs (disch := omega) [c357, cmpV, h1, h2]
@[simp] theorem cmp_or (x y : Int) (f : Bool) : pure1 (C Q) 355 [.lst [[.int .i64 x], [.int .i64 y]] f] = some (.int .i64 (if x ≠ 0 then x else y)) := by
  refine P_runH c355 4 (by kernel_rfl) (by kernel_rfl) rfl (fun r hr => ?_)
  simp -implicitDefEqProofs (disch := omega) [c355]
  by_cases h1 : x = 0
  · by_cases h2 : y = 0
    · refine R_loop (fun i => [(3, .int .i64 0), (6, .lst [[.int .i64 x], [.int .i64 y]] f), (7, .int .i64 2), (8, .int .i64 i)]) (fun _ => []) 2 (by omega) (by simp) rfl ?_ ?_
      · intro i hi
        have : i = 0 ∨ i = 1 := by omega
        rcases this with rfl | rfl
        · simp -implicitDefEqProofs (disch := omega) [h1]
        · simp -implicitDefEqProofs (disch := omega) [h2]
      · simp -implicitDefEqProofs (disch := omega)
        have hr' := hr.out; clear hr; subst hr'
        simp [h1, h2]
    · refine R_loop (fun i => [(3, .int .i64 0), (6, .lst [[.int .i64 x], [.int .i64 y]] f), (7, .int .i64 2), (8, .int .i64 i)]) (fun _ => []) 1 (by omega) (by simp) rfl ?_ ?_
      · intro i hi
        have : i = 0 := by omega
        subst this
        simp -implicitDefEqProofs (disch := omega) [h1]
      · simp -implicitDefEqProofs (disch := omega) [h2]
        have hr' := hr.out; clear hr; subst hr'
        simp [h1, h2]
  · refine R_loop (fun i => [(3, .int .i64 0), (6, .lst [[.int .i64 x], [.int .i64 y]] f), (7, .int .i64 2), (8, .int .i64 i)]) (fun _ => []) 0 (by omega) (by simp) rfl ?_ ?_
    · intro i hi
      omega
    · simp -implicitDefEqProofs (disch := omega) [h1]
      have hr' := hr.out; clear hr; subst hr'
      simp [h1]
/-- a is behind b. -/
def beh (a b : Int × Int) : Prop := a.2 < b.2 ∨ (a.2 = b.2 ∧ b.1 < a.1)
instance (a b : Int × Int) : Decidable (beh a b) := by unfold beh; infer_instance
def cmpO (a b : Int × Int) : Int := if cmpV b.2 a.2 ≠ 0 then cmpV b.2 a.2 else cmpV a.1 b.1
theorem cmpO_pos (a b : Int × Int) : 0 < cmpO a b ↔ beh a b := by
  unfold cmpO cmpV beh
  repeat' split
  all_goals omega
@[simp] theorem compare_eq (p s q t : Int) : pure1 (C Q) 354 [.agg [.int .i64 p, .int .u64 s], .agg [.int .i64 q, .int .u64 t]] = some (.int .i64 (cmpO (p, s) (q, t))) := by
  refine P_runH c354 0 (by kernel_rfl) (by kernel_rfl) rfl (fun r hr => ?_)
  simp -implicitDefEqProofs (disch := omega) [c354]
  have hr' := hr.out; clear hr; subst hr'
  simp [cmpO]
/-- Less. -/
theorem less_eq (l : List (Int × Int)) (f : Bool) (i j : Nat) (hi : i < l.length) (hj : j < l.length) : pure1 (C Q) 350 [.lst (prs l) f, .int .i64 i, .int .i64 j] = some (.bool (decide (beh l[i] l[j]))) := by
  refine P_runH c350 0 (by kernel_rfl) (by kernel_rfl) rfl (fun r hr => ?_)
  simp -implicitDefEqProofs (disch := omega) [c350, hi, hj]
  have hr' := hr.out; clear hr; subst hr'
  simp [cmpO_pos]
@[simp] theorem blen_eq (l : List (Int × Int)) (f : Bool) : pure1 (C Q) 123 [.lst (prs l) f] = some (.int .i64 l.length) := by
  refine P_run c123 0 (by kernel_rfl) (by kernel_rfl) rfl ?_
  simp -implicitDefEqProofs (disch := omega) [c123]
/-- The places, with their numbers' sizes. -/
def onesL (v : List Int) : List (Int × Int) := v.mapIdx fun i n => ((i : Int), sz n)
end Go.Abs

/- A loop that goes on as long as something gets less; the heap of topk. Conditions: those of each lemma. -/
set_option linter.unusedVariables false
set_option linter.unusedSimpArgs false
namespace Go.Abs
section
variable {β : Type} {fin : St → Option β} {n : Nat} {call : CallT} {k : List Fr} {e : Env} {H : Heap}
theorem while_go {live : List Nat} {c : Code1} {Post : β → Prop} (Inv : Nat → Env → Heap → Prop)
    (hround : ∀ m e H, Inv m e H → (∃ m' e' H', m' < m ∧ R (finL live) n call c [] e H = some (e', H') ∧ Inv m' e' H') ∨ WP (R (finE (contK fin n call k)) n call c [] e H) Post) :
    ∀ (j m : Nat) (e : Env) (H : Heap), m < j → Inv m (e.only live) H → ∃ st, loop1 (run1 n call c) live j e H = some st ∧ WP (contK fin n call k st) Post := by
  intro j
  induction j with
  | zero => intro m e H h; omega
  | succ j ih =>
    intro m e H hm hI
    rcases hround m _ H hI with ⟨m', e', H', hlt, hR, hI'⟩ | ⟨r, hR, hP⟩
    · rw [R_nil] at hR
      simp only [Option.bind_eq_some_iff] at hR
      obtain ⟨⟨ct, e1, H1⟩, h2, h3⟩ := hR
      cases ct with
      | norm =>
        simp only [finL_norm, Option.some.injEq, Prod.mk.injEq] at h3
        obtain ⟨h4, h5⟩ := h3
        subst h4 h5
        obtain ⟨st, h6, h7⟩ := ih m' e1 H1 (by omega) hI'
        exact ⟨st, by simp only [loop1, h2, Option.bind_some, h6], h7⟩
      | exit i => cases h3
      | ret => cases h3
    · rw [R_nil] at hR
      simp only [Option.bind_eq_some_iff] at hR
      obtain ⟨⟨ct, e1, H1⟩, h2, h3⟩ := hR
      cases ct with
      | norm => cases h3
      | exit i => exact ⟨(.exit i, e1, H1), by simp only [loop1, h2, Option.bind_some], r, h3, hP⟩
      | ret => exact ⟨(.ret, e1, H1), by simp only [loop1, h2, Option.bind_some], r, h3, hP⟩
/-- A LOOP THAT GOES ON AS LONG AS SOMETHING GETS LESS. -/
theorem W_while {live : List Nat} {c : Code1} {Post : β → Prop} (Inv : Nat → Env → Heap → Prop) (m : Nat) (hn : m < n) (h0 : Inv m (e.only live) H)
    (hround : ∀ m e H, Inv m e H → (∃ m' e' H', m' < m ∧ R (finL live) n call c [] e H = some (e', H') ∧ Inv m' e' H') ∨ WP (R (finE (contK fin n call k)) n call c [] e H) Post) :
    WP (R fin n call (.loop live c) k e H) Post := by
  obtain ⟨st, h1, r, h2, h3⟩ := while_go Inv hround n m e H hn h0
  exact ⟨r, by simp only [R, run1, h1, Option.bind_some, h2], h3⟩
end

/-! ### A heap's order -/
def le2 (a b : Int × Int) : Prop := ¬ beh b a
theorem le2_refl (a : Int × Int) : le2 a a := by unfold le2 beh; omega
theorem le2_trans {a b c : Int × Int} (h1 : le2 a b) (h2 : le2 b c) : le2 a c := by unfold le2 beh at *; omega
theorem le2_of_beh {a b : Int × Int} (h : beh a b) : le2 a b := by unfold le2 beh at *; omega
def at2 (L : List (Int × Int)) (i : Nat) : Int × Int := L.getD i (0, 0)
def swp (L : List (Int × Int)) (i j : Nat) : List (Int × Int) := (L.set i (at2 L j)).set j (at2 L i)
@[simp] theorem swp_length (L : List (Int × Int)) (i j : Nat) : (swp L i j).length = L.length := by simp [swp]
theorem at2_get {L : List (Int × Int)} {i : Nat} (h : i < L.length) : at2 L i = L[i] := by simp [at2, h]
theorem at2_swp {L : List (Int × Int)} {i j : Nat} (hi : i < L.length) (hj : j < L.length) (t : Nat) : at2 (swp L i j) t = if t = i then at2 L j else if t = j then at2 L i else at2 L t := by
  simp only [at2, swp, List.getD, List.getElem?_set]
  by_cases h1 : t = i
  · subst h1
    by_cases h2 : j = t
    · subst h2; simp [hi]
    · simp [h2, hi]
  · by_cases h2 : t = j
    · subst h2; simp [hj, h1]
    · have h3 : ¬ j = t := fun h => h2 h.symm
      have h4 : ¬ i = t := fun h => h1 h.symm
      simp [h1, h2, h3, h4]
theorem swp_perm {L : List (Int × Int)} {i j : Nat} (hi : i < L.length) (hj : j < L.length) : (swp L i j).Perm L := by
  have := List.set_set_perm hi hj
  simpa [swp, at2, hi, hj] using this
/-- A heap, of the first n. -/
def Hp (L : List (Int × Int)) (n : Nat) : Prop := ∀ t, 0 < t → t < n → le2 (at2 L ((t - 1) / 2)) (at2 L t)
theorem Hp.top {L : List (Int × Int)} {n : Nat} (h : Hp L n) : ∀ t, t < n → le2 (at2 L 0) (at2 L t) := by
  intro t
  induction t using Nat.strongRecOn with
  | _ t ih =>
    intro ht
    by_cases h0 : t = 0
    · subst h0; exact le2_refl _
    · exact le2_trans (ih ((t - 1) / 2) (by omega) (by omega)) (h t (by omega) ht)
/-- A heap but for one that may have to go up. -/
def HpUp (L : List (Int × Int)) (n j : Nat) : Prop :=
  (∀ t, 0 < t → t < n → t ≠ j → le2 (at2 L ((t - 1) / 2)) (at2 L t)) ∧ (∀ t, 0 < t → t < n → (t - 1) / 2 = j → 0 < j → le2 (at2 L ((j - 1) / 2)) (at2 L t))
theorem HpUp.done {L : List (Int × Int)} {n j : Nat} (h : HpUp L n j) (hj : j = 0 ∨ le2 (at2 L ((j - 1) / 2)) (at2 L j)) : Hp L n := by
  intro t h0 ht
  by_cases e : t = j
  · subst e
    rcases hj with hj | hj
    · omega
    · exact hj
  · exact h.1 t h0 ht e
theorem HpUp.step {L : List (Int × Int)} {n j : Nat} (h : HpUp L n j) (hn : n ≤ L.length) (hj : j < n) (h0 : 0 < j) (hb : beh (at2 L j) (at2 L ((j - 1) / 2))) : HpUp (swp L ((j - 1) / 2) j) n ((j - 1) / 2) := by
  have hs := fun t => at2_swp (L := L) (i := (j - 1) / 2) (j := j) (by omega) (by omega) t
  have hle := le2_of_beh hb
  constructor
  · intro t t0 tn hne
    rw [hs, hs]
    by_cases e1 : t = j
    · subst e1
      rw [if_pos rfl, if_neg (by omega), if_pos rfl]
      exact hle
    · rw [if_neg hne, if_neg e1]
      by_cases e2 : (t - 1) / 2 = (j - 1) / 2
      · rw [if_pos e2]
        exact le2_trans hle (e2 ▸ h.1 t t0 tn e1)
      · rw [if_neg e2]
        by_cases e3 : (t - 1) / 2 = j
        · rw [if_pos e3]
          exact h.2 t t0 tn e3 h0
        · rw [if_neg e3]
          exact h.1 t t0 tn e1
  · intro t t0 tn hp hi
    rw [hs, hs]
    have a1 : ¬ ((j - 1) / 2 - 1) / 2 = (j - 1) / 2 := by omega
    have a2 : ¬ ((j - 1) / 2 - 1) / 2 = j := by omega
    have a3 : ¬ t = (j - 1) / 2 := by omega
    have b1 := h.1 ((j - 1) / 2) hi (by omega) (by omega)
    rw [if_neg a1, if_neg a2, if_neg a3]
    by_cases e1 : t = j
    · rw [if_pos e1]; exact b1
    · rw [if_neg e1]
      exact le2_trans b1 (hp ▸ h.1 t t0 tn e1)
/-- A heap but for one that may have to go down. -/
def HpDn (L : List (Int × Int)) (n i : Nat) : Prop :=
  (∀ t, 0 < t → t < n → (t - 1) / 2 ≠ i → le2 (at2 L ((t - 1) / 2)) (at2 L t)) ∧ (∀ t, 0 < t → t < n → (t - 1) / 2 = i → 0 < i → le2 (at2 L ((i - 1) / 2)) (at2 L t))
theorem HpDn.done {L : List (Int × Int)} {n i : Nat} (h : HpDn L n i) (hd : ∀ t, 0 < t → t < n → (t - 1) / 2 = i → le2 (at2 L i) (at2 L t)) : Hp L n := by
  intro t h0 ht
  by_cases e : (t - 1) / 2 = i
  · rw [e]; exact hd t h0 ht e
  · exact h.1 t h0 ht e
theorem HpDn.step {L : List (Int × Int)} {n i j : Nat} (h : HpDn L n i) (hn : n ≤ L.length) (h0 : 0 < j) (hj : j < n) (hp : (j - 1) / 2 = i) (hb : beh (at2 L j) (at2 L i)) (hl : ∀ t, 0 < t → t < n → (t - 1) / 2 = i → le2 (at2 L j) (at2 L t)) : HpDn (swp L i j) n j := by
  have hs := fun t => at2_swp (L := L) (i := i) (j := j) (by omega) (by omega) t
  have hle := le2_of_beh hb
  constructor
  · intro t t0 tn hne
    rw [hs, hs]
    by_cases e1 : (t - 1) / 2 = i
    · rw [if_pos e1, if_neg (by omega)]
      by_cases e2 : t = j
      · rw [if_pos e2]; exact hle
      · rw [if_neg e2]; exact hl t t0 tn e1
    · rw [if_neg e1, if_neg hne]
      by_cases e2 : t = i
      · rw [if_pos e2]
        have := h.2 j h0 hj hp (by omega)
        rw [e2]; exact this
      · rw [if_neg e2, if_neg (by omega)]
        exact h.1 t t0 tn e1
  · intro t t0 tn hpt hj0
    rw [hs, hs]
    rw [hp, if_pos rfl, if_neg (by omega), if_neg (by omega)]
    have := h.1 t t0 tn (by omega)
    rw [hpt] at this
    exact this
end Go.Abs

/- topk's heap: swap, up, down. Conditions: those of each lemma. -/
set_option linter.unusedVariables false
set_option linter.unusedSimpArgs false
namespace Go.Abs
def derefO (call : CallT) (as : List AV) (m : Mode) (H : Heap) (f : FuncId) : Option AV → Option (AV × Heap)
  | some x => doCall call f (x :: as) m H
  | none => none
@[simp] theorem derefO_some (call : CallT) (as : List AV) (m : Mode) (H : Heap) (f : FuncId) (x : AV) : derefO call as m H f (some x) = doCall call f (x :: as) m H := rfl
@[simp] theorem recvO_deref (call : CallT) (as : List AV) (m : Mode) (H : Heap) (v : AV) (f : FuncId) (agg : Bool) (sz : Nat) : recvO call as m H v (some (f, .deref agg sz)) = derefO call as m H f ((loadRow H v sz).bind (unrow agg)) := by
  simp only [recvO]
  cases (loadRow H v sz).bind (unrow agg) <;> rfl
/-- The heap's memory: the elements, and the slice's box. -/
def hf (L : List (Int × Int)) (v m : Nat) (G : Heap) : Heap := ⟨v, false, .cells 2 (prs L)⟩ :: ⟨0, false, .cells 1 [[.sl 0 v 0 m]]⟩ :: G
theorem swap_C (L : List (Int × Int)) (v m : Nat) (G : Heap) (i j : Nat) (hm : m ≤ L.length) (hi : i < m) (hj : j < m) :
    C Q 353 [.sl 0 v 0 m, .int .i64 i, .int .i64 j] (hf L v m G) = some (.tuple [], hf (swp L i j) v m G) := by
  refine C_run c353 0 (by kernel_rfl) (by kernel_rfl) rfl ?_
  have h1 : i < L.length := by omega
  have h2 : j < L.length := by omega
  have e1 : L[i]? = some L[i] := by simp [h1]
  have e2 : L[j]? = some L[j] := by simp [h2]
  simp -implicitDefEqProofs (disch := omega) [c353, hf, hi, hj, h1, h2, e1, e2]
  simp [swp, at2, h1, h2]
theorem up_C (L : List (Int × Int)) (v m : Nat) (G : Heap) (j : Nat) (hm : m ≤ L.length) (hb : L.length ≤ 1000000) (hj : j < m) (hh : HpUp L m j) :
    WP (C Q 193 [.iface 137 (.ptr 1 0 0 0), .int .i64 j] (hf L v m G)) (fun r => r.1 = .tuple [] ∧ ∃ L', r.2 = hf L' v m G ∧ L'.Perm L ∧ Hp L' m) := by
  refine C_W c193 (j + 1) (by kernel_rfl) (by kernel_rfl) rfl ?_
  simp -implicitDefEqProofs (disch := omega) [c193]
  refine W_while (fun μ e H => ∃ L', e = [(0, .iface 137 (.ptr 1 0 0 0)), (1, .int .i64 μ)] ∧ H = hf L' v m G ∧ L'.Perm L ∧ HpUp L' m μ ∧ μ < m) j (by omega) ⟨L, by simp, rfl, List.Perm.refl _, hh, hj⟩ ?_
  rintro μ e H ⟨L', rfl, rfl, hp, hu, hμ⟩
  have hl := hp.length_eq
  have hmL : m ≤ L'.length := by omega
  by_cases h0 : μ = 0
  · subst h0
    right
    refine WP.mono (p := fun r => r = (.tuple [], hf L' v m G)) ?_ (by rintro _ rfl; exact ⟨rfl, L', rfl, hp, hu.done (.inl rfl)⟩)
    simp -implicitDefEqProofs (disch := omega) [hf]
  · obtain ⟨p, hpe⟩ : ∃ p, p = (μ - 1) / 2 := ⟨_, rfl⟩
    have e1 : ((μ : Int) - 1) / 2 = p := by omega
    have e2 : ¬ (p : Int) = μ := by omega
    have h1 : μ < L'.length := by omega
    have h2 : p < L'.length := by omega
    have hless := less_eq (L'.take m) false μ p (by simp; omega) (by simp; omega)
    simp only [List.getElem_take] at hless
    by_cases hbe : beh L'[μ] L'[p]
    · left
      refine ⟨p, [(0, .iface 137 (.ptr 1 0 0 0)), (1, .int .i64 p)], hf (swp L' p μ) v m G, by omega, ?_, _, rfl, rfl, (swp_perm h2 h1).trans hp, ?_, by omega⟩
      · have hs := swap_C L' v m G p μ (by omega) (by omega) (by omega)
        simp only [hf] at hs
        simp -implicitDefEqProofs (disch := omega) [hf, hmL, e1, e2, hless, hbe, hs, h1]
      · rw [hpe]
        refine hu.step (by omega) hμ (by omega) ?_
        rw [← hpe, at2_get h1, at2_get h2]; exact hbe
    · right
      refine WP.mono (p := fun r => r = (.tuple [], hf L' v m G)) ?_ (by rintro _ rfl; exact ⟨rfl, L', rfl, hp, hu.done (.inr (by rw [← hpe, at2_get h1, at2_get h2]; exact hbe))⟩)
      simp -implicitDefEqProofs (disch := omega) [hf, hmL, e1, e2, hless, hbe, h1]
theorem down_C (L : List (Int × Int)) (v m : Nat) (G : Heap) (N : Nat) (hN : N ≤ m) (hm : m ≤ L.length) (hb : L.length ≤ 1000000) (hh : HpDn L N 0) :
    WP (C Q 194 [.iface 137 (.ptr 1 0 0 0), .int .i64 0, .int .i64 N] (hf L v m G)) (fun r => ∃ L', r.2 = hf L' v m G ∧ L'.Perm L ∧ Hp L' N ∧ ∀ t, N ≤ t → at2 L' t = at2 L t) := by
  refine C_W c194 (N + 2) (by kernel_rfl) (by kernel_rfl) rfl ?_
  simp -implicitDefEqProofs (disch := omega) [c194]
  refine W_while (fun μ e H => ∃ L' i, μ = N - i ∧ e = [(0, .iface 137 (.ptr 1 0 0 0)), (1, .int .i64 0), (2, .int .i64 N), (7, .int .i64 (i : Nat))] ∧ H = hf L' v m G ∧ L'.Perm L ∧ HpDn L' N i ∧ i ≤ N ∧ ∀ t, N ≤ t → at2 L' t = at2 L t) N (by omega) ⟨L, 0, by simp, by simp, rfl, List.Perm.refl _, hh, by omega, fun _ _ => rfl⟩ ?_
  rintro μ e H ⟨L', i, rfl, rfl, rfl, hp, hu, hi, hk⟩
  have hl := hp.length_eq
  have hmL : m ≤ L'.length := by omega
  by_cases h0 : N ≤ 2 * i + 1
  · right
    refine WP.mono (p := fun r => r = (.bool (decide (0 < i)), hf L' v m G)) ?_ (by rintro _ rfl; exact ⟨L', rfl, hp, hu.done (fun t t0 tn te => by omega), hk⟩)
    have e1 : (N : Int) ≤ 2 * i + 1 := by omega
    simp -implicitDefEqProofs (disch := omega) [hf, e1]
  · have e1 : ¬ (N : Int) ≤ 2 * i + 1 := by omega
    have hi1 : i < L'.length := by omega
    obtain ⟨a, ha⟩ : ∃ a, a = 2 * i + 1 := ⟨_, rfl⟩
    have a1 : a < L'.length := by omega
    have ea : 2 * (i : Int) + 1 = a := by omega
    have e4 : ¬ N ≤ a := by omega
    have e5 : ¬ (a : Int) < 0 := by omega
    -- the child that is tried
    obtain ⟨j, hj, hjN, hjc, hjl, hjr⟩ : ∃ j, (j = a ∨ j = a + 1) ∧ j < N ∧ ((a + 1 < N ∧ ∃ h : a + 1 < L'.length, beh L'[a + 1] L'[a]) ↔ j = a + 1) ∧ (∀ t, 0 < t → t < N → (t - 1) / 2 = i → le2 (at2 L' j) (at2 L' t)) ∧ True := by
      by_cases c1 : a + 1 < N ∧ ∃ h : a + 1 < L'.length, beh L'[a + 1] L'[a]
      · refine ⟨a + 1, .inr rfl, c1.1, ⟨fun _ => rfl, fun _ => c1⟩, fun t t0 tn te => ?_, trivial⟩
        have : t = a ∨ t = a + 1 := by omega
        obtain ⟨c2, c3, c4⟩ := c1
        rcases this with rfl | rfl
        · rw [at2_get c3, at2_get a1]; exact le2_of_beh c4
        · exact le2_refl _
      · refine ⟨a, .inl rfl, by omega, ⟨fun h => absurd h c1, fun h => by omega⟩, fun t t0 tn te => ?_, trivial⟩
        have : t = a ∨ t = a + 1 := by omega
        rcases this with rfl | rfl
        · exact le2_refl _
        · have c3 : a + 1 < L'.length := by omega
          rw [at2_get c3, at2_get a1]
          exact fun hbe => c1 ⟨tn, c3, hbe⟩
    have j1 : j < L'.length := by omega
    have hless2 := less_eq (L'.take m) false j i (by simp; omega) (by simp; omega)
    simp only [List.getElem_take] at hless2
    have hs := swap_C L' v m G i j (by omega) (by omega) (by omega)
    simp only [hf] at hs
    by_cases hbe : beh L'[j] L'[i]
    · left
      refine ⟨N - j, [(0, .iface 137 (.ptr 1 0 0 0)), (1, .int .i64 0), (2, .int .i64 N), (7, .int .i64 j)], hf (swp L' i j) v m G, by omega, ?_, _, j, rfl, rfl, rfl, (swp_perm hi1 j1).trans hp, ?_, by omega, ?_⟩
      · by_cases c0 : a + 1 < N
        · have c3 : a + 1 < L'.length := by omega
          have e3 : (a : Int) + 1 < N := by omega
          have hless1 := less_eq (L'.take m) false (a + 1) a (by simp; omega) (by simp; omega)
          simp only [List.getElem_take, Int.natCast_add, Int.cast_ofNat_Int] at hless1
          by_cases c1 : beh L'[a + 1] L'[a]
          · have : j = a + 1 := hjc.1 ⟨c0, c3, c1⟩
            subst this
            simp only [Int.natCast_add, Int.cast_ofNat_Int] at hs hless2
            simp -implicitDefEqProofs (disch := omega) [hf, hmL, e1, e4, e5, ea, e3, hless1, hless2, c1, hbe, hs, c3, a1]
          · have : j = a := by
              rcases hj with h | h
              · exact h
              · exact absurd (hjc.2 h).2.2 c1
            subst this
            simp -implicitDefEqProofs (disch := omega) [hf, hmL, e1, e4, e5, ea, e3, hless1, hless2, c1, hbe, hs, c3, a1]
        · have e3 : ¬ (a : Int) + 1 < N := by omega
          have : j = a := by omega
          subst this
          simp -implicitDefEqProofs (disch := omega) [hf, hmL, e1, e4, e5, ea, e3, hless2, hbe, hs, a1]
      · refine hu.step (by omega) (by omega) hjN (by omega) ?_ hjl
        rw [at2_get j1, at2_get hi1]; exact hbe
      · intro t ht
        rw [at2_swp hi1 j1, if_neg (by omega), if_neg (by omega)]
        exact hk t ht
    · right
      refine WP.mono (p := fun r => r = (.bool (decide (0 < i)), hf L' v m G)) ?_ (by
        rintro _ rfl
        refine ⟨L', rfl, hp, hu.done (fun t t0 tn te => le2_trans ?_ (hjl t t0 tn te)), hk⟩
        rw [at2_get j1, at2_get hi1]; exact hbe)
      by_cases c0 : a + 1 < N
      · have c3 : a + 1 < L'.length := by omega
        have e3 : (a : Int) + 1 < N := by omega
        have hless1 := less_eq (L'.take m) false (a + 1) a (by simp; omega) (by simp; omega)
        simp only [List.getElem_take, Int.natCast_add, Int.cast_ofNat_Int] at hless1
        by_cases c1 : beh L'[a + 1] L'[a]
        · have : j = a + 1 := hjc.1 ⟨c0, c3, c1⟩
          subst this
          simp only [Int.natCast_add, Int.cast_ofNat_Int] at hless2
          simp -implicitDefEqProofs (disch := omega) [hf, hmL, e1, e4, e5, ea, e3, hless1, hless2, c1, hbe, c3, a1]
        · have : j = a := by
            rcases hj with h | h
            · exact h
            · exact absurd (hjc.2 h).2.2 c1
          subst this
          simp -implicitDefEqProofs (disch := omega) [hf, hmL, e1, e4, e5, ea, e3, hless1, hless2, c1, hbe, c3, a1]
      · have e3 : ¬ (a : Int) + 1 < N := by omega
        have : j = a := by omega
        subst this
        simp -implicitDefEqProofs (disch := omega) [hf, hmL, e1, e4, e5, ea, e3, hless2, hbe, a1]
end Go.Abs

/- topk's heap: push, pop. Conditions: those of each lemma. -/
set_option linter.unusedVariables false
set_option linter.unusedSimpArgs false
namespace Go.Abs
theorem bestPush_C (L : List (Int × Int)) (v m : Nat) (G : Heap) (p s : Int) (hm : m ≤ L.length) (hb : L.length ≤ 1000000) :
    C Q 352 [.ptr 1 0 0 0, .iface 142 (.agg [.int .i64 p, .int .u64 s])] (hf L v m G) = some (.tuple [], hf (L.take m ++ [(p, s)]) (v + 1) (m + 1) G) := by
  refine C_run c352 0 (by kernel_rfl) (by kernel_rfl) rfl ?_
  simp -implicitDefEqProofs (disch := omega) [c352, hf, hm]
theorem bestPop_C (L : List (Int × Int)) (v m : Nat) (G : Heap) (hm : m + 1 ≤ L.length) (hb : L.length ≤ 1000000) :
    ∃ a, C Q 351 [.ptr 1 0 0 0] (hf L v (m + 1) G) = some (a, hf L v m G) := by
  refine ⟨.iface 142 (.agg [.int .i64 (at2 L m).1, .int .u64 (at2 L m).2]), ?_⟩
  refine C_run c351 0 (by kernel_rfl) (by kernel_rfl) rfl ?_
  have h1 : m < L.length := by omega
  have e1 : L[m]? = some L[m] := by simp [h1]
  have e2 : (m : Int) + 1 - 1 = m := by omega
  simp -implicitDefEqProofs (disch := omega) [c351, hf, h1, e1, e2, at2]
theorem heapPush_C (L : List (Int × Int)) (v m : Nat) (G : Heap) (p s : Int) (hm : m ≤ L.length) (hb : L.length ≤ 900000) (hh : Hp L m) :
    WP (C Q 122 [.iface 137 (.ptr 1 0 0 0), .iface 142 (.agg [.int .i64 p, .int .u64 s])] (hf L v m G)) (fun r => r.1 = .tuple [] ∧ ∃ L', r.2 = hf L' (v + 1) (m + 1) G ∧ L'.Perm (L.take m ++ [(p, s)]) ∧ Hp L' (m + 1)) := by
  have h1 := bestPush_C L v m G p s hm (by omega)
  have hl : (L.take m ++ [(p, s)]).length = m + 1 := by simp; omega
  have hu : HpUp (L.take m ++ [(p, s)]) (m + 1) m := by
    have ha : ∀ t, t < m → at2 (L.take m ++ [(p, s)]) t = at2 L t := fun t ht => by
      simp only [at2, List.getD]
      rw [List.getElem?_append_left (by simp; omega), List.getElem?_take, if_pos ht]
    constructor
    · intro t t0 tn te
      rw [ha t (by omega), ha ((t - 1) / 2) (by omega)]
      exact hh t t0 (by omega)
    · intro t t0 tn te
      omega
  obtain ⟨⟨a, H'⟩, h2, h3, L', h4, h5, h6⟩ := up_C (L.take m ++ [(p, s)]) (v + 1) (m + 1) G m (by omega) (by omega) (by omega) hu
  simp only at h3 h4
  subst h3 h4
  refine C_W c122 0 (by kernel_rfl) (by kernel_rfl) rfl ?_
  refine WP.mono (p := fun r => r = (.tuple [], hf L' (v + 1) (m + 1) G)) ?_ (by rintro _ rfl; exact ⟨rfl, L', rfl, h5, h6⟩)
  have e2 : (m : Int) + 1 - 1 = m := by omega
  simp only [hf] at h1 h2 ⊢
  simp -implicitDefEqProofs (disch := omega) [c122, h1, h2, hm, e2]
theorem heapPop_C (L : List (Int × Int)) (v m : Nat) (G : Heap) (hm : L.length = m + 1) (hb : L.length ≤ 1000000) (hh : Hp L (m + 1)) :
    WP (C Q 124 [.iface 137 (.ptr 1 0 0 0)] (hf L v (m + 1) G)) (fun r => ∃ L', r.2 = hf L' v m G ∧ L'.Perm L ∧ Hp L' m ∧ at2 L' m = at2 L 0) := by
  have h1 := swap_C L v (m + 1) G 0 m (by omega) (by omega) (by omega)
  have hd : HpDn (swp L 0 m) m 0 := by
    constructor
    · intro t t0 tn te
      rw [at2_swp (by omega) (by omega), at2_swp (by omega) (by omega), if_neg te, if_neg (by omega), if_neg (by omega), if_neg (by omega)]
      exact hh t t0 (by omega)
    · intro t t0 tn te h
      omega
  obtain ⟨⟨a, H'⟩, h2, L', h4, h5, h6, h7⟩ := down_C (swp L 0 m) v (m + 1) G m (by omega) (by simp; omega) (by simp; omega) hd
  simp only at h4
  subst h4
  have hl' : L'.length = m + 1 := by rw [h5.length_eq]; simp [hm]
  obtain ⟨x, h8⟩ := bestPop_C L' v m G (by omega) (by omega)
  refine C_W c124 0 (by kernel_rfl) (by kernel_rfl) rfl ?_
  refine WP.mono (p := fun r => r = (x, hf L' v m G)) ?_ (by
    rintro _ rfl
    refine ⟨L', rfl, h5.trans (swp_perm (by omega) (by omega)), h6, ?_⟩
    rw [h7 m (by omega), at2_swp (by omega) (by omega)]
    by_cases e : m = 0
    · rw [if_pos e]; rw [e]
    · rw [if_neg e, if_pos rfl])
  have e2 : (m : Int) + 1 - 1 = m := by omega
  have hm' : m + 1 ≤ L.length := by omega
  simp only [hf] at h1 h2 h8 ⊢
  simp only [Int.cast_ofNat_Int] at h1
  simp -implicitDefEqProofs (disch := omega) [c124, h1, h2, h8, hm', e2]
end Go.Abs

/- topk: ones, places. Conditions: those of each lemma. -/
set_option linter.unusedVariables false
set_option linter.unusedSimpArgs false
namespace Go.Abs
/-- A row that is being filled. -/
def fillR {α : Type} (l : List α) (z : α) (i : Nat) : List α := l.take i ++ List.replicate (l.length - i) z
@[simp] theorem fillR_length {α : Type} (l : List α) (z : α) (i : Nat) (h : i ≤ l.length) : (fillR l z i).length = l.length := by simp [fillR]; omega
theorem fillR_zero {α : Type} (l : List α) (z : α) : fillR l z 0 = List.replicate l.length z := by simp [fillR]
theorem fillR_all {α : Type} (l : List α) (z : α) : fillR l z l.length = l := by simp [fillR]
theorem fillR_set {α : Type} (l : List α) (z : α) (i : Nat) (h : i < l.length) : (fillR l z i).set i l[i] = fillR l z (i + 1) := by
  apply List.ext_getElem?
  intro j
  simp only [fillR, List.getElem?_set, List.getElem?_append, List.length_take, List.getElem?_take, List.getElem?_replicate]
  have hm : min i l.length = i := by omega
  have hm1 : min (i + 1) l.length = i + 1 := by omega
  simp only [hm, hm1, List.length_append, List.length_take, List.length_replicate]
  by_cases h1 : i = j
  · subst h1
    have : i < i + (l.length - i) := by omega
    simp [h, this]
  · by_cases h2 : j < i
    · have : j < i + 1 := by omega
      simp [h1, h2, this]
    · have h3 : ¬ j < i + 1 := by omega
      simp only [h1, h2, h3, if_false]
      by_cases h4 : j - i < l.length - i
      · have : j - (i + 1) < l.length - (i + 1) := by omega
        simp [h4, this]
      · have : ¬ j - (i + 1) < l.length - (i + 1) := by omega
        simp [h4, this]
@[simp] theorem onesL_length (v : List Int) : (onesL v).length = v.length := by simp [onesL]
theorem onesL_get (v : List Int) (i : Nat) (h : i < v.length) : (onesL v)[i]? = some ((i : Int), sz v[i]) := by simp [onesL, h]
/-- All are numbers of 64 bits. -/
def In64 (v : List Int) : Prop := ∀ x ∈ v, -9223372036854775808 ≤ x ∧ x ≤ 9223372036854775807
theorem In64.get {v : List Int} (h : In64 v) (i : Nat) (hi : i < v.length) : -9223372036854775808 ≤ v[i] ∧ v[i] ≤ 9223372036854775807 := h _ (List.getElem_mem hi)
theorem ones_eq (v : List Int) (f : Bool) (hb : v.length ≤ 1000000) (h64 : In64 v) : pure1 (C Q) 121 [.lst (nums .i64 v) f] = some (.own (prs (onesL v))) := by
  refine P_run c121 (v.length + 1) (by kernel_rfl) (by kernel_rfl) rfl ?_
  simp -implicitDefEqProofs (disch := omega) [c121]
  refine R_loop (fun i => [(3, .sl 0 0 0 v.length), (9, .lst (nums .i64 v) f), (10, .int .i64 v.length), (11, .int .i64 i)]) (fun i => [⟨0, false, .cells 2 (prs (fillR (onesL v) (0, 0) i))⟩]) v.length (by omega) (by simp) (by simp [fillR_zero]) ?_ ?_
  · intro i hi
    have h1 : v[i]? = some v[i] := by simp [hi]
    have h2 := h64.get i hi
    have h3 := size_eq v[i] h2.1 h2.2
    have h4 := fillR_set (onesL v) (0, 0) i (by simpa using hi)
    have h5 : (onesL v)[i]'(by simpa using hi) = ((i : Int), sz v[i]) := by simp [onesL]
    rw [h5] at h4
    have h6 := fillR_length (onesL v) (0, 0) i (by simp; omega)
    have h7 : i < (fillR (onesL v) (0, 0) i).length := by rw [h6]; simpa using hi
    have h8 : (fillR (onesL v) (0, 0) i)[i]? = some ((fillR (onesL v) (0, 0) i)[i]'h7) := by simp [h7]
    simp -implicitDefEqProofs (disch := omega) [h1, h3, h4, hi, h8]
  · have h6 : fillR (onesL v) (0, 0) v.length = onesL v := by
      have := fillR_all (onesL v) (0, 0)
      rwa [onesL_length] at this
    simp -implicitDefEqProofs (disch := omega) [h6]
    rw [List.take_of_length_le (by simp)]
theorem places_eq (l : List (Int × Int)) (f : Bool) (hb : l.length ≤ 1000000) : pure1 (C Q) 125 [.lst (prs l) f] = some (.own (nums .i64 (l.map (·.1)))) := by
  refine WP.eq (P_W c125 (l.length + 1) (by kernel_rfl) (by kernel_rfl) rfl ?_)
  simp -implicitDefEqProofs (disch := omega) [c125]
  refine W_loop (fun i => [(3, .sl 0 i 0 i), (9, .lst (prs l) f), (10, .int .i64 l.length), (11, .int .i64 i)]) (fun i H => ∃ G, H = ⟨i, false, .cells 1 (nums .i64 ((l.map (·.1)).take i))⟩ :: G) l.length (by omega) (by simp) ⟨[], by simp⟩ ?_ ?_
  · rintro i hi H ⟨G, rfl⟩
    have h1 : l[i]? = some l[i] := by simp [hi]
    have h2 : (l.map (·.1)).take i ++ [(l[i]).1] = (l.map (·.1)).take (i + 1) := by
      rw [List.take_add_one]; simp [hi]
    have h3 : ((l.map (·.1)).take i).length = i := by simp; omega
    have h4 : List.take i ((l.map (·.1)).take i) = (l.map (·.1)).take i := by rw [List.take_take, Nat.min_self]
    simp -implicitDefEqProofs (disch := omega) [h1, hi, h2, h3, h4]
  · rintro H ⟨G, rfl⟩
    simp -implicitDefEqProofs (disch := omega)
    rw [List.take_of_length_le (by simp), List.take_of_length_le (by simp)]
end Go.Abs

/- topk.Pick: what is picked. Conditions: those of each lemma. -/
set_option linter.unusedVariables false
set_option linter.unusedSimpArgs false
namespace Go.Abs
/-- What is picked: so many, rising, in the vector; all others are behind them. -/
structure IsPick (k : Nat) (v l : List Int) : Prop where
  rise : l.Pairwise (· < ·)
  len : l.length = k
  lo : ∀ p ∈ l, 0 ≤ p
  hi : ∀ p ∈ l, p.toNat < v.length
  best : ∀ p ∈ l, ∀ q : Nat, q < v.length → (q : Int) ∉ l → le2 ((q : Int), sz (v.getD q 0)) (p, sz (v.getD p.toNat 0))
/-- What is known of the heap while the vector is gone through. -/
def PickInv (k : Nat) (all : List (Int × Int)) (i : Nat) (L : List (Int × Int)) (m : Nat) : Prop :=
  m ≤ L.length ∧ L.length ≤ i + 1 ∧ m = min i k ∧ Hp L m ∧ ∃ R, (L.take m ++ R).Perm (all.take i) ∧ ∀ r ∈ R, ∀ q ∈ L.take m, le2 r q
theorem at2_mem {L : List (Int × Int)} {i : Nat} (h : i < L.length) : at2 L i ∈ L := by rw [at2_get h]; exact List.getElem_mem h
theorem Hp.topL {L : List (Int × Int)} {n : Nat} (h : Hp L n) (hn : L.length = n) {q : Int × Int} (hq : q ∈ L) : le2 (at2 L 0) q := by
  obtain ⟨t, ht, rfl⟩ := List.mem_iff_getElem.1 hq
  have := h.top t (by omega)
  rwa [at2_get ht] at this
theorem PickInv.keep {k : Nat} {all L L' : List (Int × Int)} {i m : Nat} (h : PickInv k all i L m) (hi : i < all.length) (hp : L'.Perm (L.take m ++ [all[i]])) (hh : Hp L' (m + 1)) (hk : m + 1 ≤ k) : PickInv k all (i + 1) L' (m + 1) := by
  obtain ⟨h1, h2, h3, h4, R, h5, h6⟩ := h
  have hl : L'.length = m + 1 := by rw [hp.length_eq]; simp; omega
  have hR : R = [] := by
    have := h5.length_eq
    simp at this
    have : R.length = 0 := by omega
    exact List.eq_nil_of_length_eq_zero this
  subst hR
  refine ⟨by omega, by omega, by omega, hh, [], ?_, fun r hr => by cases hr⟩
  have et : L'.take (m + 1) = L' := List.take_of_length_le (by omega)
  rw [List.append_nil, et, List.take_add_one]
  simp only [List.append_nil] at h5
  have e : all[i]? = some all[i] := by simp [hi]
  rw [e]
  exact hp.trans (h5.append_right _)
theorem PickInv.drop {k : Nat} {all L L1 L' : List (Int × Int)} {i m : Nat} (h : PickInv k all i L m) (hi : i < all.length) (hp : L1.Perm (L.take m ++ [all[i]])) (hh : Hp L1 (m + 1)) (hk : m = k)
    (hp' : L'.Perm L1) (hh' : Hp L' m) (ht : at2 L' m = at2 L1 0) : PickInv k all (i + 1) L' m := by
  obtain ⟨h1, h2, h3, h4, R, h5, h6⟩ := h
  have hl1 : L1.length = m + 1 := by rw [hp.length_eq]; simp; omega
  have hl : L'.length = m + 1 := by rw [hp'.length_eq, hl1]
  have hs : L' = L'.take m ++ [at2 L' m] := by
    have := List.take_append_drop m L'
    rw [List.drop_eq_getElem_cons (by omega : m < L'.length), List.drop_of_length_le (by omega)] at this
    rw [at2_get (by omega)]
    exact this.symm
  rw [ht] at hs
  have hq : ∀ q ∈ L'.take m, q ∈ L1 := fun q hq => hp'.mem_iff.1 (List.mem_of_mem_take hq)
  refine ⟨by omega, by omega, by omega, hh', at2 L1 0 :: R, ?_, fun r hr q hqm => ?_⟩
  · have e : all[i]? = some all[i] := by simp [hi]
    rw [List.take_add_one, e]
    have a1 : (L'.take m ++ at2 L1 0 :: R).Perm (L' ++ R) := by
      have : L'.take m ++ at2 L1 0 :: R = (L'.take m ++ [at2 L1 0]) ++ R := by simp
      rw [this, ← hs]
    have a2 : (L' ++ R).Perm ((L.take m ++ [all[i]]) ++ R) := (hp'.trans hp).append_right R
    have a3 : ((L.take m ++ [all[i]]) ++ R).Perm ((L.take m ++ R) ++ [all[i]]) := by
      rw [List.append_assoc, List.append_assoc]
      exact List.Perm.append_left _ List.perm_append_comm
    exact a1.trans (a2.trans (a3.trans (h5.append_right _)))
  · rcases List.mem_cons.1 hr with rfl | hr
    · exact hh.topL hl1 (hq q hqm)
    · have htop : at2 L1 0 ∈ L.take m ++ [all[i]] := hp.mem_iff.1 (at2_mem (by omega))
      rcases List.mem_append.1 htop with hT | hT
      · exact le2_trans (h6 r hr _ hT) (hh.topL hl1 (hq q hqm))
      · have hT' : at2 L1 0 = all[i] := by simpa using hT
        have a1 : (L'.take m ++ [all[i]]).Perm (L.take m ++ [all[i]]) := by
          rw [← hT', ← hs]
          exact hp'.trans (hT' ▸ hp)
        have a2 : (L'.take m).Perm (L.take m) := (List.perm_append_right_iff _).1 a1
        exact h6 r hr q (a2.mem_iff.1 hqm)
theorem onesL_fst (v : List Int) : (onesL v).map (·.1) = (List.range v.length).map (fun i : Nat => (i : Int)) := by
  apply List.ext_getElem?
  intro j
  by_cases h : j < v.length
  · simp [onesL, h]
  · simp [onesL, h]
theorem onesL_nodup (v : List Int) : ((onesL v).map (·.1)).Nodup := by
  rw [onesL_fst]
  exact List.Pairwise.map _ (fun i j h e => h (Int.ofNat_inj.1 e)) List.nodup_range
theorem onesL_mem {v : List Int} {x : Int × Int} (h : x ∈ onesL v) : 0 ≤ x.1 ∧ x.1.toNat < v.length ∧ x.2 = sz (v.getD x.1.toNat 0) := by
  obtain ⟨i, hi, rfl⟩ := List.mem_iff_getElem.1 h
  have hi' : i < v.length := by simpa using hi
  simp [onesL, hi']
theorem PickInv.done {k : Nat} {v : List Int} {L : List (Int × Int)} {m : Nat} (h : PickInv k (onesL v) v.length L m) (hk : k ≤ v.length) : IsPick k v (isortI ((L.take m).map (·.1))) := by
  obtain ⟨h1, h2, h3, h4, R, h5, h6⟩ := h
  have et : (onesL v).take v.length = onesL v := List.take_of_length_le (by simp)
  rw [et] at h5
  have hm : m = k := by omega
  have hnd : (((L.take m) ++ R).map (·.1)).Nodup := ((h5.map _).nodup_iff).2 (onesL_nodup v)
  rw [List.map_append] at hnd
  have hnd1 := (List.nodup_append.1 hnd).1
  have hmem : ∀ p, p ∈ isortI ((L.take m).map (·.1)) ↔ p ∈ (L.take m).map (·.1) := fun p => (isortI_perm _).mem_iff
  have hall : ∀ x ∈ L.take m, x ∈ onesL v := fun x hx => h5.mem_iff.1 (List.mem_append_left _ hx)
  refine ⟨?_, by simp; omega, fun p hp => ?_, fun p hp => ?_, fun p hp q hq hn => ?_⟩
  · have hs := isortI_sorted ((L.take m).map (·.1))
    have hn : (isortI ((L.take m).map (·.1))).Nodup := ((isortI_perm _).nodup_iff).2 hnd1
    have := hs.and hn
    exact this.imp (fun h => by omega)
  · obtain ⟨x, hx, rfl⟩ := List.mem_map.1 ((hmem p).1 hp)
    exact (onesL_mem (hall x hx)).1
  · obtain ⟨x, hx, rfl⟩ := List.mem_map.1 ((hmem p).1 hp)
    exact (onesL_mem (hall x hx)).2.1
  · obtain ⟨x, hx, rfl⟩ := List.mem_map.1 ((hmem p).1 hp)
    have hx2 := (onesL_mem (hall x hx)).2.2
    have hqm : ((q : Int), sz (v.getD q 0)) ∈ onesL v := by
      rw [List.mem_iff_getElem]
      exact ⟨q, by simpa using hq, by simp [onesL, hq]⟩
    have hqR : ((q : Int), sz (v.getD q 0)) ∈ R := by
      rcases List.mem_append.1 (h5.mem_iff.2 hqm) with h | h
      · exact absurd ((hmem _).2 (List.mem_map.2 ⟨_, h, rfl⟩)) hn
      · exact h
    have := h6 _ hqR _ hx
    rw [← hx2]
    exact this
end Go.Abs
