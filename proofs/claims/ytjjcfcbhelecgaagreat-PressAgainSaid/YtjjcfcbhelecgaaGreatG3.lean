/- Texts F24, F25, F26, F27 as one. Conditions: those of each lemma. -/
import Derived.Test.YtjjcfcbhelecgaaGreatG2
/- Pressing as the greatest; loosening. Conditions: those of each lemma. -/
set_option linter.unusedVariables false
set_option linter.unusedSimpArgs false
namespace Go.Abs
theorem press_T (s k w : Int) (v : List Int) (f : Bool) (seed : Int) (n : Rows) (g : Bool) (hb : v.length ≤ 4096) (h64 : In64 v) (hc : pressChk s k w v.length = 0) (hs : s = 1) :
    ∃ l, IsPick k.toNat v l ∧ pure1 (C Q) 14 [.agg [.int .i64 s, .int .i64 k, .int .i64 w], .lst (nums .i64 v) f, .int .u64 seed, .lst n g] = some (.tuple [sentA 1 v.length (.lst (nums .i64 l) false) (.lst (nums .i64 (gath l v)) false) 0 0 nilA nilA, .int .i64 0]) := by
  have h1 : ¬ 4096 < v.length := by omega
  subst hs
  have hk : 0 ≤ k ∧ k ≤ v.length ∧ 1 ≤ (v.length : Int) := by
    unfold pressChk at hc
    by_cases a : (v.length : Int) < 1
    · simp [a] at hc
    · by_cases b : 4096 < (v.length : Int)
      · simp [a, b] at hc
      · by_cases c : mayHow 1 k w v.length
        · unfold mayHow at c; omega
        · simp [a, b, c] at hc
  obtain ⟨l, hl, hp⟩ := topk105_eq 1 k w v f seed n g hb (by omega) h64 hk.1 hk.2.1
  refine ⟨l, hl, ?_⟩
  refine P_run c14 0 (by kernel_rfl) (by kernel_rfl) rfl ?_
  cases l with
  | nil =>
    simp only [sentA, nilA, gath, List.map_nil, ownS, if_true] at hp ⊢
    simp -implicitDefEqProofs (disch := omega) [c14, h1, hc, wayA, hp]
  | cons x l =>
    simp only [sentA, nilA, gath, List.map_cons, nums_cons, ownS, reduceCtorEq, if_false] at hp ⊢
    simp -implicitDefEqProofs (disch := omega) [c14, h1, hc, wayA, hp]
theorem loosen_D (v : List Int) (f : Bool) (hb : v.length ≤ 4096) (hv : v ≠ []) :
    pure1 (C Q) 15 [sentA 0 v.length nilA (.lst (nums .i64 v) f) 0 0 nilA nilA] = some (.tuple [.own (nums .i64 v), .int .i64 0]) := by
  have h0 : 0 < v.length := by cases v <;> simp_all
  have h1 := mayD_eq (nums .i64 v) f (by simpa using h0) (by simpa using hb)
  have h2 := denseL_eq 0 v.length nilA v f 0 0 nilA nilA hv (by omega)
  simp only [nums_length] at h1
  cases v with
  | nil => exact absurd rfl hv
  | cons x v =>
    generalize ((x :: v).length : Int) = d at h1 h2 ⊢
    simp only [sentA, nilA, nums_cons] at h1 h2 ⊢
    refine P_run c15 0 (by kernel_rfl) (by kernel_rfl) rfl ?_
    simp -implicitDefEqProofs (disch := omega) [c15, h1, h2, wayA]
theorem loosen_T (d : Int) (l w : List Int) (f g : Bool) (hi : idxOk d l) (hl : l.length = w.length) (hb : l.length ≤ 4096) :
    pure1 (C Q) 15 [sentA 1 d (.lst (nums .i64 l) f) (.lst (nums .i64 w) g) 0 0 nilA nilA] = some (.tuple [.own (nums .i64 (spr d.toNat l w l.length)), .int .i64 0]) := by
  have h1 := mayT_eq d l w f g hi hl hb
  have h2 := topk106_eq 1 d l w f g 0 0 nilA nilA (by omega) (by omega) hi hl
  have hd := hi.1
  have hn : 0 < (spr d.toNat l w l.length).length := by simp; omega
  generalize spr d.toNat l w l.length = x at h2 hn ⊢
  cases x with
  | nil => simp at hn
  | cons x xs =>
    simp only [sentA, nilA, nums_cons] at h1 h2 ⊢
    refine P_run c15 0 (by kernel_rfl) (by kernel_rfl) rfl ?_
    simp -implicitDefEqProofs (disch := omega) [c15, h1, h2, wayA]
/-! ### What is left of a vector -/
def keepL (l v : List Int) : List Int := v.mapIdx fun q n => if (q : Int) ∈ l then n else 0
@[simp] theorem keepL_length (l v : List Int) : (keepL l v).length = v.length := by simp [keepL]
theorem keepL_getD (l v : List Int) (q : Nat) (hq : q < v.length) : (keepL l v).getD q 0 = if (q : Int) ∈ l then v.getD q 0 else 0 := by simp [keepL, hq]
theorem spr_gath {l v : List Int} (hi : ∀ p ∈ l, 0 ≤ p ∧ p < (v.length : Int)) : spr v.length l (gath l v) l.length = keepL l v := by
  have key : ∀ i, i ≤ l.length → ∀ q : Nat, q < v.length → (spr v.length l (gath l v) i)[q]? = some (if (q : Int) ∈ l.take i then v.getD q 0 else 0) := by
    intro i
    induction i with
    | zero => intro _ q hq; simp [spr, hq]
    | succ i ih =>
      intro hi1 q hq
      have hil : i < l.length := by omega
      have h1 := ih (by omega) q hq
      have h2 := hi l[i] (List.getElem_mem hil)
      have h3 : l.getD i 0 = l[i] := getD_get hil
      have h4 : (gath l v).getD i 0 = v.getD (l[i]).toNat 0 := by simp [gath, hil]
      simp only [spr, List.getElem?_set, h3, h4, spr_length]
      have h5 : l.take (i + 1) = l.take i ++ [l[i]] := by rw [List.take_add_one]; simp [hil]
      have h6 : (q : Int) ∈ l.take (i + 1) ↔ ((q : Int) ∈ l.take i ∨ (q : Int) = l[i]) := by
        rw [h5]; simp only [List.mem_append, List.mem_singleton]
      by_cases e : (l[i]).toNat = q
      · have e2 : (q : Int) = l[i] := by omega
        rw [if_pos e, if_pos (h6.2 (.inr e2)), e, if_pos hq]
      · have e2 : ¬ (q : Int) = l[i] := by omega
        rw [if_neg e, h1]
        by_cases e3 : (q : Int) ∈ l.take i
        · rw [if_pos e3, if_pos (h6.2 (.inl e3))]
        · rw [if_neg e3, if_neg (fun h => (h6.1 h).elim e3 e2)]
  apply List.ext_getElem?
  intro q
  by_cases hq : q < v.length
  · rw [key l.length (Nat.le_refl _) q hq, List.take_length]
    simp [keepL, hq]
  · have h1 : ¬ q < (spr v.length l (gath l v) l.length).length := by simpa using hq
    have h2 : ¬ q < (keepL l v).length := by simpa using hq
    rw [List.getElem?_eq_none (by omega), List.getElem?_eq_none (by omega)]
theorem IsPick.nodup {k : Nat} {v l : List Int} (h : IsPick k v l) : l.Nodup := h.rise.imp (fun h => by omega)
theorem IsPick.idx {k : Nat} {v l : List Int} (h : IsPick k v l) (hv : 0 < v.length) (hb : v.length ≤ 4096) : idxOk v.length l :=
  ⟨⟨by omega, by omega⟩, rises_of h.rise, fun hl => by
    have h1 := h.in l[0] (List.getElem_mem hl)
    have h2 := h.in (l[l.length - 1]'(by omega)) (List.getElem_mem _)
    rw [getD_get hl, getD_get (by omega)]
    omega⟩
theorem sz_pos {n : Int} : 0 < sz n ↔ n ≠ 0 := by unfold sz; split <;> omega
theorem sz_nn (n : Int) : 0 ≤ sz n := by unfold sz; split <;> omega
/-- WHAT WAS PICKED OF IT IS PICKED AGAIN. -/
theorem keep_again {k : Nat} {v l m : List Int} (h1 : IsPick k v l) (h2 : IsPick k (keepL l v) m) : keepL m (keepL l v) = keepL l v := by
  apply List.ext_getElem?
  intro q
  by_cases hq : q < v.length
  · have e : (keepL l v)[q]? = some ((keepL l v).getD q 0) := getD_some 0 (by simpa using hq)
    have e2 : (keepL m (keepL l v))[q]? = some ((keepL m (keepL l v)).getD q 0) := getD_some 0 (by simpa using hq)
    rw [e, e2, keepL_getD m (keepL l v) q (by simpa using hq)]
    by_cases hm : (q : Int) ∈ m
    · rw [if_pos hm]
    · rw [if_neg hm]
      -- a number that was left out is 0
      have : (keepL l v).getD q 0 = 0 := by
        apply Decidable.byContradiction
        intro hne
        have hql : (q : Int) ∈ l := by
          rw [keepL_getD l v q hq] at hne
          apply Decidable.byContradiction
          intro hn
          rw [if_neg hn] at hne
          exact hne rfl
        have hsub : ∀ p ∈ m, p ∈ l := fun p hp => by
          have hb := h2.best p hp q (by simpa using hq) hm
          have hpv := h2.in p hp
          simp only [keepL_length] at hpv
          have h3 : sz ((keepL l v).getD q 0) ≤ sz ((keepL l v).getD p.toNat 0) := by
            unfold le2 beh at hb
            simp only at hb
            omega
          have h4 := sz_pos.2 hne
          have h5 : (keepL l v).getD p.toNat 0 ≠ 0 := sz_pos.1 (by omega)
          rw [keepL_getD l v p.toNat (by omega)] at h5
          apply Decidable.byContradiction
          intro hn
          have e3 : ((p.toNat : Nat) : Int) = p := by omega
          rw [e3, if_neg hn] at h5
          exact h5 rfl
        have hnd : ((q : Int) :: m).Nodup := List.nodup_cons.2 ⟨hm, h2.nodup⟩
        have hle := List.Nodup.length_le_of_subset hnd (fun x hx => by
          rcases List.mem_cons.1 hx with rfl | hx
          · exact hql
          · exact hsub x hx : ((q : Int) :: m) ⊆ l)
        have a1 := h1.len
        have a2 := h2.len
        simp at hle
        omega
      rw [this]
  · have a1 : ¬ q < (keepL m (keepL l v)).length := by simpa using hq
    have a2 : ¬ q < (keepL l v).length := by simpa using hq
    rw [List.getElem?_eq_none (by omega), List.getElem?_eq_none (by omega)]
end Go.Abs

/- fix: adding, taking away, with what goes over told. Conditions: those of each lemma. -/
set_option linter.unusedVariables false
set_option linter.unusedSimpArgs false
namespace Go.Abs
theorem wrap_toNat (b : BitVec 64) : IntKind.i64.wrap (b.toNat : Int) = b.toInt := by
  have e : (2 : Int) ^ 64 = 18446744073709551616 := by decide
  have e' : (2 : Int) ^ 63 = 9223372036854775808 := by decide
  have hb := b.isLt
  simp only [IntKind.wrap, IntKind.bits, IntKind.signed, Bool.true_and, Nat.reduceSub, e, e', BitVec.toInt]
  split <;> split <;> simp_all <;> omega
theorem ofInt_toInt {x : Int} (h1 : -9223372036854775808 ≤ x) (h2 : x ≤ 9223372036854775807) : (BitVec.ofInt 64 x).toInt = x := by
  rw [BitVec.toInt_ofInt]
  have e : ((2 ^ 64 : Nat) : Int) = 18446744073709551616 := by decide
  simp only [Int.bmod, e]
  split <;> omega
theorem xorK_neg {x y : Int} (h1 : -9223372036854775808 ≤ x) (h2 : x ≤ 9223372036854775807) (h3 : -9223372036854775808 ≤ y) (h4 : y ≤ 9223372036854775807) :
    (xorK .i64 x y < 0 ↔ ¬ (x < 0 ↔ y < 0)) ∧ -9223372036854775808 ≤ xorK .i64 x y ∧ xorK .i64 x y ≤ 9223372036854775807 := by
  have e : xorK .i64 x y = (BitVec.ofInt 64 x ^^^ BitVec.ofInt 64 y).toInt := wrap_toNat _
  rw [e]
  have a1 := BitVec.le_toInt (BitVec.ofInt 64 x ^^^ BitVec.ofInt 64 y)
  have a2 := BitVec.toInt_lt (x := BitVec.ofInt 64 x ^^^ BitVec.ofInt 64 y)
  have e' : (2 : Int) ^ (64 - 1) = 9223372036854775808 := by decide
  rw [e'] at a1 a2
  refine ⟨?_, by omega, by omega⟩
  have m := BitVec.msb_xor (x := BitVec.ofInt 64 x) (y := BitVec.ofInt 64 y)
  rw [BitVec.msb_eq_toInt, BitVec.msb_eq_toInt, BitVec.msb_eq_toInt, ofInt_toInt h1 h2, ofInt_toInt h3 h4] at m
  by_cases c1 : x < 0 <;> by_cases c2 : y < 0 <;> simp [c1, c2] at m ⊢ <;> omega
theorem andK_neg {x y : Int} (h1 : -9223372036854775808 ≤ x) (h2 : x ≤ 9223372036854775807) (h3 : -9223372036854775808 ≤ y) (h4 : y ≤ 9223372036854775807) :
    andK .i64 x y < 0 ↔ (x < 0 ∧ y < 0) := by
  have e : andK .i64 x y = (BitVec.ofInt 64 x &&& BitVec.ofInt 64 y).toInt := wrap_toNat _
  rw [e]
  have m := BitVec.msb_and (x := BitVec.ofInt 64 x) (y := BitVec.ofInt 64 y)
  rw [BitVec.msb_eq_toInt, BitVec.msb_eq_toInt, BitVec.msb_eq_toInt, ofInt_toInt h1 h2, ofInt_toInt h3 h4] at m
  by_cases c1 : x < 0 <;> by_cases c2 : y < 0 <;> simp [c1, c2] at m ⊢ <;> omega
/-- A number of 64 bits. -/
def inR (x : Int) : Prop := -9223372036854775808 ≤ x ∧ x ≤ 9223372036854775807
instance (x : Int) : Decidable (inR x) := by unfold inR; infer_instance
def orOver (x : Int) : AV := if inR x then .tuple [.int .i64 x, .int .i64 0] else .tuple [.int .i64 0, .int .i64 2]
theorem wrap_rng (x : Int) : -9223372036854775808 ≤ IntKind.i64.wrap x ∧ IntKind.i64.wrap x ≤ 9223372036854775807 := by
  have e : (2 : Int) ^ 64 = 18446744073709551616 := by decide
  have e' : (2 : Int) ^ 63 = 9223372036854775808 := by decide
  simp only [IntKind.wrap, IntKind.bits, IntKind.signed, Bool.true_and, Nat.reduceSub, e, e']
  split <;> simp_all <;> omega
theorem wrap_over {x : Int} (h1 : -18446744073709551616 ≤ x) (h2 : x < 18446744073709551616) : IntKind.i64.wrap x = if 9223372036854775807 < x then x - 18446744073709551616 else if x < -9223372036854775808 then x + 18446744073709551616 else x := by
  have e : (2 : Int) ^ 64 = 18446744073709551616 := by decide
  have e' : (2 : Int) ^ 63 = 9223372036854775808 := by decide
  simp only [IntKind.wrap, IntKind.bits, IntKind.signed, Bool.true_and, Nat.reduceSub, e, e']
  by_cases c : x % 18446744073709551616 < 9223372036854775808
  · have : ¬ (9223372036854775808 ≤ x % 18446744073709551616) := by omega
    simp [this]; repeat' split
    all_goals omega
  · have : 9223372036854775808 ≤ x % 18446744073709551616 := by omega
    simp [this]; repeat' split
    all_goals omega
theorem fixAdd_eq (a b : Int) (ha : inR a) (hb : inR b) : pure1 (C Q) 96 [.int .i64 a, .int .i64 b] = some (orOver (a + b)) := by
  obtain ⟨a1, a2⟩ := ha
  obtain ⟨b1, b2⟩ := hb
  have hw := wrap_over (x := a + b) (by omega) (by omega)
  have hr := wrap_rng (a + b)
  have x1 := xorK_neg a1 a2 hr.1 hr.2
  have x2 := xorK_neg b1 b2 hr.1 hr.2
  have x3 := andK_neg x1.2.1 x1.2.2 x2.2.1 x2.2.2
  refine P_run c96 0 (by kernel_rfl) (by kernel_rfl) rfl ?_
  by_cases h : inR (a + b)
  · have hn : ¬ andK .i64 (xorK .i64 a (IntKind.i64.wrap (a + b))) (xorK .i64 b (IntKind.i64.wrap (a + b))) < 0 := by
      unfold inR at h
      rw [x3, x1.1, x2.1, hw]
      repeat' split
      all_goals omega
    have hw2 : IntKind.i64.wrap (a + b) = a + b := wrap_i64 h.1 h.2
    rw [hw2] at hn
    simp -implicitDefEqProofs [c96, hw2, hn, orOver, h]
  · have hn : andK .i64 (xorK .i64 a (IntKind.i64.wrap (a + b))) (xorK .i64 b (IntKind.i64.wrap (a + b))) < 0 := by
      unfold inR at h
      rw [x3, x1.1, x2.1, hw]
      repeat' split
      all_goals omega
    simp -implicitDefEqProofs [c96, hn, orOver, h]
theorem fixSub_eq (a b : Int) (ha : inR a) (hb : inR b) : pure1 (C Q) 165 [.int .i64 a, .int .i64 b] = some (orOver (a - b)) := by
  obtain ⟨a1, a2⟩ := ha
  obtain ⟨b1, b2⟩ := hb
  have hw := wrap_over (x := a - b) (by omega) (by omega)
  have hr := wrap_rng (a - b)
  have x1 := xorK_neg a1 a2 b1 b2
  have x2 := xorK_neg a1 a2 hr.1 hr.2
  have x3 := andK_neg x1.2.1 x1.2.2 x2.2.1 x2.2.2
  refine P_run c165 0 (by kernel_rfl) (by kernel_rfl) rfl ?_
  by_cases h : inR (a - b)
  · have hn : ¬ andK .i64 (xorK .i64 a b) (xorK .i64 a (IntKind.i64.wrap (a - b))) < 0 := by
      unfold inR at h
      rw [x3, x1.1, x2.1, hw]
      repeat' split
      all_goals omega
    have hw2 : IntKind.i64.wrap (a - b) = a - b := wrap_i64 h.1 h.2
    rw [hw2] at hn
    simp -implicitDefEqProofs [c165, hw2, hn, orOver, h]
  · have hn : andK .i64 (xorK .i64 a b) (xorK .i64 a (IntKind.i64.wrap (a - b))) < 0 := by
      unfold inR at h
      rw [x3, x1.1, x2.1, hw]
      repeat' split
      all_goals omega
    simp -implicitDefEqProofs [c165, hn, orOver, h]
theorem fixNeg_eq (a : Int) (ha : inR a) : pure1 (C Q) 265 [.int .i64 a] = some (orOver (-a)) := by
  have h := fixSub_eq 0 a (by unfold inR; omega) ha
  refine P_run c265 0 (by kernel_rfl) (by kernel_rfl) rfl ?_
  rw [show (0 : Int) - a = -a by omega] at h
  by_cases c : inR (-a)
  · simp only [orOver, if_pos c] at h ⊢
    simp -implicitDefEqProofs [c265, h]
  · simp only [orOver, if_neg c] at h ⊢
    simp -implicitDefEqProofs [c265, h]
theorem fixAbs_eq (a : Int) (ha : inR a) : pure1 (C Q) 230 [.int .i64 a] = some (orOver (sz a)) := by
  have h := fixNeg_eq a ha
  refine P_run c230 0 (by kernel_rfl) (by kernel_rfl) rfl ?_
  by_cases h0 : 0 ≤ a
  · have e : sz a = a := by unfold sz; split <;> omega
    rw [e, orOver, if_pos ha]
    simp -implicitDefEqProofs [c230, h0]
  · have e : sz a = -a := by unfold sz; split <;> omega
    rw [e]
    by_cases c : inR (-a)
    · simp only [orOver, if_pos c] at h ⊢
      simp -implicitDefEqProofs [c230, h0, h]
    · simp only [orOver, if_neg c] at h ⊢
      simp -implicitDefEqProofs [c230, h0, h]
end Go.Abs

/- Signs: how great numbers are, pressed, loosened. Conditions: those of each lemma. -/
set_option linter.unusedVariables false
set_option linter.unusedSimpArgs false
namespace Go.Abs
/-- All sizes of the first i. -/
def pre (v : List Int) : Nat → Int
  | 0 => 0
  | i + 1 => pre v i + sz (v.getD i 0)
theorem pre_nn (v : List Int) : ∀ i, 0 ≤ pre v i
  | 0 => by simp [pre]
  | i + 1 => by have := pre_nn v i; have := sz_nn (v.getD i 0); simp only [pre]; omega
theorem pre_mono (v : List Int) (i : Nat) : ∀ j, i ≤ j → pre v i ≤ pre v j
  | 0, h => by have : i = 0 := by omega
               subst this; omega
  | j + 1, h => by
    by_cases e : i = j + 1
    · subst e; omega
    · have := pre_mono v i j (by omega)
      have := sz_nn (v.getD j 0)
      simp only [pre]; omega
theorem pre_cases (v : List Int) (n : Nat) : (inR (pre v n) ∧ ∀ i, i < n → inR (pre v (i + 1))) ∨ ∃ m, m < n ∧ ¬ inR (pre v n) ∧ ¬ inR (pre v (m + 1)) ∧ ∀ i, i < m → inR (pre v (i + 1)) := by
  rcases first_cases (fun i => decide (¬ inR (pre v (i + 1)))) (List.range n) with ⟨_, h2⟩ | ⟨m, hm, _, h2, h3⟩
  · have h4 : ∀ i, i < n → inR (pre v (i + 1)) := fun i hi => by
      have := h2 i (by simpa using hi)
      simpa using this
    refine .inl ⟨?_, h4⟩
    cases n with
    | zero => unfold inR; simp [pre]
    | succ n => exact h4 n (by omega)
  · have hm' : m < n := by simpa using hm
    have h4 : ¬ inR (pre v (m + 1)) := by simpa using h2
    refine .inr ⟨m, hm', ?_, h4, fun i hi => by
      have := h3 i hi
      simpa using this⟩
    have := pre_mono v (m + 1) n (by omega)
    have := pre_nn v (m + 1)
    unfold inR at h4 ⊢
    omega
theorem sz1_C (v : List Int) (f : Bool) (h64 : In64 v) (i : Nat) (hi : i < v.length) (G : Heap) :
    C Q 269 [.int .i64 i, .ptr 0 0 0 0] (⟨0, false, .cells 1 [[.lst (nums .i64 v) f]]⟩ :: G) = some (orOver (sz v[i]), ⟨0, false, .cells 1 [[.lst (nums .i64 v) f]]⟩ :: G) := by
  have ha := fixAbs_eq v[i] (h64.get i hi)
  have e1 : v[i]? = some v[i] := by simp [hi]
  refine C_run c269 0 (by kernel_rfl) (by kernel_rfl) rfl ?_
  by_cases c : inR (sz v[i])
  · simp only [orOver, if_pos c] at ha ⊢
    simp -implicitDefEqProofs (disch := omega) [c269, e1, hi, ha]
  · simp only [orOver, if_neg c] at ha ⊢
    simp -implicitDefEqProofs (disch := omega) [c269, e1, hi, ha]
theorem total_C (v : List Int) (f : Bool) (h64 : In64 v) (hb : v.length ≤ 4096) (G : Heap) :
    C Q 268 [.int .i64 v.length, .func (.func 269) [] [.ptr 0 0 0 0]] (⟨0, false, .cells 1 [[.lst (nums .i64 v) f]]⟩ :: G) = some (orOver (pre v v.length), ⟨0, false, .cells 1 [[.lst (nums .i64 v) f]]⟩ :: G) := by
  refine C_run c268 (v.length + 1) (by kernel_rfl) (by kernel_rfl) rfl ?_
  simp -implicitDefEqProofs (disch := omega) [c268]
  rcases pre_cases v v.length with ⟨h1, h2⟩ | ⟨m, hm, h1, h2, h3⟩
  · rw [orOver, if_pos h1]
    refine R_loop (fun i => [(1, .func (.func 269) [] [.ptr 0 0 0 0]), (4, .int .i64 (pre v i)), (9, .int .i64 v.length), (10, .int .i64 i)]) (fun i => ⟨0, false, .cells 1 [[.lst (nums .i64 v) f]]⟩ :: G) v.length (by omega) (by simp [pre]) rfl ?_ ?_
    · intro i hi
      have c := h2 i hi
      have p0 := pre_nn v i
      have e1 : pre v (i + 1) = pre v i + sz v[i] := by simp only [pre]; rw [getD_get hi]
      have s0 := sz_nn v[i]
      have r1 : inR (sz v[i]) := by unfold inR at c ⊢; omega
      have r2 : inR (pre v i) := by unfold inR at c ⊢; omega
      have a1 := sz1_C v f h64 i hi G
      have a2 := fixAdd_eq (pre v i) (sz v[i]) r2 r1
      rw [← e1] at a2
      simp only [orOver, if_pos r1] at a1
      simp only [orOver, if_pos c] at a2
      simp -implicitDefEqProofs (disch := omega) [hi, a1, a2]
    · simp -implicitDefEqProofs (disch := omega)
  · rw [orOver, if_neg h1]
    refine R_loop (fun i => [(1, .func (.func 269) [] [.ptr 0 0 0 0]), (4, .int .i64 (pre v i)), (9, .int .i64 v.length), (10, .int .i64 i)]) (fun i => ⟨0, false, .cells 1 [[.lst (nums .i64 v) f]]⟩ :: G) m (by omega) (by simp [pre]) rfl ?_ ?_
    · intro i hi
      have hi' : i < v.length := by omega
      have c := h3 i hi
      have p0 := pre_nn v i
      have e1 : pre v (i + 1) = pre v i + sz v[i] := by simp only [pre]; rw [getD_get hi']
      have s0 := sz_nn v[i]
      have r1 : inR (sz v[i]) := by unfold inR at c ⊢; omega
      have r2 : inR (pre v i) := by unfold inR at c ⊢; omega
      have a1 := sz1_C v f h64 i hi' G
      have a2 := fixAdd_eq (pre v i) (sz v[i]) r2 r1
      rw [← e1] at a2
      simp only [orOver, if_pos r1] at a1
      simp only [orOver, if_pos c] at a2
      simp -implicitDefEqProofs (disch := omega) [hi', a1, a2]
    · have a1 := sz1_C v f h64 m hm G
      have r2 : inR (pre v m) := by
        cases m with
        | zero => unfold inR; simp [pre]
        | succ m => exact h3 m (by omega)
      by_cases r1 : inR (sz v[m])
      · have e1 : pre v (m + 1) = pre v m + sz v[m] := by simp only [pre]; rw [getD_get hm]
        have a2 := fixAdd_eq (pre v m) (sz v[m]) r2 r1
        rw [← e1] at a2
        simp only [orOver, if_pos r1] at a1
        simp only [orOver, if_neg h2] at a2
        simp -implicitDefEqProofs (disch := omega) [hm, a1, a2]
      · simp only [orOver, if_neg r1] at a1
        simp -implicitDefEqProofs (disch := omega) [hm, a1]
theorem vecSize_eq (v : List Int) (f : Bool) (h64 : In64 v) (hb : v.length ≤ 4096) : pure1 (C Q) 235 [.lst (nums .i64 v) f] = some (orOver (pre v v.length)) := by
  have h1 : ¬ 4096 < v.length := by omega
  have h2 := total_C v f h64 hb []
  refine P_run c235 0 (by kernel_rfl) (by kernel_rfl) rfl ?_
  by_cases c : inR (pre v v.length)
  · simp only [orOver, if_pos c] at h2 ⊢
    simp -implicitDefEqProofs (disch := omega) [c235, h1, h2]
  · simp only [orOver, if_neg c] at h2 ⊢
    simp -implicitDefEqProofs (disch := omega) [c235, h1, h2]
theorem mean_eq (v : List Int) (f : Bool) (h64 : In64 v) (hb : v.length ≤ 4096) (hv : 0 < v.length) : pure1 (C Q) 188 [.lst (nums .i64 v) f] = some (if inR (pre v v.length) then .tuple [.int .i64 ((pre v v.length).tdiv v.length), .int .i64 0] else .tuple [.int .i64 0, .int .i64 2]) := by
  have h2 := vecSize_eq v f h64 hb
  have h3 : ¬ v.length = 0 := by omega
  have h3' : ¬ (v.length : Int) = 0 := by omega
  have h4 : ¬ v = [] := fun e => h3 (by rw [e]; rfl)
  refine P_run c188 0 (by kernel_rfl) (by kernel_rfl) rfl ?_
  by_cases c : inR (pre v v.length)
  · rw [if_pos c]
    simp only [orOver, if_pos c] at h2 ⊢
    have p0 := pre_nn v v.length
    have e1 : IntKind.i64.wrap ((pre v v.length).tdiv v.length) = (pre v v.length).tdiv v.length := by
      have a1 : 0 ≤ (pre v v.length).tdiv v.length := Int.tdiv_nonneg p0 (by omega)
      have a2 : (pre v v.length).tdiv v.length ≤ pre v v.length := by
        rw [Int.tdiv_eq_ediv_of_nonneg p0]
        exact Int.ediv_le_self _ p0
      unfold inR at c
      exact wrap_i64 (by omega) (by omega)
    generalize pre v v.length = x at *
    simp -implicitDefEqProofs (disch := omega) [c188, h2, h3, h3', h4, e1]
  · rw [if_neg c]
    simp only [orOver, if_neg c] at h2 ⊢
    simp -implicitDefEqProofs (disch := omega) [c188, h2, h3, h3', h4]
end Go.Abs

/- Signs: pressed, loosened. Conditions: those of each lemma. -/
set_option linter.unusedVariables false
set_option linter.unusedSimpArgs false
namespace Go.Abs
def negs (v : List Int) : List Bool := v.map fun n => decide (n < 0)
@[simp] theorem negs_length (v : List Int) : (negs v).length = v.length := by simp [negs]
@[simp] theorem neg1_eq (n : Int) : pure1 (C Q) 190 [.int .i64 n] = some (.bool (decide (n < 0))) := by
  refine P_run c190 0 (by kernel_rfl) (by kernel_rfl) rfl ?_
  simp -implicitDefEqProofs [c190]
theorem each189_eq (v : List Int) (f : Bool) (hb : v.length ≤ 4096) : pure1 (C Q) 189 [.lst (nums .i64 v) f, .func (.func 190) [] []] = some (.own (bls (negs v))) := by
  refine P_run c189 (v.length + 1) (by kernel_rfl) (by kernel_rfl) rfl ?_
  simp -implicitDefEqProofs (disch := omega) [c189]
  refine R_loop (fun i => [(1, .func (.func 190) [] []), (5, .sl 0 i 0 i), (11, .lst (nums .i64 v) f), (12, .int .i64 v.length), (13, .int .i64 i)]) (fun i => [⟨i, false, .cells 1 (bls ((negs v).take i))⟩]) v.length (by omega) (by simp) (by simp) ?_ ?_
  · intro i hi
    have e1 : v[i]? = some v[i] := by simp [hi]
    have e4 : (negs v).take i ++ [decide (v[i] < 0)] = (negs v).take (i + 1) := by
      rw [List.take_add_one]; simp [negs, hi]
    have e5 : List.take i ((negs v).take i) = (negs v).take i := by rw [List.take_take, Nat.min_self]
    have e6 : ((negs v).take i).length = i := by simp; omega
    simp -implicitDefEqProofs (disch := omega) [e1, hi, e4, e5, e6]
  · simp -implicitDefEqProofs (disch := omega)
    rw [List.take_of_length_le (by simp), List.take_of_length_le (by simp)]
theorem signPress_eq (v : List Int) (f : Bool) (h64 : In64 v) (hb : v.length ≤ 4096) (hv : 0 < v.length) :
    pure1 (C Q) 117 [.lst (nums .i64 v) f] = some (if inR (pre v v.length) then .tuple [sentA 3 v.length nilA nilA ((pre v v.length).tdiv v.length) 0 nilA (.lst (bls (negs v)) false), .int .i64 0] else .tuple [sentA 0 0 nilA nilA 0 0 nilA nilA, .int .i64 2]) := by
  have h1 := mean_eq v f h64 hb hv
  have h2 := each189_eq v f hb
  refine P_run c117 0 (by kernel_rfl) (by kernel_rfl) rfl ?_
  by_cases c : inR (pre v v.length)
  · rw [if_pos c] at h1 ⊢
    generalize pre v v.length = x at *
    simp -implicitDefEqProofs (disch := omega) [c117, h1, h2, sentA, nilA, clo, cloAll, cloRows]
  · rw [if_neg c] at h1 ⊢
    simp -implicitDefEqProofs (disch := omega) [c117, h1, sentA, nilA]
theorem sign116_eq (how : List AV) (hh : how.length = 3) (v : List Int) (f : Bool) (seed : Int) (n : Rows) (g : Bool) (h64 : In64 v) (hb : v.length ≤ 4096) (hv : 0 < v.length) :
    pure1 (C Q) 116 [.agg how, .lst (nums .i64 v) f, .int .u64 seed, .lst n g] = some (if inR (pre v v.length) then .tuple [sentA 3 v.length nilA nilA ((pre v v.length).tdiv v.length) 0 nilA (.lst (bls (negs v)) false), .int .i64 0] else .tuple [sentA 0 0 nilA nilA 0 0 nilA nilA, .int .i64 2]) := by
  have h1 := signPress_eq v f h64 hb hv
  refine P_run c116 0 (by kernel_rfl) (by kernel_rfl) rfl ?_
  by_cases c : inR (pre v v.length)
  · rw [if_pos c] at h1 ⊢
    generalize pre v v.length = x at *
    simp only [sentA, nilA] at h1 ⊢
    simp -implicitDefEqProofs (disch := omega) [c116, h1, hh]
  · rw [if_neg c] at h1 ⊢
    simp only [sentA, nilA] at h1 ⊢
    simp -implicitDefEqProofs (disch := omega) [c116, h1, hh]
theorem press_S (s k w : Int) (v : List Int) (f : Bool) (seed : Int) (n : Rows) (g : Bool) (hb : v.length ≤ 4096) (h64 : In64 v) (hc : pressChk s k w v.length = 0) (hs : s = 3) (hv : 0 < v.length) :
    pure1 (C Q) 14 [.agg [.int .i64 s, .int .i64 k, .int .i64 w], .lst (nums .i64 v) f, .int .u64 seed, .lst n g] = some (if inR (pre v v.length) then .tuple [sentA 3 v.length nilA nilA ((pre v v.length).tdiv v.length) 0 nilA (.lst (bls (negs v)) false), .int .i64 0] else .tuple [sentA 0 0 nilA nilA 0 0 nilA nilA, .int .i64 2]) := by
  have h1 : ¬ 4096 < v.length := by omega
  subst hs
  have hd := sign116_eq [.int .i64 3, .int .i64 k, .int .i64 w] rfl v f seed n g h64 hb hv
  refine P_run c14 0 (by kernel_rfl) (by kernel_rfl) rfl ?_
  by_cases c : inR (pre v v.length)
  · rw [if_pos c] at hd ⊢
    generalize pre v v.length = x at *
    simp only [sentA, nilA] at hd ⊢
    simp -implicitDefEqProofs (disch := omega) [c14, h1, hc, wayA, hd]
  · rw [if_neg c] at hd ⊢
    simp only [sentA, nilA] at hd ⊢
    simp -implicitDefEqProofs (disch := omega) [c14, h1, hc, wayA, hd]
/-! ### Loosened -/
def sgn (n : Int) (b : Bool) : Int := if b = true then -n else n
def sgns (n : Int) (l : List Bool) : List Int := l.map (sgn n)
@[simp] theorem sgns_length (n : Int) (l : List Bool) : (sgns n l).length = l.length := by simp [sgns]
def boxS (s d n : Int) (l v lev neg : AV) (w : Int) : Blk := ⟨0, false, .cells 8 [[.int .i64 s, .int .i64 d, l, v, .int .i64 n, .int .i64 w, lev, neg]]⟩
theorem sgn_C (s d n : Int) (l v lev neg : AV) (w : Int) (b : Bool) (G : Heap) (h0 : 0 ≤ n) (hn : n ≤ 9223372036854775807) : C Q 192 [.bool b, .ptr 0 0 0 0] (boxS s d n l v lev neg w :: G) = some (.int .i64 (sgn n b), boxS s d n l v lev neg w :: G) := by
  refine C_run c192 0 (by kernel_rfl) (by kernel_rfl) rfl ?_
  cases b
  · simp -implicitDefEqProofs (disch := omega) [c192, boxS, sgn]
  · simp -implicitDefEqProofs (disch := omega) [c192, boxS, sgn]
theorem each191_C (s d n : Int) (l v lev neg : AV) (w : Int) (bs : List Bool) (f : Bool) (hb : bs.length ≤ 4096) (h0 : 0 ≤ n) (hn : n ≤ 9223372036854775807) :
    C Q 191 [.lst (bls bs) f, .func (.func 192) [] [.ptr 0 0 0 0]] [boxS s d n l v lev neg w] = some (.sl 1 bs.length 0 bs.length, [boxS s d n l v lev neg w, ⟨bs.length, false, .cells 1 (nums .i64 (sgns n bs))⟩]) := by
  refine C_run c191 (bs.length + 1) (by kernel_rfl) (by kernel_rfl) rfl ?_
  simp -implicitDefEqProofs (disch := omega) [c191]
  refine R_loop (fun i => [(1, .func (.func 192) [] [.ptr 0 0 0 0]), (5, .sl 1 i 0 i), (11, .lst (bls bs) f), (12, .int .i64 bs.length), (13, .int .i64 i)]) (fun i => [boxS s d n l v lev neg w, ⟨i, false, .cells 1 (nums .i64 ((sgns n bs).take i))⟩]) bs.length (by omega) (by simp) (by simp) ?_ ?_
  · intro i hi
    have e1 : bs[i]? = some bs[i] := by simp [hi]
    have e4 : (sgns n bs).take i ++ [sgn n bs[i]] = (sgns n bs).take (i + 1) := by
      rw [List.take_add_one]; simp [sgns, hi]
    have e5 : List.take i ((sgns n bs).take i) = (sgns n bs).take i := by rw [List.take_take, Nat.min_self]
    have e6 : ((sgns n bs).take i).length = i := by simp; omega
    have e7 := sgn_C s d n l v lev neg w bs[i] [⟨i, false, .cells 1 (nums .i64 ((sgns n bs).take i))⟩] h0 hn
    simp -implicitDefEqProofs (disch := omega) [e1, hi, e4, e5, e6, e7]
  · simp -implicitDefEqProofs (disch := omega)
    rw [List.take_of_length_le (by simp)]
theorem signL_eq (d n : Int) (bs : List Bool) (f : Bool) (hd : 0 < d) (hd2 : d ≤ 4096) (h0 : 0 ≤ n) (hn : n ≤ 9223372036854775807) (hl : (bs.length : Int) = d) :
    pure1 (C Q) 118 [sentA 3 d nilA nilA n 0 nilA (.lst (bls bs) f)] = some (.tuple [.own (nums .i64 (sgns n bs)), .int .i64 0]) := by
  have h1 := mayS_eq d n (bls bs) f hd hd2 h0 (by simpa using hl)
  have h2 := each191_C 3 d n nilA nilA nilA (.lst (bls bs) f) 0 bs f (by omega) h0 hn
  simp only [sentA, nilA, boxS] at h1 h2 ⊢
  refine P_run c118 0 (by kernel_rfl) (by kernel_rfl) rfl ?_
  simp -implicitDefEqProofs (disch := omega) [c118, h1, h2]
  rw [List.take_of_length_le (by simp)]
theorem loosen_S (d n : Int) (bs : List Bool) (f : Bool) (hd : 0 < d) (hd2 : d ≤ 4096) (h0 : 0 ≤ n) (hn : n ≤ 9223372036854775807) (hl : (bs.length : Int) = d) :
    pure1 (C Q) 15 [sentA 3 d nilA nilA n 0 nilA (.lst (bls bs) f)] = some (.tuple [.own (nums .i64 (sgns n bs)), .int .i64 0]) := by
  have h1 := mayS_eq d n (bls bs) f hd hd2 h0 (by simpa using hl)
  have h2 := signL_eq d n bs f hd hd2 h0 hn hl
  have h3 : 0 < (sgns n bs).length := by simp; omega
  generalize sgns n bs = x at h2 h3 ⊢
  cases x with
  | nil => simp at h3
  | cons x xs =>
    simp only [sentA, nilA, nums_cons] at h1 h2 ⊢
    refine P_run c15 0 (by kernel_rfl) (by kernel_rfl) rfl ?_
    simp -implicitDefEqProofs (disch := omega) [c15, h1, h2, wayA]
end Go.Abs
