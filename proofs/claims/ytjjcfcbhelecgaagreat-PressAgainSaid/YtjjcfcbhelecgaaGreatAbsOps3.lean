/- Operations that build values and compare them. Conditions: those of each lemma. -/
import Derived.Test.YtjjcfcbhelecgaaGreatAbsOps2
import Derived.Laws.StructEq
import Derived.Laws.Tables
set_option linter.unusedVariables false
set_option linter.unusedSimpArgs false
namespace Go.Abs
variable {P : Program} {c : Cx} {B : Nat} {H : Heap} {e : Env} {act : Act}

/-! ### Building -/
theorem fold_set (vs : List Value) : ∀ (off k : Nat) (cells : Array Value), off + k + vs.length ≤ cells.size →
    ((vs.zipIdx k).foldl (fun cs (x, j) => cs.setIfInBounds (off + j) x) cells).toList = cells.toList.take (off + k) ++ vs ++ cells.toList.drop (off + k + vs.length) := by
  induction vs with
  | nil => intro off k cells h; simp
  | cons v vs ih =>
    intro off k cells h
    simp only [List.length_cons] at h
    simp only [List.zipIdx_cons, List.foldl_cons]
    rw [ih off (k + 1) _ (by simp; omega)]
    apply List.ext_getElem?
    intro j
    have hlen : off + (k + 1) + vs.length ≤ (cells.setIfInBounds (off + k) v).toList.length := by simp; omega
    rw [seg_get _ _ _ hlen, seg_get _ _ _ (by simp; omega)]
    simp only [List.length_cons]
    by_cases h1 : off + (k + 1) ≤ j ∧ j < off + (k + 1) + vs.length
    · rw [if_pos h1, if_pos (by omega)]
      have : j - (off + k) = (j - (off + (k + 1))) + 1 := by omega
      rw [this]; simp
    · rw [if_neg h1]
      by_cases h2 : j = off + k
      · subst h2
        rw [if_pos (by omega)]
        have : off + k < cells.size := by omega
        simp [this]
      · rw [if_neg (by omega)]
        simp [List.getElem?_set_ne (Ne.symm h2)]

theorem RepL.put {zero new : Row} {zs vs : List Value} (hz : RepL c zero zs) (hn : RepL c new vs) (off : Nat) (h : off + new.length ≤ zero.length) :
    RepL c (putRow zero off new) (zs.take off ++ vs ++ zs.drop (off + vs.length)) := by
  unfold putRow
  rw [← hn.1]
  exact ((hz.take off).append hn).append (hz.drop _)

theorem fill_one (place : Nat → Option (Nat × Nat)) (i off sz : Nat) (v : Value) (cells : Array Value) (rest : List (Nat × Value)) (hp : place i = some (off, sz)) (hl : v.cells.size = sz) (hle : off + sz ≤ cells.size) :
    ∃ cells', Instr.fill place cells ((i, v) :: rest) = Instr.fill place cells' rest ∧ cells'.toList = cells.toList.take off ++ v.cells.toList ++ cells.toList.drop (off + v.cells.toList.length) := by
  refine ⟨v.cells.zipIdx.foldl (fun cs (x, j) => cs.setIfInBounds (off + j) x) cells, ?_, ?_⟩
  · have h1 : ¬ (v.cells.size ≠ sz) := by simp [hl]
    have h2 : ¬ (off + v.cells.size > cells.size) := by omega
    simp [Instr.fill, hp, hl, h2]
    omega
  · have := fold_set v.cells.toList off 0 cells (by simp; omega)
    simp only [Nat.add_zero] at this
    rw [← this]
    congr 1
    rw [← Array.foldl_toList]
    simp [Array.toList_zipIdx]

theorem fill_rep {place : Nat → Option (Nat × Nat)} (he : RepE c e act.tmps) : ∀ {parts : List (Nat × Operand)} {ps : List (Nat × Nat × Opd)} {zero row : Row} {cells : Array Value},
    parts1 place parts = some ps → setParts zero e ps = some row → RepL c zero cells.toList → (∀ x ∈ cells.toList, x.oneCell' = true) →
    ∃ cells', Instr.fill place cells (parts.map fun (i, x) => (i, act.eval x)) = some cells' ∧ RepL c row cells'.toList ∧ ∀ x ∈ cells'.toList, x.oneCell' = true
  | [], ps, zero, row, cells, hp, hs, hr, h1 => by
    cases hp; cases hs
    exact ⟨cells, rfl, hr, h1⟩
  | (i, x) :: parts, ps, zero, row, cells, hp, hs, hr, h1 => by
    simp only [parts1, Option.bind_eq_some_iff] at hp
    obtain ⟨⟨off, sz⟩, hpl, x1, hx, ps', hps, h⟩ := hp
    cases h0 : Nat.blt 0 sz with
    | false => simp [h0] at h
    | true =>
      simp [h0] at h
      subst h
      have h0 : 0 < sz := Nat.le_of_ble_eq_true h0
      simp only [setParts, Option.bind_eq_some_iff] at hs
      obtain ⟨a, ha, hs⟩ := hs
      cases hc : (Nat.beq (rowOf a).length sz && Nat.ble (off + sz) zero.length) with
      | false => simp [hc] at hs
      | true =>
        simp only [hc, cond_true] at hs
        simp only [Bool.and_eq_true] at hc
        have hl := beq_len hc.1
        have hle := Nat.le_of_ble_eq_true hc.2
        have ra := opd_rep (act := act) hx ha he
        obtain ⟨rr, r1⟩ := row_rep ra (hl ▸ h0)
        have hlv : (act.eval x).cells.size = sz := by have := rr.1; simp at this; omega
        have hzl : zero.length = cells.size := by have := hr.1; simpa using this
        obtain ⟨cells', hf, hcl⟩ := fill_one place i off sz (act.eval x) cells (parts.map fun (i, x) => (i, act.eval x)) hpl hlv (by omega)
        simp only [List.map_cons]
        rw [hf]
        refine fill_rep he hps hs ?_ ?_
        · rw [hcl]; exact hr.put rr off (by omega)
        · rw [hcl]
          intro y hy
          simp only [List.mem_append] at hy
          rcases hy with (hy | hy) | hy
          · exact h1 y (List.mem_of_mem_take hy)
          · exact r1 y hy
          · exact h1 y (List.mem_of_mem_drop hy)

theorem zero_cells {t : TypeId} {z : AV} (hz : zeroOf P t = some z) (h0 : 0 < (rowOf z).length) :
    ∃ i zv, P.info? t = some i ∧ i.zero = some zv ∧ RepL c (rowOf z) zv.cells.toList ∧ ∀ x ∈ zv.cells.toList, x.oneCell' = true := by
  simp only [zeroOf, Option.bind_eq_some_iff] at hz
  obtain ⟨i, hi, zv, hzv, h⟩ := hz
  obtain ⟨h1, h2⟩ := row_rep (c := c) (.imm (ofZero_rep h)) h0
  exact ⟨i, zv, hi, hzv, h1, h2⟩

theorem RepL.agg {cs : List AV} {vs : Array Value} (h : RepL c cs vs.toList) (h1 : ∀ x ∈ vs.toList, x.oneCell' = true) : Rep c (.agg cs) (.agg vs) := by
  obtain ⟨e, h⟩ := h
  refine .agg cs vs (by simpa using e) (fun i hi => ?_) (fun i hi => by simpa using h i hi)
  have := h1 (vs.toList[i]'(by simpa using hi)) (List.getElem_mem _)
  simpa using this

theorem sim_build {t : TypeId} {parts : Array (Nat × Operand)} {z : AV} {ps : List (Nat × Nat × Opd)} {a : AV} {H' : Heap} {call : CallT} {place : Nat → Option (Nat × Nat)} (hz : zeroOf P t = some z)
    (hp : parts1 place parts.toList = some ps) (hv : ev1 call e H (.build (rowOf z) ps) = some (a, H')) (g : Good c B H) (he : RepE c e act.tmps) (o : Oper)
    (ho : o.op = .build t parts) (h0 : 0 < (rowOf z).length) (hpl : ∀ i zv, P.info? t = some i → i.zero = some zv → ∀ l cells, Instr.fill place zv.cells l = some cells → P.built t l = some cells) :
    RunOk c B H a H' ((execOp act.eval o).run P c.w) := by
  simp only [ev1, Option.bind_eq_some_iff] at hv
  obtain ⟨row, hrow, h⟩ := hv
  cases h
  obtain ⟨i, zv, hi, hzv, hr, h1⟩ := zero_cells (c := c) hz h0
  obtain ⟨cells, hf, hr', h1'⟩ := fill_rep (act := act) he hp hrow hr h1
  have hb := hpl i zv hi hzv _ _ hf
  refine .same g (v := .agg cells) ?_ (hr'.agg h1')
  have := run_build (P := P) c.w t (parts.map fun (i, x) => (i, act.eval x)) cells (by simpa using hb)
  simp only [execOp, ho, Sem.run_bind, this, Result.andThen_ok]
  rfl

/-! ### Comparing -/
theorem eqInts_cons {x : AV} {y : AV} {l m : List AV} {r : Bool} (h : eqInts (x :: l) (y :: m) = some r) : ∃ k p q r', x = .int k p ∧ y = .int k q ∧ eqInts l m = some r' ∧ r = (p == q && r') := by
  cases x <;> cases y <;> simp only [eqInts] at h <;> first | (cases h; done) | skip
  split at h
  · rename_i hk
    subst hk
    simp only [Option.bind_eq_some_iff] at h
    obtain ⟨r', h1, h2⟩ := h
    cases h2
    exact ⟨_, _, _, r', rfl, rfl, h1, rfl⟩
  · cases h

theorem eqInts_values : ∀ {cs ds : List AV} {r : Bool} {xs ys : List Value}, eqInts cs ds = some r → RepL c cs xs → RepL c ds ys →
    xs.length = ys.length ∧ (r = true ↔ xs = ys) ∧ ∀ i (hi : i < xs.length), ∃ k p q, xs[i]? = some (.int k p) ∧ ys[i]? = some (.int k q)
  | [], [], r, xs, ys, h, hx, hy => by
    have e1 := hx.1
    have e2 := hy.1
    simp at e1 e2
    have : xs = [] := List.eq_nil_of_length_eq_zero e1.symm
    have h2 : ys = [] := List.eq_nil_of_length_eq_zero e2.symm
    subst this h2
    cases h
    simp
  | [], d :: ds, r, xs, ys, h, hx, hy => by simp [eqInts] at h
  | c' :: cs, [], r, xs, ys, h, hx, hy => by cases c' <;> simp [eqInts] at h
  | a :: cs, b :: ds, r, xs, ys, h, hx, hy => by
    obtain ⟨k, p, q, r', rfl, rfl, h1, rfl⟩ := eqInts_cons h
    match xs, ys, hx, hy with
    | x :: xs, y :: ys, hx, hy =>
      obtain ⟨e1, e2, e3⟩ := eqInts_values h1 hx.tail hy.tail
      have hx' := hx.head.int_eq
      have hy' := hy.head.int_eq
      subst hx' hy'
      refine ⟨by simp [e1], ?_, fun i hi => ?_⟩
      · simp [e2]
      · cases i with
        | zero => exact ⟨k, p, q, rfl, rfl⟩
        | succ i => obtain ⟨k', p', q', h1, h2⟩ := e3 i (by simpa using hi); exact ⟨k', p', q', by simpa using h1, by simpa using h2⟩
    | [], _, hx, _ => exact absurd hx.1 (by simp)
    | _ :: _, [], _, hy => exact absurd hy.1 (by simp)

theorem part_int {t : TypeId} {k : IntKind} (ht : P.underlying t = some (.int k)) (xs : Array Value) (i : Nat) (v : Value) (h : xs[i]? = some v) (w : World) : (part t xs i).run P w = .ok v w := by
  have : aggOf P t = some false := by simp [aggOf, ht]
  simp [part, agg_run this, h]

theorem array_eq {t el : TypeId} {k : IntKind} {n : Nat} (ht : P.underlying t = some (.array n el)) (hel : P.underlying el = some (.int k)) (hs : sizeOf1 P el = some 1)
    {xs ys : Array Value} {r : Bool} (hx : xs.size = n) (hy : ys.size = n) (hr : r = true ↔ xs.toList = ys.toList) (hi : ∀ i, i < n → ∃ k p q, xs[i]? = some (.int k p) ∧ ys[i]? = some (.int k q)) (d : Nat) (w : World) :
    (Op.equalIn (d + 1 + 1) t (.agg xs) (.agg ys)).run P w = .ok r w := by
  have hp : ∀ (zs : Array Value) (i : Nat) (v : Value), zs[i]? = some v → ∀ w, (part el zs i).run P w = .ok v w := fun zs i v h w => part_int hel _ _ _ h w
  have hI : ∀ (k' : IntKind) (p q : Int) (w : World), (Op.equalIn (d + 1) el (.int k' p) (.int k' q)).run P w = .ok (p == q) w := fun k' p q w => equalIn_int (P := P) hel k' p q d w
  generalize d + 1 = D at hI ⊢
  simp only [Op.equalIn, Sem.run_bind, run_underlying ht, Result.andThen_ok, size_run hs]
  simp only [Std.Legacy.Range.forIn_eq_forIn_range', Std.Legacy.Range.size, Nat.sub_zero, Nat.add_sub_cancel, Nat.div_one, Nat.mul_one]
  have key : ∀ (m s : Nat), s + m = n → (∀ i, i < s → xs[i]? = ys[i]?) →
      (forIn (List.range' s m) ((none, ()) : Option Bool × Unit) fun i _ => (do
        let x ← part el xs i
        let y ← part el ys i
        let z ← Op.equalIn D el x y
        if (!z) = true then pure (ForInStep.done (some false, ())) else pure (ForInStep.yield (none, ())) : Sem (ForInStep (Option Bool × Unit)))).run P w = .ok (if r then (none, ()) else (some false, ())) w := by
    intro m
    induction m with
    | zero =>
      intro s hsn heq
      have hr' : r = true := hr.2 (by
        apply List.ext_getElem?
        intro i
        rcases Nat.lt_or_ge i s with h | h
        · simpa using heq i h
        · rw [List.getElem?_eq_none (by simp; omega), List.getElem?_eq_none (by simp; omega)])
      simp [hr']
    | succ m ih =>
      intro s hsn heq
      obtain ⟨k', p, q, a1, a2⟩ := hi s (by omega)
      simp only [List.range'_succ, List.forIn_cons, Sem.run_bind, hp xs s _ a1, hp ys s _ a2, hI, Result.andThen_ok]
      by_cases hpq : p = q
      · subst hpq
        simp only [beq_self_eq_true, Bool.not_true, Bool.false_eq_true, if_false, Sem.run_pure, Result.andThen_ok]
        exact ih (s + 1) (by omega) (fun i hi' => by
          rcases Nat.lt_or_ge i s with h | h
          · exact heq i h
          · have : i = s := by omega
            subst this; rw [a1, a2])
      · have hb : (p == q) = false := by simpa using hpq
        have hr' : r = false := by
          cases r with
          | false => rfl
          | true =>
            have := hr.1 rfl
            have e : xs[s]? = ys[s]? := by
              have := congrArg (·[s]?) this
              simpa using this
            rw [a1, a2] at e
            simp at e
            exact absurd e hpq
        simp [hb, hr']
  rw [key n 0 (by omega) (fun i h => by omega)]
  cases r <;> rfl

theorem struct_eq {t : TypeId} {fs : Array Field} (ht : P.underlying t = some (.struct fs)) (hst : P.stoodInHeld t = false)
    (hf : ∀ (i : Nat) (f : Field), fs[i]? = some f → f.offset = i ∧ f.name ≠ "_" ∧ ∃ k, P.underlying f.type = some (.int k))
    {xs ys : Array Value} {r : Bool} (hx : xs.size = fs.size) (hy : ys.size = fs.size) (hr : r = true ↔ xs.toList = ys.toList) (hi : ∀ (i : Nat), i < fs.size → ∃ k p q, xs[i]? = some (.int k p) ∧ ys[i]? = some (.int k q)) (d : Nat) (w : World) :
    (Op.equalIn (d + 1 + 1) t (.agg xs) (.agg ys)).run P w = .ok r w := by
  have hfo : P.fieldsOf t = fs := by simp [Program.fieldsOf, ht]
  rw [run_equalIn_struct w (d + 1) t xs ys (by rw [hfo]; exact ht) hst, hfo]
  have key : ∀ (l : List Field) (s : Nat), (∀ i, l[i]? = fs[s + i]?) → s + l.length = fs.size → (∀ i, i < s → xs[i]? = ys[i]?) → (Op.eqFields (d + 1) xs ys l).run P w = .ok r w := by
    intro l
    induction l with
    | nil =>
      intro s _ hsn heq
      have hr' : r = true := hr.2 (by
        apply List.ext_getElem?
        intro i
        rcases Nat.lt_or_ge i s with h | h
        · simpa using heq i h
        · simp at hsn
          rw [List.getElem?_eq_none (by simp; omega), List.getElem?_eq_none (by simp; omega)])
      simp [Op.eqFields, hr']
    | cons f l ih =>
      intro s hl hsn heq
      have h0 := hl 0
      simp at h0 hsn
      obtain ⟨ho, hn, k0, hk0⟩ := hf s f h0.symm
      obtain ⟨k', p, q, a1, a2⟩ := hi s (by omega)
      simp only [Op.eqFields, if_pos hn, Sem.run_bind, ho, part_int hk0 xs s _ a1, part_int hk0 ys s _ a2, Result.andThen_ok, equalIn_int hk0]
      by_cases hpq : p = q
      · subst hpq
        simp only [beq_self_eq_true, Bool.not_true, Bool.false_eq_true, if_false]
        exact ih (s + 1) (fun i => by have := hl (i + 1); simp at this; rw [this]; congr 1; omega) (by omega) (fun i hi' => by
          rcases Nat.lt_or_ge i s with h | h
          · exact heq i h
          · have : i = s := by omega
            subst this; rw [a1, a2])
      · have hb : (p == q) = false := by simpa using hpq
        have hr' : r = false := by
          cases r with
          | false => rfl
          | true =>
            have := hr.1 rfl
            have e : xs[s]? = ys[s]? := by
              have := congrArg (·[s]?) this
              simpa using this
            rw [a1, a2] at e
            simp at e
            exact absurd e hpq
        simp [hb, hr']
  exact key fs.toList 0 (fun i => by simp) (by simp) (fun i h => by omega)

theorem bif_some {α : Type} {b : Bool} {x y : α} (h : (bif b then some x else none) = some y) : b = true ∧ x = y := by
  cases b
  · cases h
  · cases h; exact ⟨rfl, rfl⟩

theorem sim_eqs {neg : Bool} {t u : TypeId} {n : Nat} {x y : Operand} {x1 y1 : Opd} {a : AV} {H' : Heap} {call : CallT} (hx : opd1 x = some x1) (hy : opd1 y = some y1)
    (hv : ev1 call e H (.eqs neg n x1 y1) = some (a, H')) (g : Good c B H) (he : RepE c e act.tmps) (o : Oper)
    (ho : o.op = .binOp (if neg then .neq else .eql) t x y u) (hn : intsOf P t = some n) (hgt : P.eqGuardType P.depth t = false) : RunOk c B H a H' ((execOp act.eval o).run P c.w) := by
  simp only [ev1, Option.bind_eq_some_iff] at hv
  obtain ⟨p, hp, q, hq, hv⟩ := hv
  have rp := opd_rep (act := act) hx hp he
  have rq := opd_rep (act := act) hy hq he
  split at hv
  · rename_i cs ds
    cases hc : (Nat.beq cs.length n && Nat.beq ds.length n) with
    | false => simp [hc] at hv
    | true =>
      simp only [hc, cond_true, Option.bind_eq_some_iff] at hv
      obtain ⟨r, hr, h⟩ := hv
      cases h
      simp only [Bool.and_eq_true] at hc
      have l1 := beq_len hc.1
      have l2 := beq_len hc.2
      obtain ⟨xs, hxl, hxv, _, hxr⟩ := rp.agg_eq
      obtain ⟨ys, hyl, hyv, _, hyr⟩ := rq.agg_eq
      obtain ⟨e1, e2, e3⟩ := eqInts_values hr (repL_of_array hxl hxr) (repL_of_array hyl hyr)
      have hi : ∀ i, i < n → ∃ k p q, xs[i]? = some (.int k p) ∧ ys[i]? = some (.int k q) := fun i hi => by
        obtain ⟨k, p, q, h1, h2⟩ := e3 i (by simp; omega)
        exact ⟨k, p, q, by simpa using h1, by simpa using h2⟩
      have heq : (Op.equalIn 10000 t (.agg xs) (.agg ys)).run P c.w = .ok r c.w := by
        unfold intsOf at hn
        split at hn
        · rename_i m el hu
          split at hn
          · rename_i k hel hsz
            cases hm : Nat.ble m 4 with
            | false => simp [hm] at hn
            | true =>
              simp [hm] at hn
              subst hn
              exact array_eq hu hel hsz (by omega) (by omega) e2 hi 9998 c.w
          · cases hn
        · rename_i fs hu
          obtain ⟨hm, rfl⟩ := bif_some hn
          obtain ⟨hm1, hm2⟩ := Bool.and_eq_true_iff.1 hm
          obtain ⟨_, hm3⟩ := Bool.and_eq_true_iff.1 hm1
          rw [List.all_eq_true] at hm2
          refine struct_eq hu (by simpa using hm3) (fun i f hf => ?_) (by omega) (by omega) e2 hi 9998 c.w
          have hlt : i < fs.size := (Array.getElem?_eq_some_iff.1 hf).1
          have := hm2 i (List.mem_range.2 hlt)
          rw [hf] at this
          simp only [Bool.and_eq_true, bne_iff_ne, ne_eq] at this
          refine ⟨beq_len this.1.1, this.1.2, ?_⟩
          have h3 := this.2
          split at h3
          · rename_i k hk; exact ⟨k, hk⟩
          · cases h3
        · cases hn
      refine .same g ?_ (.imm (.bool _))
      simp only [execOp, ho, hxv, hyv, Sem.run_bind, run_eqGuard_agg _ _ _ _ _ _ _ hgt, Result.andThen_ok]
      cases neg
      · simp only [Bool.false_eq_true, if_false, run_eql_struct, heq, Result.andThen_ok, Bool.false_xor]
        rfl
      · simp only [if_true, run_neq_struct, heq, Result.andThen_ok, Bool.true_xor]
        rfl
  · cases hv

end Go.Abs
