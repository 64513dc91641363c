/- Every operation that the interpreter knows. Conditions: those of each lemma. -/
import Derived.Test.YtjjcfcbhelecgaaGreatAbsCall4
set_option linter.unusedVariables false
set_option linter.unusedSimpArgs false
namespace Go.Abs
variable {P : Program} {c : Cx} {B : Nat} {H : Heap} {e : Env} {act : Act}

/-- An operation of the machine goes as the interpreter's. -/
def OpOk (P : Program) (o : Oper) (act : Act) (c : Cx) (B : Nat) (H : Heap) (a : AV) (H' : Heap) : Prop :=
  RunOk c B H a H' ((execOp act.eval o).run P c.w) ∨
  ∃ f args, (execOp act.eval o).run P c.w = .ok (.enter f args) c.w ∧ Calls P f args c.w (Behind c B H a H')

theorem OpOk.wp {o : Oper} {a : AV} {H' : Heap} {K : Act → World → Prop} {Q : Exit → Act → World → Prop} (h : OpOk P o act c B H a H')
    (hK : ∀ (c' : Cx) (v : Value), Good c' B H' → Rep c' a v → Nxt c c' H H' → K (act.put o.dst v) c'.w) : o.wp P act c.w K Q ∨ (o.asks P act c.w ∧ LetsOut Q) := by
  rcases h with ⟨c', v, hr, g', r', n'⟩ | ⟨f, args, hr, hc⟩
  · left
    unfold Oper.wp
    rcases hr with hr | ⟨hr, rfl⟩
    · rw [hr]; exact hK c' v g' r' n'
    · rw [hr]; exact hK c' undef g' r' n'
  · left
    unfold Oper.wp
    rw [hr, Oper.upon_enter]
    refine Calls.mono hc fun en w' hen => ?_
    cases en with
    | returned v =>
      obtain ⟨c', rfl, g', r', n'⟩ := hen
      exact hK c' v g' r' n'
    | panicked ch => exact hen.elim
    | outgrown => exact hen.elim

/-! ### Calls -/
theorem sim_call {f : FuncId} {xs : Array Operand} {xs1 : List Opd} {m : Mode} {a : AV} {H' : Heap} {call : CallT} (hS : SimAll P call) (hx : opds1 xs.toList = some xs1)
    (hv : ev1 call e H (.call f xs1 m) = some (a, H')) (g : Good c B H) (hB : H'.length ≤ B) (he : RepE c e act.tmps) (o : Oper) (ts : Array TypeId)
    (ho : o.op = .call { callee := .value (.func f), args := xs, argTypes := ts }) : OpOk P o act c B H a H' := by
  simp only [ev1, Option.bind_eq_some_iff] at hv
  obtain ⟨as, has, hv⟩ := hv
  have hr := opds_rep (act := act) he hx has
  obtain ⟨hent, hc⟩ := sim_doCall (hS f) hv g hB hr
  refine .inr ⟨f, _, ?_, hc⟩
  have := hent (xs.map act.eval) c.w
  have e1 : (xs.toList.map act.eval).toArray = xs.map act.eval := by
    apply Array.ext'
    simp
  rw [e1]
  simp [execOp, ho, resolve, Deferred.ofValue, Act.eval, invoke, this]

theorem sim_dyn {m : Mode} {x : Operand} {x1 : Opd} {xs : Array Operand} {xs1 : List Opd} {a : AV} {H' : Heap} {call : CallT} (hS : SimAll P call) (hf : opd1 x = some x1) (hx : opds1 xs.toList = some xs1)
    (hv : ev1 call e H (.dyn x1 xs1 m) = some (a, H')) (g : Good c B H) (hB : H'.length ≤ B) (he : RepE c e act.tmps) (o : Oper) (ts : Array TypeId)
    (ho : o.op = .call { callee := .value x, args := xs, argTypes := ts }) : OpOk P o act c B H a H' := by
  simp only [ev1, Option.bind_eq_some_iff] at hv
  obtain ⟨fa, hfa, as, has, hv⟩ := hv
  have hr := opds_rep (act := act) he hx has
  have hfr := opd_rep (act := act) hf hfa he
  split at hv
  · rename_i f first captured
    obtain ⟨X, Y, hfv, hX, hY⟩ := hfr.func_eq
    obtain ⟨hent, hc⟩ := sim_doCall (hS f) hv g hB ((hX.append hr).append hY)
    refine .inr ⟨f, _, ?_, hc⟩
    have := hent (X ++ xs.map act.eval ++ Y) c.w
    simp only [execOp, ho, resolve, hfv, Deferred.ofValue, Sem.run_bind, Sem.run_pure, Result.andThen_ok, invoke, this]
    congr 2
    apply Array.ext'
    simp
  · cases hv

/-! ### Methods -/
theorem methodsOf_find (name : String) : ∀ (l : List TypeInfo) (t0 t : Nat) (f : FuncId) (r : Recv), findType t (methodsOf P name t0 l) = some (f, r) →
    ∃ i m, l[t - t0]? = some i ∧ t0 ≤ t ∧ i.methods.find? (·.name == name) = some m ∧ m.path.isEmpty = true ∧
      ((m.func = some (f, true) ∧ r = .plain ∧ ∃ el, P.underlying t = some (.pointer el)) ∨
       (m.func = some (f, false) ∧ ((r = .plain ∧ ∃ d, P.underlying t = some d ∧ (∀ el, d ≠ .pointer el) ∧ ∀ ms, d ≠ .interface ms) ∨
          ∃ el ag s, P.underlying t = some (.pointer el) ∧ aggOf P el = some ag ∧ sizeOf1 P el = some s ∧ (ag = true ∨ s = 1) ∧ r = .deref ag s)))
  | [], t0, t, f, r, h => by simp [methodsOf, findType] at h
  | i :: l, t0, t, f, r, h => by
    have rest : findType t (methodsOf P name (t0 + 1) l) = some (f, r) → ∃ i' m, (i :: l)[t - t0]? = some i' ∧ t0 ≤ t ∧ i'.methods.find? (·.name == name) = some m ∧ m.path.isEmpty = true ∧
      ((m.func = some (f, true) ∧ r = .plain ∧ ∃ el, P.underlying t = some (.pointer el)) ∨
       (m.func = some (f, false) ∧ ((r = .plain ∧ ∃ d, P.underlying t = some d ∧ (∀ el, d ≠ .pointer el) ∧ ∀ ms, d ≠ .interface ms) ∨
          ∃ el ag s, P.underlying t = some (.pointer el) ∧ aggOf P el = some ag ∧ sizeOf1 P el = some s ∧ (ag = true ∨ s = 1) ∧ r = .deref ag s))) := fun h => by
      obtain ⟨i', m, h1, h2, h3⟩ := methodsOf_find name l (t0 + 1) t f r h
      refine ⟨i', m, ?_, by omega, h3⟩
      have e : t - t0 = (t - (t0 + 1)) + 1 := by omega
      rw [e]
      simpa using h1
    have here : ∀ {f' : FuncId} {r' : Recv}, findType t ((t0, f', r') :: methodsOf P name (t0 + 1) l) = some (f, r) → (t = t0 ∧ f' = f ∧ r' = r) ∨ findType t (methodsOf P name (t0 + 1) l) = some (f, r) := fun {f' r'} h => by
      simp only [findType] at h
      cases hb : Nat.beq t0 t with
      | true =>
        simp only [hb, cond_true, Option.some.injEq, Prod.mk.injEq] at h
        exact .inl ⟨(Nat.eq_of_beq_eq_true hb).symm, h.1, h.2⟩
      | false => simp only [hb, cond_false] at h; exact .inr h
    unfold methodsOf at h
    split at h
    · rename_i m hm
      cases hp : m.path.isEmpty with
      | false => simp only [hp, cond_false] at h; exact rest h
      | true =>
        simp only [hp, cond_true] at h
        split at h
        · rename_i f' hf
          split at h
          · rename_i el hu
            rcases here h with ⟨rfl, rfl, rfl⟩ | h
            · exact ⟨i, m, by simp, Nat.le_refl _, hm, hp, .inl ⟨hf, rfl, el, hu⟩⟩
            · exact rest h
          · exact rest h
        · rename_i f' hf
          split at h
          · rename_i el hu
            split at h
            · rename_i ag s ha hs
              cases hq : (ag || Nat.beq s 1) with
              | false => simp only [hq, cond_false] at h; exact rest h
              | true =>
                simp only [hq, cond_true] at h
                rcases here h with ⟨rfl, rfl, rfl⟩ | h
                · refine ⟨i, m, by simp, Nat.le_refl _, hm, hp, .inr ⟨hf, .inr ⟨el, ag, s, hu, ha, hs, ?_, rfl⟩⟩⟩
                  simp only [Bool.or_eq_true] at hq
                  rcases hq with h | h
                  · exact .inl h
                  · exact .inr (Nat.eq_of_beq_eq_true h)
                · exact rest h
            · exact rest h
          · exact rest h
          · rename_i d hd1 hd2 hu
            rcases here h with ⟨rfl, rfl, rfl⟩ | h
            · exact ⟨i, m, by simp, Nat.le_refl _, hm, hp, .inr ⟨hf, .inl ⟨rfl, d, hu, fun el he => hd1 el he, fun ms he => hd2 ms he⟩⟩⟩
            · exact rest h
          · exact rest h
        · exact rest h
    · exact rest h

theorem follow_nil (t : TypeId) (x : Place) (w : World) : (follow [] t x).run P w = .ok (t, x) w := rfl

theorem sim_invoke {md : Mode} {x : Operand} {x1 : Opd} {name : String} {xs : Array Operand} {xs1 : List Opd} {a : AV} {H' : Heap} {call : CallT} (hS : SimAll P call) (hf : opd1 x = some x1) (hx : opds1 xs.toList = some xs1)
    (hv : ev1 call e H (.invoke x1 (methodsOf P name 0 P.types.toList) xs1 md) = some (a, H')) (g : Good c B H) (hB : H'.length ≤ B) (he : RepE c e act.tmps) (o : Oper) (ts : Array TypeId)
    (ho : o.op = .call { callee := .invoke x name, args := xs, argTypes := ts }) : OpOk P o act c B H a H' := by
  simp only [ev1, Option.bind_eq_some_iff] at hv
  obtain ⟨ra, hra, as, has, hv⟩ := hv
  have hr := opds_rep (act := act) he hx has
  have hrr := opd_rep (act := act) hf hra he
  split at hv
  · rename_i t v
    simp only [Option.bind_eq_some_iff] at hv
    obtain ⟨⟨f, rc⟩, hft, hv⟩ := hv
    obtain ⟨u, hxv, hru⟩ := hrr.iface_eq
    obtain ⟨i, m, hi, _, hm, hp, hk⟩ := methodsOf_find name P.types.toList 0 t f rc hft
    have hi' : P.info? t = some i := by
      simp only [Nat.sub_zero, Array.getElem?_toList] at hi
      have hlt : t < P.types.size := (Array.getElem?_eq_some_iff.1 hi).1
      simp only [Tables.info?, hlt, if_true]
      exact hi
    have hpn : m.path.toList = [] := by simpa using hp
    obtain ⟨n, hn⟩ : ∃ n, P.types.size + Made.depth = n + 1 := ⟨P.types.size + 99, rfl⟩
    have hti : (typeInfo t).run P c.w = .ok i c.w := by simp [typeInfo, hi']
    -- what the method row leads to
    have fin : ∀ (recv : Value) (ra' : AV), (execOp act.eval o).run P c.w = (callFunc f (#[recv] ++ xs.map act.eval)).run P c.w → Rep c ra' recv → doCall call f (ra' :: as) md H = some (a, H') → OpOk P o act c B H a H' := fun recv ra' hrun hrep hd => by
      obtain ⟨hent, hc⟩ := sim_doCall (hS f) hd g hB (.cons hrep hr)
      refine .inr ⟨f, _, ?_, hc⟩
      rw [hrun, hent]
      congr 2
      apply Array.ext'
      simp
    have hexec : ∀ recv, (method (n + 1) t u name).run P c.w = .ok (f, recv) c.w → (execOp act.eval o).run P c.w = (callFunc f (#[recv] ++ xs.map act.eval)).run P c.w := fun recv hmr => by
      have hext : (#[Value.iface t u] ++ xs.map act.eval).extract 1 (#[Value.iface t u] ++ xs.map act.eval).size = xs.map act.eval := by
        apply Array.ext'
        simp
        rw [List.take_of_length_le (by simp)]
      have h0 : (#[Value.iface t u] ++ xs.map act.eval)[0]? = some (.iface t u) := by
        rw [Array.getElem?_append_left (by simp)]
        rfl
      have hprog : ∀ w, (program : Sem Program).run P w = .ok P w := fun _ => rfl
      simp only [execOp, ho, resolve, hxv, invoke, Sem.run_bind, Sem.run_pure, Result.andThen_ok, h0, hext, callMethod, hprog, hn, hmr]
    rcases hk with ⟨hfn, rfl, el, hu⟩ | ⟨hfn, ⟨rfl, d, hu, hd1, hd2⟩ | ⟨el, ag, s, hu, hag, hs, hks, rfl⟩⟩
    · refine fin u v (hexec u ?_) hru hv
      simp [method, hti, hm, hpn, follow_nil, hfn, receiverAt, run_underlying hu, Place.get]
    · refine fin u v (hexec u ?_) hru hv
      simp only [method, Sem.run_bind, hti, Result.andThen_ok, hm, hpn, follow_nil, hfn, receiverAt, run_underlying hu, Place.get]
      cases d <;> first | (exact absurd rfl (hd1 _)) | simp
    · simp only [Option.bind_eq_some_iff] at hv
      obtain ⟨row, hrow, y, hy, hv⟩ := hv
      obtain ⟨ad, vs, hpv, hl, hat⟩ := loadRow_at g hru hrow
      obtain ⟨v', h1, h2⟩ := loadVar_run hag hs hks hl hat hy
      subst hpv
      refine fin v' y (hexec v' ?_) h2 hv
      have hw : ∀ s1 s2, (Builtin.ssaWrapNilChk_ #[t] t #[.pointer (some ad), strVal s1, strVal s2]).run P c.w = .ok (.pointer (some ad)) c.w := fun s1 s2 => rfl
      have hpe : m.path = #[] := by simpa using hp
      simp [method, hti, hm, hpn, follow_nil, hfn, receiverAt, run_underlying hu, Place.get, hpe, hw, asAddr, h1]
  · cases hv

/-! ### All of them -/
theorem blt_pos {s : Nat} (h : Nat.blt 0 s = true) : 0 < s := Nat.le_of_ble_eq_true h

theorem sim_compCall {o : Oper} {m : Mode} {op1 : Op1} {a : AV} {H' : Heap} {call : CallT} {k : Call} (hS : SimAll P call) (ho : o.op = .call k) (hc : compCall P m o.type k = some op1) (hv : ev1 call e H op1 = some (a, H'))
    (g : Good c B H) (hB : H'.length ≤ B) (he : RepE c e act.tmps) : OpOk P o act c B H a H' := by
  obtain ⟨callee, args, argTypes⟩ := k
  simp only [compCall, Option.bind_eq_some_iff] at hc
  obtain ⟨as, has, hc⟩ := hc
  split at hc
  · rename_i f
    obtain ⟨_, rfl⟩ := bif_some hc
    exact sim_call hS has hv g hB he o argTypes ho
  · rename_i x hnf
    simp only [Option.bind_eq_some_iff, Option.some.injEq] at hc
    obtain ⟨x1, hx1, rfl⟩ := hc
    exact sim_dyn hS hx1 has hv g hB he o argTypes ho
  · rename_i r name
    simp only [Option.bind_eq_some_iff, Option.some.injEq] at hc
    obtain ⟨r1, hr1, rfl⟩ := hc
    exact sim_invoke hS hr1 has hv g hB he o argTypes ho
  · rename_i b
    have hargs : ∀ {xs : List Operand} {ys : List Opd}, opds1 xs = some ys → ∀ y, ys = [y] → ∃ x, xs = [x] ∧ opd1 x = some y := fun {xs ys} h y hy => by
      subst hy
      match xs, h with
      | [], h => simp [opds1] at h
      | [x], h =>
        simp only [opds1, Option.bind_eq_some_iff, Option.some.injEq] at h
        obtain ⟨a, ha, _, rfl, e⟩ := h
        cases e
        exact ⟨x, rfl, ha⟩
      | x :: y :: l, h =>
        simp only [opds1, Option.bind_eq_some_iff, Option.some.injEq] at h
        obtain ⟨a, ha, _, ⟨b, hb, _, _, rfl⟩, e⟩ := h
        cases e
    have hargs2 : ∀ {xs : List Operand} {ys : List Opd}, opds1 xs = some ys → ∀ y z, ys = [y, z] → ∃ x x', xs = [x, x'] ∧ opd1 x = some y ∧ opd1 x' = some z := fun {xs ys} h y z hy => by
      subst hy
      match xs, h with
      | [], h => simp [opds1] at h
      | [x], h =>
        simp only [opds1, Option.bind_eq_some_iff, Option.some.injEq] at h
        obtain ⟨a, ha, _, rfl, e⟩ := h
        cases e
      | [x, y], h =>
        simp only [opds1, Option.bind_eq_some_iff, Option.some.injEq] at h
        obtain ⟨a, ha, _, ⟨b, hb, _, rfl, rfl⟩, e⟩ := h
        cases e
        exact ⟨x, y, rfl, ha, hb⟩
      | x :: y :: u :: l, h =>
        simp only [opds1, Option.bind_eq_some_iff, Option.some.injEq] at h
        obtain ⟨a, ha, _, ⟨b, hb, _, ⟨d, hd, _, _, rfl⟩, rfl⟩, e⟩ := h
        cases e
    have arr1 : ∀ {α : Type} {xs : Array α} {x : α}, xs.toList = [x] → xs = #[x] := fun h => by
      apply Array.ext'
      simpa using h
    have arr2 : ∀ {α : Type} {xs : Array α} {x y : α}, xs.toList = [x, y] → xs = #[x, y] := fun h => by
      apply Array.ext'
      simpa using h
    split at hc
    · rename_i x t hts
      obtain ⟨x0, hx0, hx1⟩ := hargs has x rfl
      rw [arr1 hx0, arr1 hts] at ho
      split at hc
      · rename_i el hu
        cases hc
        exact .inl (sim_len hx1 hv g he o ho hu)
      · rename_i hu
        cases hc
        exact .inl (sim_strLen hx1 hv g he o ho hu)
      · cases hc
    · rename_i s x t u hts
      obtain ⟨x0, y0, hx0, hx1, hy1⟩ := hargs2 has s x rfl
      rw [arr2 hx0, arr2 hts] at ho
      split at hc
      · rename_i el el2 hu hu2
        simp only [Option.bind_eq_some_iff] at hc
        obtain ⟨i, hi, hc⟩ := hc
        split at hc
        · rename_i z hz
          obtain ⟨hb, rfl⟩ := bif_some hc
          simp only [Bool.and_eq_true] at hb
          exact .inl (sim_append hx1 hy1 hu hu2 hi hz (Nat.eq_of_beq_eq_true hb.2) (blt_pos hb.1.1) (blt_pos hb.1.2) hv g hB he o ho)
        · cases hc
      · cases hc
    · rename_i x y hts
      obtain ⟨x0, y0, hx0, hx1, hy1⟩ := hargs2 has _ _ rfl
      rw [arr2 hx0] at ho
      cases hc
      exact .inl (sim_minmax (k := true) hx1 hy1 hv g he o argTypes ho)
    · rename_i x y hts
      obtain ⟨x0, y0, hx0, hx1, hy1⟩ := hargs2 has _ _ rfl
      rw [arr2 hx0] at ho
      cases hc
      exact .inl (sim_minmax (k := false) hx1 hy1 hv g he o argTypes ho)
    · rename_i d x t u hts
      obtain ⟨x0, y0, hx0, hx1, hy1⟩ := hargs2 has d x rfl
      rw [arr2 hx0, arr2 hts] at ho
      split at hc
      · rename_i el el2 hu hu2
        simp only [Option.bind_eq_some_iff] at hc
        obtain ⟨s, hs, hc⟩ := hc
        obtain ⟨hb, rfl⟩ := bif_some hc
        exact .inl (sim_copy hx1 hy1 hu hu2 hs (blt_pos hb) hv g he o ho)
      · cases hc
    · cases hc

theorem sim_op {o : Oper} {m : Mode} {op1 : Op1} {a : AV} {H' : Heap} {call : CallT} (hS : SimAll P call) (hc : comp0 P m o = some op1) (hv : ev1 call e H op1 = some (a, H'))
    (g : Good c B H) (hB : H'.length ≤ B) (he : RepE c e act.tmps) : OpOk P o act c B H a H' := by
  unfold comp0 at hc
  split at hc
  · rename_i x ho
    simp only [Option.bind_eq_some_iff, Option.some.injEq] at hc
    obtain ⟨x1, hx, rfl⟩ := hc
    exact .inl (sim_mov hx hv g he o (.inl ho))
  · rename_i x ho
    simp only [Option.bind_eq_some_iff, Option.some.injEq] at hc
    obtain ⟨x1, hx, rfl⟩ := hc
    exact .inl (sim_mov hx hv g he o (.inr ho))
  · rename_i k x y ho
    simp only [Option.bind_eq_some_iff, Option.some.injEq] at hc
    obtain ⟨k1, hk, x1, hx, y1, hy, rfl⟩ := hc
    exact .inl (sim_pick hk hx hy hv g he o ho)
  · rename_i t ho
    simp only [Option.bind_eq_some_iff] at hc
    obtain ⟨s, hs, z, hz, hc⟩ := hc
    obtain ⟨hb, rfl⟩ := bif_some hc
    exact .inl (sim_alloc hz hv g hB o ho (blt_pos hb))
  · rename_i t x ho
    simp only [Option.bind_eq_some_iff] at hc
    obtain ⟨s, hs, x1, hx, hc⟩ := hc
    obtain ⟨hb, rfl⟩ := bif_some hc
    exact .inl (sim_box hx hv g hB he o ho (blt_pos hb))
  · rename_i t parts ho
    simp only [Option.bind_eq_some_iff] at hc
    obtain ⟨z, hz, hc⟩ := hc
    split at hc
    · rename_i fs hu
      simp only [Option.bind_eq_some_iff] at hc
      obtain ⟨places, hpl, ps, hps, hc⟩ := hc
      obtain ⟨hb, rfl⟩ := bif_some hc
      refine .inl (sim_build hz hps hv g he o ho (blt_pos hb) (fun i zv hi hzv l cells hf => ?_))
      simp only [Program.built, hi, hu, hzv, hpl]
      exact hf
    · rename_i n el hu
      simp only [Option.bind_eq_some_iff] at hc
      obtain ⟨s, hs, ps, hps, hc⟩ := hc
      obtain ⟨hb, rfl⟩ := bif_some hc
      simp only [sizeOf1, Option.map_eq_some_iff] at hs
      obtain ⟨ie, hie, rfl⟩ := hs
      refine .inl (sim_build hz hps hv g he o ho (blt_pos hb) (fun i zv hi hzv l cells hf => ?_))
      simp only [Program.built, hi, hu, hzv, hie]
      exact hf
    · cases hc
  · rename_i t n parts ho
    split at hc
    · rename_i el hu
      simp only [Option.bind_eq_some_iff] at hc
      obtain ⟨s, hs, z, hz, ps, hps, hc⟩ := hc
      obtain ⟨hb, rfl⟩ := bif_some hc
      simp only [Bool.and_eq_true, Bool.or_eq_true] at hb
      refine .inl (sim_buildSlice hu hs hz hps hv g hB he o ho (blt_pos hb.1.1.1) (Nat.le_of_ble_eq_true hb.1.1.2) (Nat.eq_of_beq_eq_true hb.1.2) ?_)
      rcases hb.2 with h | h
      · exact .inl (blt_pos h)
      · exact .inr (by simpa using h)
    · cases hc
  · rename_i t ho
    simp only [Option.some.injEq] at hc
    subst hc
    exact .inl (sim_mkMap hv g hB o ho)
  · rename_i t mp k v ho
    split at hc
    · rename_i kt et hu
      split at hc
      · rename_i k0 hk0
        simp only [Option.bind_eq_some_iff, Option.some.injEq] at hc
        obtain ⟨m1, hm, k1, hk, v1, hvv, rfl⟩ := hc
        exact .inl (sim_insert hm hk hvv hv g he o ho hu hk0)
      · cases hc
    · cases hc
  · rename_i t x ho
    simp only [Option.bind_eq_some_iff] at hc
    obtain ⟨k, hk, s, hs, x1, hx, hc⟩ := hc
    obtain ⟨hb, rfl⟩ := bif_some hc
    simp only [Bool.and_eq_true, Bool.or_eq_true] at hb
    exact .inl (sim_load hx hv g he o ho hk hs (hb.2.imp id (fun h => Nat.eq_of_beq_eq_true h)))
  · rename_i t x y ho
    simp only [Option.bind_eq_some_iff] at hc
    obtain ⟨s, hs, x1, hx, y1, hy, hc⟩ := hc
    obtain ⟨hb, rfl⟩ := bif_some hc
    exact .inl (sim_store hx hy hv g he o ho hs (blt_pos hb))
  · rename_i x ho
    simp only [Option.bind_eq_some_iff, Option.some.injEq] at hc
    obtain ⟨x1, hx, rfl⟩ := hc
    exact .inl (sim_nilCheck hx hv g he o ho)
  · rename_i op t x y u ho
    simp only [Option.bind_eq_some_iff] at hc
    obtain ⟨x1, hx, y1, hy, hc⟩ := hc
    split at hc
    · cases hc
      exact .inl (sim_bin hx hy hv g he o ho)
    · rename_i hu
      split at hc
      · cases hc
        exact .inl (sim_isNil (neg := false) hx rfl hv g he o ho hu)
      · cases hc
        exact .inl (sim_isNil (neg := true) hx rfl hv g he o ho hu)
      · cases hc
    · rename_i hu
      split at hc
      · cases hc
        exact .inl (sim_eqB (neg := false) hx hy hv g he o ho hu)
      · cases hc
        exact .inl (sim_eqB (neg := true) hx hy hv g he o ho hu)
      · cases hc
    · rename_i hu
      split at hc
      · cases hc
        exact .inl (sim_eqS (neg := false) hx hy hv g he o ho)
      · cases hc
        exact .inl (sim_eqS (neg := true) hx hy hv g he o ho)
      · cases hc
    · rename_i d hd1 hd2 hd3 hu
      cases hgt : P.eqGuardType P.depth t with
      | true => simp [hgt] at hc
      | false =>
        simp only [hgt, Bool.not_false, cond_true] at hc
        split at hc
        · simp only [Option.bind_eq_some_iff, Option.some.injEq] at hc
          obtain ⟨n, hn, rfl⟩ := hc
          exact .inl (sim_eqs (neg := false) hx hy hv g he o ho hn hgt)
        · simp only [Option.bind_eq_some_iff, Option.some.injEq] at hc
          obtain ⟨n, hn, rfl⟩ := hc
          exact .inl (sim_eqs (neg := true) hx hy hv g he o ho hn hgt)
        · cases hc
    · cases hc
  · rename_i op t x ho
    simp only [Option.bind_eq_some_iff, Option.some.injEq] at hc
    obtain ⟨x1, hx, rfl⟩ := hc
    exact .inl (sim_un hx hv g he o ho)
  · rename_i s d x ho
    simp only [Option.bind_eq_some_iff] at hc
    obtain ⟨x1, hx, hc⟩ := hc
    split at hc
    · rename_i j k hs hd
      cases hc
      exact .inl (sim_conv hx hv g he o ho hs hd)
    · rename_i el hs hd
      split at hc
      · rename_i hel _
        cases hc
        exact .inl (sim_bytesStr hx hs hd hel hv g he o ho)
      · cases hc
    · cases hc
  · rename_i t x ho
    split at hc
    · cases hc
    · rename_i d hd hu
      simp only [Option.bind_eq_some_iff, Option.some.injEq] at hc
      obtain ⟨x1, hx, rfl⟩ := hc
      exact .inl (sim_mkIface hx hv g he o ho hu (fun ms h => hd ms h))
    · cases hc
  · rename_i f first captured ho
    simp only [Option.bind_eq_some_iff, Option.some.injEq] at hc
    obtain ⟨x1, hx, y1, hy, rfl⟩ := hc
    exact .inl (sim_mkFunc hx hy hv g he o ho)
  · rename_i t l k ho
    split at hc
    · rename_i el hu
      simp only [Option.bind_eq_some_iff] at hc
      obtain ⟨i, hi, z, hz, l1, hl, k1, hk, hc⟩ := hc
      obtain ⟨hb, rfl⟩ := bif_some hc
      simp only [Bool.and_eq_true] at hb
      exact .inl (sim_mkSlice hl hk hu hi hz hv g hB he o ho (blt_pos hb.1.1) (Nat.eq_of_beq_eq_true hb.1.2))
    · cases hc
  · rename_i t x lo hi mx ho
    split at hc
    · rename_i el hu
      simp only [Option.bind_eq_some_iff] at hc
      obtain ⟨s, hs, x1, hx, lo1, hlo, hi1, hhi, mx1, hmx, hc⟩ := hc
      obtain ⟨hb, rfl⟩ := bif_some hc
      simp only [Bool.and_eq_true, Bool.or_eq_true] at hb
      refine .inl (sim_slice hx hlo hhi hmx ?_ hv g he o ho hu hs (blt_pos hb.1))
      rcases hb.2 with h | h
      · left
        cases mx with
        | none => rfl
        | some y =>
          simp only [opt1, Option.bind_eq_some_iff, Option.some.injEq] at hmx
          obtain ⟨_, _, rfl⟩ := hmx
          simp at h
      · right
        intro e0
        subst e0
        simp [opt1] at hhi
        subst hhi
        simp at h
    · cases hc
  · rename_i t x i ho
    split at hc
    · rename_i fs hu
      simp only [Option.bind_eq_some_iff] at hc
      obtain ⟨f, hf, s, hs, x1, hx, hc⟩ := hc
      obtain ⟨hb, rfl⟩ := bif_some hc
      exact .inl (sim_fieldAddr hx hv g he o ho hu hf hs (blt_pos hb))
    · cases hc
  · rename_i t x i ho
    split at hc
    · rename_i fs hu
      simp only [Option.bind_eq_some_iff] at hc
      obtain ⟨f, hf, k, hk, s, hs, x1, hx, hc⟩ := hc
      obtain ⟨hb, rfl⟩ := bif_some hc
      simp only [Bool.and_eq_true, Bool.or_eq_true] at hb
      exact .inl (sim_field hx hv g he o ho hu hf hk hs (hb.2.imp id (fun h => Nat.eq_of_beq_eq_true h)) (blt_pos hb.1))
    · cases hc
  · rename_i t x i ho
    split at hc
    · rename_i el hu
      simp only [Option.bind_eq_some_iff] at hc
      obtain ⟨s, hs, x1, hx, i1, hi, hc⟩ := hc
      obtain ⟨hb, rfl⟩ := bif_some hc
      exact .inl (sim_indexAddr hx hi hv g he o ho hu hs)
    · rename_i n el hu
      simp only [Option.bind_eq_some_iff, Option.some.injEq] at hc
      obtain ⟨s, hs, x1, hx, i1, hi, rfl⟩ := hc
      exact .inl (sim_indexArr hx hi hv g he o ho hu hs)
    · cases hc
  · rename_i t x i ho
    split at hc
    · rename_i hu
      simp only [Option.bind_eq_some_iff, Option.some.injEq] at hc
      obtain ⟨x1, hx, i1, hi, rfl⟩ := hc
      exact .inl (sim_strIndex hx hi hv g he o ho hu)
    · cases hc
  · rename_i t mp k ok ho
    split at hc
    · rename_i kt et hu
      split at hc
      · rename_i k0 hk0
        simp only [Option.bind_eq_some_iff, Option.some.injEq] at hc
        obtain ⟨z, hz, m1, hm, k1, hk, rfl⟩ := hc
        exact .inl (sim_lookup hm hk hz hv g he o ho hu hk0)
      · cases hc
    · cases hc
  · rename_i x u t ho
    split at hc
    · cases hc
    · rename_i d hd hu
      simp only [Option.bind_eq_some_iff, Option.some.injEq] at hc
      obtain ⟨x1, hx, rfl⟩ := hc
      exact .inl (sim_typeAssert hx hv g he o ho hu (fun ms h => hd ms h))
    · cases hc
  · rename_i x i ho
    simp only [Option.bind_eq_some_iff, Option.some.injEq] at hc
    obtain ⟨x1, hx, rfl⟩ := hc
    exact .inl (sim_extract hx hv g he o ho)
  · rename_i k ho
    exact sim_compCall hS ho hc hv g hB he
  · cases hc

end Go.Abs
