/- Each operation but the calls: where the interpreter answers, the machine's operation answers the same. Conditions: those of each lemma. -/
import Derived.Test.YtjjcfcbhelecgaaGreatAbsVal
set_option linter.unusedVariables false
set_option linter.unusedSimpArgs false
namespace Go.Abs
variable {P : Program} {c : Cx} {B : Nat} {H : Heap} {e : Env} {act : Act}

/-- What an operation of the machine came to stands for what the interpreter's came to. -/
def RunOk (c : Cx) (B : Nat) (H : Heap) (a : AV) (H' : Heap) (r : Result Go.Next) : Prop :=
  ∃ (c' : Cx) (v : Value), (r = .ok (.value v) c'.w ∨ (r = .ok .skip c'.w ∧ v = undef)) ∧ Good c' B H' ∧ Rep c' a v ∧ Nxt c c' H H'

theorem RunOk.same {a : AV} {v : Value} {r : Result Go.Next} (g : Good c B H) (hr : r = .ok (.value v) c.w) (ha : Rep c a v) : RunOk c B H a H r :=
  ⟨c, v, .inl hr, g, ha, .refl c H⟩

/-! ### Types -/
theorem size_run {t : TypeId} {s : Nat} (h : sizeOf1 P t = some s) (w : World) : (sizeOf t).run P w = .ok s w := by
  simp only [sizeOf1, Option.map_eq_some_iff] at h
  obtain ⟨i, hi, rfl⟩ := h
  simp [sizeOf, typeInfo, hi]
theorem agg_run {t : TypeId} {g : Bool} (h : aggOf P t = some g) (w : World) : (isAgg t).run P w = .ok g w := by
  unfold aggOf at h
  split at h
  · rename_i fs hu; cases h; simp [isAgg, run_underlying hu]
  · rename_i n e hu; cases h; simp [isAgg, run_underlying hu]
  · rename_i d h1 h2 hu
    cases h
    simp only [isAgg, Sem.run_bind, run_underlying hu, Result.andThen_ok]
    cases d <;> first | rfl | exact (h1 _ rfl).elim | exact (h2 _ _ rfl).elim
  · cases h
theorem zero_run {t : TypeId} {a : AV} (h : zeroOf P t = some a) (w : World) : ∃ z, (zeroValue t).run P w = .ok z w ∧ ofZero z = some a := by
  simp only [zeroOf, Option.bind_eq_some_iff] at h
  obtain ⟨i, hi, z, hz, h⟩ := h
  exact ⟨z, by simp [zeroValue, typeInfo, hi, hz], h⟩

/-! ### Moves, numbers -/
theorem sim_mov {x : Operand} {x1 : Opd} {a : AV} {H' : Heap} {call : CallT} (hx : opd1 x = some x1) (hv : ev1 call e H (.mov x1) = some (a, H')) (g : Good c B H) (he : RepE c e act.tmps) (o : Oper)
    (ho : o.op = .move x ∨ o.op = .assign x) : RunOk c B H a H' ((execOp act.eval o).run P c.w) := by
  simp only [ev1, Option.bind_eq_some_iff] at hv
  obtain ⟨b, hb, h⟩ := hv
  cases h
  have hr := opd_rep (act := act) hx hb he
  refine .same g ?_ hr
  rcases ho with ho | ho <;> simp [execOp, ho]

theorem sim_pick {k x y : Operand} {k1 x1 y1 : Opd} {a : AV} {H' : Heap} {call : CallT} (hk : opd1 k = some k1) (hx : opd1 x = some x1) (hy : opd1 y = some y1)
    (hv : ev1 call e H (.pick k1 x1 y1) = some (a, H')) (g : Good c B H) (he : RepE c e act.tmps) (o : Oper)
    (ho : o.op = .pick k x y) : RunOk c B H a H' ((execOp act.eval o).run P c.w) := by
  simp only [ev1, Option.bind_eq_some_iff] at hv
  obtain ⟨b, hb, h⟩ := hv
  have hkr := opd_rep (act := act) hk hb he
  split at h
  · simp only [Option.bind_eq_some_iff] at h
    obtain ⟨b', hb', h⟩ := h
    cases h
    exact .same g (by simp [execOp, ho, hkr.bool_eq, asBool]) (opd_rep hx hb' he)
  · simp only [Option.bind_eq_some_iff] at h
    obtain ⟨b', hb', h⟩ := h
    cases h
    exact .same g (by simp [execOp, ho, hkr.bool_eq, asBool]) (opd_rep hy hb' he)
  · cases h

theorem binInt_run {op : BinOp} {k : IntKind} {x y : Int} {a : AV} (t : TypeId) (h : binInt op k x y = some a) (w : World) :
    ∃ v, (binOp op t (.int k x) (.int k y)).run P w = .ok v w ∧ RepI w c.D a v := by
  cases op <;> simp only [binInt] at h
  case add => cases h; exact ⟨_, by simp [binOp, Op.intArith], .int _ _⟩
  case sub => cases h; exact ⟨_, by simp [binOp, Op.intArith], .int _ _⟩
  case mul => cases h; exact ⟨_, by simp [binOp, Op.intArith], .int _ _⟩
  case quo =>
    split at h
    · cases h
    · rename_i hy; cases h; exact ⟨_, by simp only [binOp, ne_eq, not_true_eq_false, if_false, Op.intDiv, if_neg hy]; rfl, .int _ _⟩
  case rem =>
    split at h
    · cases h
    · rename_i hy; cases h; exact ⟨_, by simp only [binOp, ne_eq, not_true_eq_false, if_false, Op.intDiv, if_neg hy]; rfl, .int _ _⟩
  case and => cases h; exact ⟨_, by simp only [binOp, ne_eq, not_true_eq_false, if_false]; rfl, .int _ _⟩
  case or => cases h; exact ⟨_, by simp only [binOp, ne_eq, not_true_eq_false, if_false]; rfl, .int _ _⟩
  case xor => cases h; exact ⟨_, by simp only [binOp, ne_eq, not_true_eq_false, if_false]; rfl, .int _ _⟩
  case andNot => cases h; exact ⟨_, by simp only [binOp, ne_eq, not_true_eq_false, if_false]; rfl, .int _ _⟩
  case eql => cases h; exact ⟨_, by simp only [binOp, ne_eq, not_true_eq_false, if_false]; rfl, .bool _⟩
  case neq => cases h; exact ⟨_, by simp only [binOp, ne_eq, not_true_eq_false, if_false]; rfl, .bool _⟩
  case lss => cases h; exact ⟨_, by simp only [binOp, ne_eq, not_true_eq_false, if_false]; rfl, .bool _⟩
  case leq => cases h; exact ⟨_, by simp only [binOp, ne_eq, not_true_eq_false, if_false]; rfl, .bool _⟩
  case gtr => cases h; exact ⟨_, by simp only [binOp, ne_eq, not_true_eq_false, if_false]; rfl, .bool _⟩
  case geq => cases h; exact ⟨_, by simp only [binOp, ne_eq, not_true_eq_false, if_false]; rfl, .bool _⟩
  all_goals cases h

theorem eqGuard_simple (op : BinOp) (t : TypeId) (x y : Operand) {a b : Value} (h1 : a ≠ .nilIface) (h2 : ∀ p, a ≠ .agg p) (w : World) :
    (eqGuard op t x y a b).run P w = .ok () w := by
  unfold eqGuard
  cases a <;> cases b <;> first | (exact absurd rfl h1) | (exact absurd rfl (h2 _)) | (simp; done)

theorem shift_run {op : BinOp} {k j : IntKind} {x y : Int} {a : AV} (t : TypeId) (hop : op = .shl ∨ op = .shr) (h : shift1 op k x y = some a) (w : World) :
    ∃ v, (binOp op t (.int k x) (.int j y)).run P w = .ok v w ∧ RepI w c.D a v := by
  unfold shift1 at h
  split at h
  · cases h
  · rename_i hy
    rcases hop with rfl | rfl <;> cases h <;> exact ⟨_, by simp only [binOp, Op.shift, if_neg hy]; rfl, .int _ _⟩

theorem guarded {op : BinOp} {t u : TypeId} {x y : Operand} {o : Oper} (ho : o.op = .binOp op t x y u) {w : World} {v : Value}
    (h1 : act.eval x ≠ .nilIface) (h2 : ∀ p, act.eval x ≠ .agg p) (h : (binOp op t (act.eval x) (act.eval y)).run P w = .ok v w) :
    (execOp act.eval o).run P w = .ok (.value v) w := by
  simp only [execOp, ho, Sem.run_bind, eqGuard_simple op t x y h1 h2, Result.andThen_ok, h]
  rfl

theorem sim_bin {op : BinOp} {t u : TypeId} {x y : Operand} {x1 y1 : Opd} {a : AV} {H' : Heap} {call : CallT} (hx : opd1 x = some x1) (hy : opd1 y = some y1)
    (hv : ev1 call e H (.bin op x1 y1) = some (a, H')) (g : Good c B H) (he : RepE c e act.tmps) (o : Oper)
    (ho : o.op = .binOp op t x y u) : RunOk c B H a H' ((execOp act.eval o).run P c.w) := by
  simp only [ev1, Option.bind_eq_some_iff] at hv
  obtain ⟨p, hp, q, hq, v, hv, h⟩ := hv
  cases h
  have rp := opd_rep (act := act) hx hp he
  have rq := opd_rep (act := act) hy hq he
  have key : ∃ v, (binOp op t (act.eval x) (act.eval y)).run P c.w = .ok v c.w ∧ RepI c.w c.D a v ∧ ∃ k n, act.eval x = .int k n := by
    unfold bin1 at hv
    split at hv
    · rw [rp.int_eq, rq.int_eq]
      obtain ⟨v, h1, h2⟩ := shift_run (P := P) (c := c) t (.inl rfl) hv c.w
      exact ⟨v, h1, h2, _, _, rfl⟩
    · rw [rp.int_eq, rq.int_eq]
      obtain ⟨v, h1, h2⟩ := shift_run (P := P) (c := c) t (.inr rfl) hv c.w
      exact ⟨v, h1, h2, _, _, rfl⟩
    · split at hv
      · rename_i hkj
        subst hkj
        rw [rp.int_eq, rq.int_eq]
        obtain ⟨v, h1, h2⟩ := binInt_run (P := P) (c := c) t hv c.w
        exact ⟨v, h1, h2, _, _, rfl⟩
      · cases hv
    · cases hv
  obtain ⟨v, h1, h2, k, n, hk⟩ := key
  exact .same g (guarded ho (by simp [hk]) (by simp [hk]) h1) (.imm h2)

theorem equalIn_bool {t : TypeId} (ht : P.underlying t = some .bool) (x y : Bool) (d : Nat) (w : World) : (Op.equalIn (d + 1) t (.bool x) (.bool y)).run P w = .ok (x == y) w := by
  simp only [Op.equalIn, Sem.run_bind, run_underlying ht, Result.andThen_ok]
  rfl
theorem equalIn_int {t : TypeId} {k0 : IntKind} (ht : P.underlying t = some (.int k0)) (k : IntKind) (x y : Int) (d : Nat) (w : World) : (Op.equalIn (d + 1) t (.int k x) (.int k y)).run P w = .ok (x == y) w := by
  simp only [Op.equalIn, Sem.run_bind, run_underlying ht, Result.andThen_ok, if_true]
  rfl
theorem equal_bool {t : TypeId} (ht : P.underlying t = some .bool) (x y : Bool) (w : World) : (Op.equal t (.bool x) (.bool y)).run P w = .ok (x == y) w :=
  equalIn_bool ht x y 9999 w

theorem sim_eqB {neg : Bool} {t u : TypeId} {x y : Operand} {x1 y1 : Opd} {a : AV} {H' : Heap} {call : CallT} (hx : opd1 x = some x1) (hy : opd1 y = some y1)
    (hv : ev1 call e H (.eqB neg x1 y1) = some (a, H')) (g : Good c B H) (he : RepE c e act.tmps) (o : Oper)
    (ho : o.op = .binOp (if neg then .neq else .eql) t x y u) (ht : P.underlying t = some .bool) : RunOk c B H a H' ((execOp act.eval o).run P c.w) := by
  simp only [ev1, Option.bind_eq_some_iff] at hv
  obtain ⟨p, hp, q, hq, hv⟩ := hv
  have rp := opd_rep (act := act) hx hp he
  have rq := opd_rep (act := act) hy hq he
  split at hv
  · cases hv
    refine .same g (guarded ho (by simp [rp.bool_eq]) (by simp [rp.bool_eq]) ?_) (.imm (.bool _))
    rw [rp.bool_eq, rq.bool_eq]
    cases neg
    · simp only [Bool.false_eq_true, if_false, binOp, Sem.run_bind, equal_bool ht, Result.andThen_ok, Bool.false_bne, Bool.false_xor]
      rfl
    · simp only [if_true, binOp, Sem.run_bind, equal_bool ht, Result.andThen_ok, Bool.true_xor]
      rfl
  · cases hv

theorem sim_eqS {neg : Bool} {t u : TypeId} {x y : Operand} {x1 y1 : Opd} {a : AV} {H' : Heap} {call : CallT} (hx : opd1 x = some x1) (hy : opd1 y = some y1)
    (hv : ev1 call e H (.eqS neg x1 y1) = some (a, H')) (g : Good c B H) (he : RepE c e act.tmps) (o : Oper)
    (ho : o.op = .binOp (if neg then .neq else .eql) t x y u) : RunOk c B H a H' ((execOp act.eval o).run P c.w) := by
  simp only [ev1, Option.bind_eq_some_iff] at hv
  obtain ⟨p, hp, q, hq, hv⟩ := hv
  have rp := opd_rep (act := act) hx hp he
  have rq := opd_rep (act := act) hy hq he
  split at hv
  · cases hv
    refine .same g (guarded ho (by simp [rp.str_eq]) (by simp [rp.str_eq]) ?_) (.imm (.bool _))
    rw [rp.str_eq, rq.str_eq]
    cases neg <;> simp [binOp, Op.stringOp]
  · cases hv

theorem sim_un {op : UnOp} {t : TypeId} {x : Operand} {x1 : Opd} {a : AV} {H' : Heap} {call : CallT} (hx : opd1 x = some x1)
    (hv : ev1 call e H (.un op x1) = some (a, H')) (g : Good c B H) (he : RepE c e act.tmps) (o : Oper)
    (ho : o.op = .unOp op t x) : RunOk c B H a H' ((execOp act.eval o).run P c.w) := by
  simp only [ev1, Option.bind_eq_some_iff] at hv
  obtain ⟨p, hp, v, hv, h⟩ := hv
  cases h
  have rp := opd_rep (act := act) hx hp he
  unfold un1 at hv
  split at hv <;> cases hv
  · exact .same g (by simp only [execOp, ho, rp.int_eq, Op.unary]; rfl) (.imm (.int _ _))
  · exact .same g (by simp only [execOp, ho, rp.int_eq, Op.unary]; rfl) (.imm (.int _ _))
  · exact .same g (by simp only [execOp, ho, rp.bool_eq, Op.unary]; rfl) (.imm (.bool _))

theorem sim_conv {k : IntKind} {s d : TypeId} {x : Operand} {x1 : Opd} {a : AV} {H' : Heap} {call : CallT} (hx : opd1 x = some x1)
    (hv : ev1 call e H (.conv k x1) = some (a, H')) (g : Good c B H) (he : RepE c e act.tmps) (o : Oper)
    (ho : o.op = .convert s d x) {j : IntKind} (hs : P.underlying s = some (.int j)) (hd : P.underlying d = some (.int k)) : RunOk c B H a H' ((execOp act.eval o).run P c.w) := by
  simp only [ev1, Option.bind_eq_some_iff] at hv
  obtain ⟨p, hp, hv⟩ := hv
  have rp := opd_rep (act := act) hx hp he
  split at hv <;> cases hv
  exact .same g (by simp [execOp, ho, rp.int_eq, convert, run_underlying hs, run_underlying hd, Conv.intToInt]) (.imm (.int _ _))

theorem sim_mkIface {t : TypeId} {x : Operand} {x1 : Opd} {a : AV} {H' : Heap} {call : CallT} (hx : opd1 x = some x1)
    (hv : ev1 call e H (.mkIface t x1) = some (a, H')) (g : Good c B H) (he : RepE c e act.tmps) (o : Oper)
    (ho : o.op = .makeInterface t x) {d : TypeDesc} (ht : P.underlying t = some d) (hn : ∀ ms, d ≠ .interface ms) : RunOk c B H a H' ((execOp act.eval o).run P c.w) := by
  simp only [ev1, Option.bind_eq_some_iff] at hv
  obtain ⟨p, hp, h⟩ := hv
  cases h
  have rp := opd_rep (act := act) hx hp he
  refine .same g (v := .iface t (act.eval x)) ?_ (.iface _ _ _ rp)
  simp only [execOp, ho, Instr.makeInterface, Sem.run_bind, run_underlying ht, Result.andThen_ok]
  cases d <;> first | rfl | exact absurd rfl (hn _)

theorem sim_mkFunc {f : FuncId} {fs cs : Array Operand} {fs1 cs1 : List Opd} {a : AV} {H' : Heap} {call : CallT} (hx : opds1 fs.toList = some fs1) (hy : opds1 cs.toList = some cs1)
    (hv : ev1 call e H (.mkFunc f fs1 cs1) = some (a, H')) (g : Good c B H) (he : RepE c e act.tmps) (o : Oper)
    (ho : o.op = .makeFunc (.func f) fs cs) : RunOk c B H a H' ((execOp act.eval o).run P c.w) := by
  simp only [ev1, Option.bind_eq_some_iff] at hv
  obtain ⟨p, hp, q, hq, h⟩ := hv
  cases h
  have rp := opds_rep (act := act) he hx hp
  have rq := opds_rep (act := act) he hy hq
  obtain ⟨l1, h1⟩ := repL_array rp
  obtain ⟨l2, h2⟩ := repL_array rq
  refine .same g (v := .func (.func f) (fs.map act.eval) (cs.map act.eval)) (by simp [execOp, ho, Instr.makeFunc]) ?_
  have e1 : (fs.toList.map act.eval).toArray = fs.map act.eval := by apply Array.ext'; simp
  have e2 : (cs.toList.map act.eval).toArray = cs.map act.eval := by apply Array.ext'; simp
  rw [← e1, ← e2]
  exact .func _ _ _ _ _ l1 l2 h1 h2

theorem sim_nilCheck {x : Operand} {x1 : Opd} {a : AV} {H' : Heap} {call : CallT} (hx : opd1 x = some x1)
    (hv : ev1 call e H (.nilCheck x1) = some (a, H')) (g : Good c B H) (he : RepE c e act.tmps) (o : Oper)
    (ho : o.op = .nilCheck x) : RunOk c B H a H' ((execOp act.eval o).run P c.w) := by
  simp only [ev1, Option.bind_eq_some_iff] at hv
  obtain ⟨p, hp, hv⟩ := hv
  have rp := opd_rep (act := act) hx hp he
  split at hv <;> cases hv
  · obtain ⟨ad, hv, _⟩ := rp.ptr_eq
    exact .same g (by simp [execOp, ho, hv]) (hv ▸ rp)
  · have hi := rp.vptr_i
    generalize hp' : act.eval x = z at hi rp
    cases hi
    exact .same g (by simp [execOp, ho, hp']) rp
  · obtain ⟨X, Y, hv, _⟩ := rp.func_eq
    exact .same g (by simp [execOp, ho, hv]) (hv ▸ rp)

theorem sim_extract {i : Nat} {x : Operand} {x1 : Opd} {a : AV} {H' : Heap} {call : CallT} (hx : opd1 x = some x1)
    (hv : ev1 call e H (.extract x1 i) = some (a, H')) (g : Good c B H) (he : RepE c e act.tmps) (o : Oper)
    (ho : o.op = .extract x i) : RunOk c B H a H' ((execOp act.eval o).run P c.w) := by
  simp only [ev1, Option.bind_eq_some_iff] at hv
  obtain ⟨p, hp, hv⟩ := hv
  have rp := opd_rep (act := act) hx hp he
  split at hv
  · simp only [Option.bind_eq_some_iff] at hv
    obtain ⟨b, hb, h⟩ := hv
    cases h
    obtain ⟨vs, hl, hv, hr⟩ := rp.tuple_eq
    obtain ⟨hi, rfl⟩ := List.getElem?_eq_some_iff.1 hb
    have hiv : i < vs.size := hl ▸ hi
    exact .same g (v := vs[i]) (by simp [execOp, ho, hv, Instr.extract, hiv]) (hr i hi)
  · cases hv

theorem sim_typeAssert {t u : TypeId} {x : Operand} {x1 : Opd} {a : AV} {H' : Heap} {call : CallT} (hx : opd1 x = some x1)
    (hv : ev1 call e H (.typeAssert t x1) = some (a, H')) (g : Good c B H) (he : RepE c e act.tmps) (o : Oper)
    (ho : o.op = .typeAssert x u t false) {d : TypeDesc} (ht : P.underlying t = some d) (hn : ∀ ms, d ≠ .interface ms) : RunOk c B H a H' ((execOp act.eval o).run P c.w) := by
  simp only [ev1, Option.bind_eq_some_iff] at hv
  obtain ⟨p, hp, hv⟩ := hv
  have rp := opd_rep (act := act) hx hp he
  split at hv
  · rename_i t' b
    cases hb : Nat.beq t' t with
    | false => simp [hb] at hv
    | true =>
      simp [hb] at hv
      obtain ⟨rfl, rfl⟩ := hv
      have := Nat.eq_of_beq_eq_true hb
      subst this
      obtain ⟨w', hv, hr⟩ := rp.iface_eq
      refine .same g (v := w') ?_ hr
      simp only [execOp, ho, hv, Instr.typeAssert, Sem.run_bind, run_underlying ht, Result.andThen_ok]
      cases d <;> first | (simp; done) | exact absurd rfl (hn _)
  · cases hv

theorem sim_minmax {k : Bool} {x y : Operand} {x1 y1 : Opd} {a : AV} {H' : Heap} {call : CallT} (hx : opd1 x = some x1) (hy : opd1 y = some y1)
    (hv : ev1 call e H (if k then .min x1 y1 else .max x1 y1) = some (a, H')) (g : Good c B H) (he : RepE c e act.tmps) (o : Oper) (ts : Array TypeId)
    (ho : o.op = .call { callee := .builtin (if k then .min else .max), args := #[x, y], argTypes := ts }) : RunOk c B H a H' ((execOp act.eval o).run P c.w) := by
  cases k <;> simp only [if_true, Bool.false_eq_true, if_false, ev1, Option.bind_eq_some_iff] at hv ho <;> obtain ⟨p, hp, q, hq, hv⟩ := hv <;>
    have rp := opd_rep (act := act) hx hp he <;> have rq := opd_rep (act := act) hy hq he
  all_goals
    split at hv
    · split at hv
      · rename_i hkj
        subst hkj
        cases hv
        exact .same g (by simp [execOp, ho, resolve, invoke, builtin, Builtin.min_, Builtin.max_, Builtin.min2, Builtin.max2, rp.int_eq, rq.int_eq]) (.imm (.int _ _))
      · cases hv
    · cases hv

end Go.Abs
