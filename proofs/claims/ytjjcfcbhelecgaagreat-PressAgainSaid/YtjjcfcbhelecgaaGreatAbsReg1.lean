/- Statements in the text's order. Conditions: those of each lemma. -/
import Derived.Test.YtjjcfcbhelecgaaGreatAbsOp
set_option linter.unusedVariables false
set_option linter.unusedSimpArgs false
namespace Go.Abs
variable {P : Program} {c : Cx} {B : Nat} {H : Heap} {e : Env} {act : Act}

/-! ### Heaps grow -/
theorem lentBack_len (H : Heap) (r : AV) (bs : List Nat) : (lentBack H r bs).length = H.length := by
  cases bs with
  | nil => rfl
  | cons b bs =>
    simp only [lentBack]
    cases hasLst deep r <;> simp [setRo_len]

theorem doCall_len {call : CallT} (hS : SimAll P call) {f : FuncId} {as : List AV} {m : Mode} {a : AV} {H' : Heap} (hv : doCall call f as m H = some (a, H')) : H.length ≤ H'.length := by
  unfold doCall at hv
  split at hv
  · simp only [Option.bind_eq_some_iff] at hv
    obtain ⟨r, _, hv⟩ := hv
    cases hv
    rw [lentBack_len]; exact Nat.le_refl _
  · simp only [Option.bind_eq_some_iff] at hv
    obtain ⟨r, _, hv⟩ := hv
    injection hv with hv
    have eH : H' = (take deep (lentBack H r (metAll (met deep H) as)) r).2 := by rw [hv]
    rw [eH]
    exact Nat.le_trans (Nat.le_of_eq (lentBack_len H r _).symm) (take_len _ _ _)
  · exact (hS f as H a H' hv).1

theorem storeRow_len {a : AV} {sz : Nat} {new : Row} {H' : Heap} (h : storeRow H a sz new = some H') : H'.length = H.length := by
  unfold storeRow at h
  split at h
  · split at h
    · split at h
      · obtain ⟨_, rfl⟩ := bif_some h; simp
      · cases h
    · cases h
  · cases h

theorem ev1_len {call : CallT} (hS : SimAll P call) {op : Op1} {a : AV} {H' : Heap} (hv : ev1 call e H op = some (a, H')) : H.length ≤ H'.length := by
  cases op <;> simp only [ev1, Option.bind_eq_some_iff] at hv
  case call f args m => obtain ⟨as, _, hv⟩ := hv; exact doCall_len hS hv
  case dyn f args m =>
    obtain ⟨_, _, as, _, hv⟩ := hv
    split at hv
    · exact doCall_len hS hv
    · cases hv
  case invoke r tab args m =>
    obtain ⟨_, _, as, _, hv⟩ := hv
    split at hv
    · simp only [Option.bind_eq_some_iff] at hv
      obtain ⟨fr, _, hv⟩ := hv
      split at hv
      · exact doCall_len hS hv
      · simp only [Option.bind_eq_some_iff] at hv
        obtain ⟨_, _, _, _, hv⟩ := hv
        exact doCall_len hS hv
    · cases hv
  case append sz bytes s x =>
    obtain ⟨_, _, _, _, hv⟩ := hv
    simp only [append1, Option.bind_eq_some_iff] at hv
    obtain ⟨new, _, hv⟩ := hv
    repeat' split at hv
    all_goals first
      | (cases hv; done)
      | (simp only [Bool.cond_eq_ite] at hv; repeat' split at hv
         all_goals first | (cases hv; done) | (cases hv; simp))
  case copy sz d s =>
    obtain ⟨_, _, _, _, hv⟩ := hv
    simp only [copy1, Option.bind_eq_some_iff] at hv
    obtain ⟨new, _, hv⟩ := hv
    simp only [Bool.cond_eq_ite] at hv
    repeat' split at hv
    all_goals first | (cases hv; done) | (cases hv; simp)
  case store sz x y =>
    obtain ⟨_, _, _, _, H1, h1, hv⟩ := hv
    cases hv
    exact Nat.le_of_eq (storeRow_len h1).symm
  case mov x => grind
  case pick =>
    obtain ⟨_, _, hv⟩ := hv
    split at hv
    · simp only [Option.bind_eq_some_iff] at hv
      obtain ⟨_, _, hv⟩ := hv
      cases hv; exact Nat.le_refl _
    · simp only [Option.bind_eq_some_iff] at hv
      obtain ⟨_, _, hv⟩ := hv
      cases hv; exact Nat.le_refl _
    · cases hv
  case box => grind
  case build => grind
  case buildSlice sz rows parts =>
    split at hv
    · cases hv; simp
    · simp only [Option.bind_eq_some_iff] at hv
      obtain ⟨rows', _, hv⟩ := hv
      cases hc : cloRows (clo deep) rows' <;> simp only [hc, cond_true, cond_false, freshRows] at hv <;> cases hv <;> simp
  case mkMap => grind
  case insert =>
    obtain ⟨_, _, _, _, _, _, hv⟩ := hv
    repeat' split at hv
    all_goals first | (cases hv; done) | (cases hv; simp)
  case load => grind
  case nilCheck => grind
  case bin => grind
  case eqs =>
    obtain ⟨_, _, _, _, hv⟩ := hv
    split at hv
    · simp only [Bool.cond_eq_ite] at hv
      split at hv
      · simp only [Option.bind_eq_some_iff] at hv
        obtain ⟨_, _, hv⟩ := hv
        cases hv; exact Nat.le_refl _
      · cases hv
    · cases hv
  case eqB => grind
  case eqS => grind
  case un => grind
  case conv => grind
  case bytesStr => grind
  case mkIface => grind
  case mkFunc => grind
  case mkSlice => grind [freshRows]
  case slice =>
    obtain ⟨_, _, _, _, _, _, _, _, hv⟩ := hv
    split at hv
    · simp only [Option.bind_eq_some_iff] at hv
      obtain ⟨_, _, hv⟩ := hv
      cases hv; exact Nat.le_refl _
    · simp only [Option.bind_eq_some_iff] at hv
      obtain ⟨_, _, _, _, hv⟩ := hv
      cases hv; exact Nat.le_refl _
  case fieldAddr => grind
  case field =>
    obtain ⟨_, _, hv⟩ := hv
    split at hv
    · simp only [Bool.cond_eq_ite] at hv
      split at hv
      · simp only [Option.bind_eq_some_iff] at hv
        obtain ⟨_, _, hv⟩ := hv
        cases hv; exact Nat.le_refl _
      · cases hv
    · cases hv
  case indexAddr => grind
  case indexArr => grind
  case strIndex => grind
  case lookup =>
    obtain ⟨_, _, _, _, hv⟩ := hv
    split at hv
    · simp only [Option.bind_eq_some_iff] at hv
      obtain ⟨_, _, hv⟩ := hv
      split at hv <;> cases hv <;> exact Nat.le_refl _
    · cases hv
  case typeAssert => grind
  case extract => grind
  case len => grind
  case strLen => grind
  case isNil => grind
  case min => grind
  case max => grind
  case stuck => cases hv

/-! ### One operation -/
theorem want_rep {ops : Array Oper} {o : Oper} {g1 : Option (Nat × Bool)} {b : Bool} (hg : guardOf ops o.guard = some g1) (hw : want1 e g1 = some b) (he : RepE c e act.tmps) :
    Region.wanted o (yielded ops act.tmps) = b := by
  unfold Region.wanted
  cases ho : o.guard with
  | none =>
    simp only [ho, guardOf, Option.some.injEq] at hg
    subst hg
    simp [want1] at hw
    simp [hw]
  | some jw =>
    obtain ⟨j, w⟩ := jw
    simp only [ho, guardOf, Option.bind_eq_some_iff, Option.some.injEq] at hg
    obtain ⟨oj, hoj, d, hd, rfl⟩ := hg
    simp only [want1] at hw
    split at hw
    · rename_i x hx
      obtain ⟨v, hv, hr⟩ := he d _ hx
      have := hr.bool_eq
      subst this
      simp only [Option.some.injEq] at hw
      subst hw
      have hy : yielded ops act.tmps j = some x := by
        simp [yielded, hoj, hd, hv]
      simp only [hy]
      cases x <;> cases w <;> rfl
    · rename_i hx
      obtain ⟨v, hv, hr⟩ := he d _ hx
      obtain ⟨vs, hl, rfl, _⟩ := hr.tuple_eq
      simp only [Option.some.injEq] at hw
      subst hw
      have hy : yielded ops act.tmps j = none := by
        simp [yielded, hoj, hd, hv]
      simp only [hy]
      cases w <;> rfl
    · cases hw

/-- The slots that are written are there. -/
def dstLt (n : Nat) (o : Oper1) : Bool := match o.dst with | some d => Nat.blt d n | none => true

theorem comp_known {m : Mode} {o : Oper} {call : CallT} {a : AV} {H' : Heap} (h : ev1 call e H (comp P m o) = some (a, H')) : comp0 P m o = some (comp P m o) := by
  unfold comp at h ⊢
  cases hc : comp0 P m o with
  | none => rw [hc] at h; simp [ev1] at h
  | some x => rfl

theorem RepE.putO {e : Env} {a : AV} {v : Value} {o1 : Oper1} (h : RepE c e act.tmps) (hd : dstLt act.tmps.size o1 = true) (hv : Rep c a v) :
    RepE c (match o1.dst with | some d => e.put d a | none => e) (act.put o1.dst v).tmps := by
  cases ho : o1.dst with
  | none => simpa [Act.put] using h
  | some d =>
    simp only [dstLt, ho] at hd
    exact h.put (Nat.le_of_ble_eq_true hd) hv

theorem put_size (act : Act) (d : Option Nat) (v : Value) : (act.put d v).tmps.size = act.tmps.size := by cases d <;> simp [Act.put]
theorem put_defers (act : Act) (d : Option Nat) (v : Value) : (act.put d v).defers = act.defers := by cases d <;> rfl

theorem steps_len {call : CallT} (hS : SimAll P call) : ∀ {os : List Oper1} {e e' : Env} {H H' : Heap}, steps call os e H = some (e', H') → H.length ≤ H'.length
  | [], e, e', H, H', h => by cases h; exact Nat.le_refl _
  | o :: os, e, e', H, H', h => by
    simp only [steps, Option.bind_eq_some_iff] at h
    obtain ⟨⟨e1, H1⟩, h1, h2⟩ := h
    refine Nat.le_trans ?_ (steps_len hS h2)
    unfold step1 at h1
    split at h1
    · simp only [Option.bind_eq_some_iff] at h1
      obtain ⟨⟨a, H2⟩, h3, h1⟩ := h1
      cases h1
      exact ev1_len hS h3
    · cases h1; exact Nat.le_refl _
    · cases h1

/-- A statement in the text's order. -/
theorem sim_steps {call : CallT} (hS : SimAll P call) {md : Modes} {fn id : Nat} {ops : Array Oper} {Q : Exit → Act → World → Prop} :
    ∀ (rest : List Oper) (i : Nat) (os : List Oper1) (c : Cx) (e e' : Env) (H H' : Heap) (act : Act), ops.toList.drop i = rest → i + rest.length = ops.size → compOps P md fn id ops i rest = some os → steps call os e H = some (e', H') →
      Good c B H → H'.length ≤ B → RepE c e act.tmps → os.all (dstLt act.tmps.size) = true →
      (∀ (c' : Cx) (act' : Act), Good c' B H' → RepE c' e' act'.tmps → Nxt c c' H H' → act'.tmps.size = act.tmps.size → act'.defers = act.defers → Q .normal act' c'.w) →
      wpOps P ops Q (List.range' i rest.length) act c.w
  | [], i, os, c, e, e', H, H', act, hd, hl, hc, hs, g, hB, he, hdst, hK => by
    cases hc
    cases hs
    exact hK c act g he (.refl c H) rfl rfl
  | o :: rest, i, os, c, e, e', H, H', act, hd, hl, hc, hs, g, hB, he, hdst, hK => by
    simp only [compOps, Option.bind_eq_some_iff, Option.some.injEq] at hc
    obtain ⟨o1, ho1, os', hos, rfl⟩ := hc
    simp only [compOper, Option.bind_eq_some_iff, Option.some.injEq] at ho1
    obtain ⟨g1, hg1, rfl⟩ := ho1
    have hoi : ops[i]? = some o := by
      have : (ops.toList.drop i)[0]? = some o := by rw [hd]; rfl
      rw [List.getElem?_drop] at this
      simpa using this
    have hd' : ops.toList.drop (i + 1) = rest := by
      rw [← List.drop_drop, hd]
      rfl
    simp only [List.all_cons, Bool.and_eq_true] at hdst
    simp only [steps, Option.bind_eq_some_iff] at hs
    obtain ⟨⟨e1, H1⟩, h1, h2⟩ := hs
    have hB1 : H1.length ≤ B := Nat.le_trans (steps_len hS h2) hB
    have ih := sim_steps hS (md := md) (fn := fn) (id := id) (ops := ops) (Q := Q) rest (i + 1) os'
    simp only [List.length_cons, List.range'_succ, wpOps, hoi]
    unfold step1 at h1
    split at h1
    · rename_i hw
      simp only [Option.bind_eq_some_iff, Option.some.injEq, Prod.mk.injEq] at h1
      obtain ⟨⟨a, H2⟩, h3, rfl, rfl⟩ := h1
      rw [want_rep hg1 hw he, if_pos rfl]
      have hop := sim_op hS (comp_known h3) h3 g hB1 he
      refine hop.wp fun c' v g' r' n' => ?_
      refine ih c' _ e' _ H' (act.put o.dst v) hd' (by simp at hl; omega) hos h2 g' hB (by
        have := (RepE.next g n' he).putO (act := act) (o1 := ⟨o.dst, comp P (md fn id i) o, g1⟩) hdst.1 r'
        exact this) (by rw [put_size]; exact hdst.2) (fun c'' act' g'' he'' n'' hs'' hd'' => ?_)
      exact hK c'' act' g'' he'' (n'.trans g hB1 n'') (by rw [hs'', put_size]) (by rw [hd'', put_defers])
    · rename_i hw
      simp only [Option.some.injEq, Prod.mk.injEq] at h1
      obtain ⟨rfl, rfl⟩ := h1
      rw [want_rep hg1 hw he]
      simp only [Bool.false_eq_true, if_false]
      refine ih c _ e' _ H' (act.put o.dst undef) hd' (by simp at hl; omega) hos h2 g hB ?_ (by rw [put_size]; exact hdst.2) (fun c'' act' g'' he'' n'' hs'' hd'' => ?_)
      · exact he.putO (act := act) (o1 := ⟨o.dst, comp P (md fn id i) o, g1⟩) hdst.1 (.imm (.tuple [] #[] rfl (fun i h => absurd h (by simp))))
      · exact hK c'' act' g'' he'' n'' (by rw [hs'', put_size]) (by rw [hd'', put_defers])
    · cases h1

end Go.Abs
