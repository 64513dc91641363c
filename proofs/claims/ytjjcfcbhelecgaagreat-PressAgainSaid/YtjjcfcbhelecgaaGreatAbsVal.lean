/- What a machine's value is, whose abstract value is known. Conditions: those of each lemma. -/
import Derived.Test.YtjjcfcbhelecgaaGreatAbsMem
import Derived.Test.YtjjcfcbhelecgaaGreatAbsComp
set_option linter.unusedVariables false
namespace Go.Abs
variable {c : Cx}

theorem Rep.int_eq {k : IntKind} {n : Int} {v : Value} (h : Rep c (.int k n) v) : v = .int k n := by cases h with | imm h => cases h; rfl
theorem Rep.bool_eq {b : Bool} {v : Value} (h : Rep c (.bool b) v) : v = .bool b := by cases h with | imm h => cases h; rfl
theorem Rep.str_eq {s : ByteArray} {v : Value} (h : Rep c (.str s) v) : v = .string s := by cases h with | imm h => cases h; rfl
theorem Rep.tuple_eq {as : List AV} {v : Value} (h : Rep c (.tuple as) v) : ∃ (vs : Array Value) (hl : as.length = vs.size), v = .tuple vs ∧ ∀ i (h : i < as.length), Rep c as[i] (vs[i]'(hl ▸ h)) := by
  cases h with
  | imm h => cases h with | tuple cs vs hl hr => exact ⟨vs, hl, rfl, fun i h => .imm (hr i h)⟩
  | tuple cs vs hl hr => exact ⟨vs, hl, rfl, hr⟩
theorem Rep.agg_eq {as : List AV} {v : Value} (h : Rep c (.agg as) v) :
    ∃ (vs : Array Value) (hl : as.length = vs.size), v = .agg vs ∧ (∀ i (h : i < vs.size), vs[i].oneCell' = true) ∧ ∀ i (h : i < as.length), Rep c as[i] (vs[i]'(hl ▸ h)) := by
  cases h with
  | imm h => cases h with | agg cs vs hl h1 hr => exact ⟨vs, hl, rfl, h1, fun i h => .imm (hr i h)⟩
  | agg cs vs hl h1 hr => exact ⟨vs, hl, rfl, h1, hr⟩
theorem Rep.iface_eq {t : TypeId} {a : AV} {v : Value} (h : Rep c (.iface t a) v) : ∃ u, v = .iface t u ∧ Rep c a u := by
  cases h with
  | imm h => cases h with | iface t a v h => exact ⟨v, rfl, .imm h⟩
  | iface t a v h => exact ⟨v, rfl, h⟩

theorem repL_of_array {as : List AV} {vs : Array Value} (hl : as.length = vs.size) (h : ∀ i (h : i < as.length), Rep c as[i] (vs[i]'(hl ▸ h))) : RepL c as vs.toList :=
  ⟨by simpa using hl, fun i hi => by simpa using h i hi⟩
theorem repL_array {as : List AV} {vs : List Value} (h : RepL c as vs) : ∃ hl : as.length = vs.toArray.size, ∀ i (h : i < as.length), Rep c as[i] (vs.toArray[i]'(hl ▸ h)) := by
  obtain ⟨e, h⟩ := h
  exact ⟨by simpa using e, fun i hi => by simpa using h i hi⟩

theorem Rep.func_eq {f : Fn} {x y : List AV} {v : Value} (h : Rep c (.func f x y) v) : ∃ X Y : Array Value, v = .func f X Y ∧ RepL c x X.toList ∧ RepL c y Y.toList := by
  cases h with
  | imm h => cases h with | func fn x y X Y hx hy rx ry => exact ⟨X, Y, rfl, repL_of_array hx (fun i h => .imm (rx i h)), repL_of_array hy (fun i h => .imm (ry i h))⟩
  | func fn x y X Y hx hy rx ry => exact ⟨X, Y, rfl, repL_of_array hx rx, repL_of_array hy ry⟩
theorem Rep.ptr_eq {b u i o : Nat} {v : Value} (h : Rep c (.ptr b u i o) v) : ∃ a, v = .pointer (some a) ∧ c.N b u ∧ ∀ l, c.ρ b u = some l → a = ⟨l.blk, l.off + i * l.sz + o, none⟩ := by
  cases h with
  | imm h => cases h
  | ptr b u i o hn a h => exact ⟨a, rfl, hn, h⟩
theorem Rep.sl_eq {b u o n : Nat} {v : Value} (h : Rep c (.sl b u o n) v) : ∃ a cap, v = .slice (some a) n cap ∧ c.N b u ∧ n ≤ cap ∧ ∀ l, c.ρ b u = some l → a = ⟨l.blk, l.off + o * l.sz, none⟩ ∧ l.off + (o + cap) * l.sz ≤ l.csz := by
  cases h with
  | imm h => cases h
  | sl b u o n hn a cap hc h => exact ⟨a, cap, rfl, hn, hc, h⟩
theorem Rep.mref_eq {b : Nat} {v : Value} (h : Rep c (.mref b) v) : ∃ r, v = .map (some r) ∧ c.N b 0 ∧ ∀ l, c.ρ b 0 = some l → r = l.blk := by
  cases h with
  | imm h => cases h
  | mref b hn r h => exact ⟨r, rfl, hn, h⟩
theorem Rep.inner {a : AV} {v : Value} (h : Rep c a v) (ha : ∀ b u i o, a ≠ .ptr b u i o) (hb : ∀ b u o n, a ≠ .sl b u o n) (hm : ∀ b, a ≠ .mref b) (hf : ∀ f x y, a ≠ .func f x y) (hi : ∀ t x, a ≠ .iface t x) (hg : ∀ cs, a ≠ .agg cs) (ht : ∀ cs, a ≠ .tuple cs) : RepI c.w c.D a v := by
  cases h with
  | imm h => exact h
  | ptr b u i o => exact absurd rfl (ha b u i o)
  | sl b u o n => exact absurd rfl (hb b u o n)
  | mref b => exact absurd rfl (hm b)
  | func f x y => exact absurd rfl (hf f x y)
  | iface t a => exact absurd rfl (hi t a)
  | agg cs => exact absurd rfl (hg cs)
  | tuple cs => exact absurd rfl (ht cs)
theorem Rep.lst_i {es : Rows} {full : Bool} {v : Value} (h : Rep c (.lst es full) v) : RepI c.w c.D (.lst es full) v :=
  h.inner (by simp) (by simp) (by simp) (by simp) (by simp) (by simp) (by simp)
theorem Rep.vptr_i {r : Row} {o : Nat} {v : Value} (h : Rep c (.vptr r o) v) : RepI c.w c.D (.vptr r o) v :=
  h.inner (by simp) (by simp) (by simp) (by simp) (by simp) (by simp) (by simp)
theorem Rep.mp_i {es : List (Int × AV)} {v : Value} (h : Rep c (.mp es) v) : RepI c.w c.D (.mp es) v :=
  h.inner (by simp) (by simp) (by simp) (by simp) (by simp) (by simp) (by simp)

/-! ### Constants -/
theorem ofVal_rep {w : World} {D : Nat → Prop} {v : Value} {a : AV} (h : ofVal v = some a) : RepI w D a v ∧ v.oneCell' = true ∧ rowOf a = [a] := by
  unfold ofVal at h
  split at h <;> cases h
  · exact ⟨.int _ _, rfl, rfl⟩
  · exact ⟨.bool _, rfl, rfl⟩
  · exact ⟨.str _, rfl, rfl⟩
  · exact ⟨.flt _ _, rfl, rfl⟩
  · exact ⟨.nilptr, rfl, rfl⟩
  · exact ⟨.lst0 _ _ _ (fun _ => rfl), rfl, rfl⟩
  · exact ⟨.nilfn, rfl, rfl⟩
  · exact ⟨.mp0, rfl, rfl⟩
  · exact ⟨.nilif, rfl, rfl⟩

theorem ofVals_rep {w : World} {D : Nat → Prop} : ∀ {vs : List Value} {as : List AV}, ofVals vs = some as → ∃ h : as.length = vs.length, ∀ i (hi : i < as.length), RepI w D as[i] (vs[i]'(h ▸ hi)) ∧ (vs[i]'(h ▸ hi)).oneCell' = true
  | [], as, h => by cases h; exact ⟨rfl, fun i hi => absurd hi (by simp)⟩
  | v :: vs, as, h => by
    simp only [ofVals, Option.bind_eq_some_iff] at h
    obtain ⟨a, ha, as', has, e⟩ := h
    cases e
    obtain ⟨e, ih⟩ := ofVals_rep (w := w) (D := D) has
    refine ⟨by simp [e], fun i hi => ?_⟩
    cases i with
    | zero => exact ⟨(ofVal_rep ha).1, (ofVal_rep (w := w) (D := D) ha).2.1⟩
    | succ i => exact ih i (by simpa using hi)

theorem ofZero_rep {w : World} {D : Nat → Prop} {v : Value} {a : AV} (h : ofZero v = some a) : RepI w D a v := by
  unfold ofZero at h
  split at h
  · rename_i cs
    simp only [Option.bind_eq_some_iff] at h
    obtain ⟨l, hl, e⟩ := h
    cases e
    obtain ⟨e, ih⟩ := ofVals_rep (w := w) (D := D) hl
    refine .agg l cs (by simpa using e) (fun i hi => ?_) (fun i hi => ?_)
    · have := (ih i (by rw [e]; simpa using hi)).2
      simpa using this
    · simpa using (ih i hi).1
  · exact (ofVal_rep h).1

/-! ### Slots and operands -/
def RepE (c : Cx) (e : Env) (tmps : Array Value) : Prop := ∀ t a, e.get t = some a → ∃ v, tmps[t]? = some v ∧ Rep c a v

theorem nbeq_ne {t u : Nat} (h : t ≠ u) : Nat.beq t u = false := by
  cases hb : Nat.beq t u with
  | false => rfl
  | true => exact absurd (Nat.eq_of_beq_eq_true hb) h

theorem get_put (e : Env) (t u : Nat) (a : AV) : (e.put t a).get u = if t = u then some a else e.get u := by
  induction e with
  | nil =>
    by_cases h : t = u
    · simp [Env.put, Env.get, h]
    · simp [Env.put, Env.get, h, nbeq_ne h]
  | cons p e ih =>
    obtain ⟨x, b⟩ := p
    by_cases hx : x = t
    · subst hx
      by_cases h : x = u
      · simp [Env.put, Env.get, h]
      · simp [Env.put, Env.get, h, nbeq_ne h]
    · simp only [Env.put, nbeq_ne hx, cond_false, Env.get, ih]
      by_cases hu : x = u
      · subst hu
        have : ¬ t = x := fun e => hx e.symm
        simp [this]
      · simp [nbeq_ne hu]

theorem get_del (e : Env) (t u : Nat) : (e.del t).get u = if t = u then none else e.get u := by
  induction e with
  | nil => simp [Env.del, Env.get]
  | cons p e ih =>
    obtain ⟨x, b⟩ := p
    by_cases hx : x = t
    · subst hx
      simp only [Env.del, Nat.beq_refl, cond_true, ih, Env.get]
      by_cases h : x = u
      · simp [h]
      · simp [h, nbeq_ne h]
    · simp only [Env.del, nbeq_ne hx, cond_false, Env.get, ih]
      by_cases hu : x = u
      · subst hu
        have : ¬ t = x := fun e => hx e.symm
        simp [this]
      · simp [nbeq_ne hu]

theorem get_only (e : Env) (l : List Nat) (u : Nat) (a : AV) (h : (e.only l).get u = some a) : e.get u = some a := by
  induction l with
  | nil => simp [Env.only, Env.get] at h
  | cons t l ih =>
    simp only [Env.only] at h
    split at h
    · rename_i b hb
      simp only [Env.get] at h
      by_cases ht : t = u
      · subst ht; simp at h; subst h; exact hb
      · rw [nbeq_ne ht] at h
        exact ih h
    · exact ih h

theorem RepE.put {e : Env} {tmps : Array Value} {d : Nat} {a : AV} {v : Value} (h : RepE c e tmps) (hd : d < tmps.size) (hv : Rep c a v) : RepE c (e.put d a) (tmps.setIfInBounds d v) := by
  intro t x hx
  rw [get_put] at hx
  split at hx
  · rename_i e; subst e; cases hx
    exact ⟨v, by simp [hd], hv⟩
  · rename_i hne
    obtain ⟨u, h1, h2⟩ := h t x hx
    exact ⟨u, by rw [Array.getElem?_setIfInBounds_ne hne]; exact h1, h2⟩

theorem RepE.del {e : Env} {tmps : Array Value} {d : Nat} {v : Value} (h : RepE c e tmps) : RepE c (e.del d) (tmps.setIfInBounds d v) := by
  intro t x hx
  rw [get_del] at hx
  split at hx
  · cases hx
  · rename_i hne
    obtain ⟨u, h1, h2⟩ := h t x hx
    exact ⟨u, by rw [Array.getElem?_setIfInBounds_ne hne]; exact h1, h2⟩

theorem RepE.only {e : Env} {tmps : Array Value} (h : RepE c e tmps) (l : List Nat) : RepE c (e.only l) tmps := fun t a ha => h t a (get_only e l t a ha)

theorem RepE.next {c' : Cx} {B : Nat} {H H' : Heap} (g : Good c B H) (n : Nxt c c' H H') {e : Env} {tmps : Array Value} (h : RepE c e tmps) : RepE c' e tmps := fun t a ha => by
  obtain ⟨v, h1, h2⟩ := h t a ha
  exact ⟨v, h1, n.rep g h2⟩

theorem opd_rep {e : Env} {act : Act} {x : Operand} {x1 : Opd} {a : AV} (hx : opd1 x = some x1) (ha : opd e x1 = some a) (hr : RepE c e act.tmps) : Rep c a (act.eval x) := by
  cases x with
  | tmp t =>
    simp [opd1] at hx; subst hx
    obtain ⟨v, h1, h2⟩ := hr t a ha
    have : act.eval (.tmp t) = v := by simp [Act.eval, h1]
    rw [this]; exact h2
  | const v =>
    simp only [opd1, Option.bind_eq_some_iff] at hx
    obtain ⟨b, hb, e⟩ := hx
    cases e
    simp [opd] at ha; subst ha
    exact .imm (ofVal_rep hb).1
  | global g => simp [opd1] at hx
  | func f =>
    simp [opd1] at hx; subst hx
    simp [opd] at ha; subst ha
    exact .func _ [] [] #[] #[] rfl rfl (fun i h => absurd h (by simp)) (fun i h => absurd h (by simp))

theorem opds_rep {e : Env} {act : Act} (hr : RepE c e act.tmps) : ∀ {xs : List Operand} {xs1 : List Opd} {as : List AV}, opds1 xs = some xs1 → opds e xs1 = some as → RepL c as (xs.map act.eval)
  | [], xs1, as, h, ha => by cases h; cases ha; exact .nil _
  | x :: xs, xs1, as, h, ha => by
    simp only [opds1, Option.bind_eq_some_iff] at h
    obtain ⟨y, hy, ys, hys, e⟩ := h
    cases e
    simp only [opds, Option.bind_eq_some_iff] at ha
    obtain ⟨a, h1, as', h2, e⟩ := ha
    cases e
    exact .cons (opd_rep hy h1 hr) (opds_rep hr hys h2)

/-! ### Rows -/
theorem row_rep {a : AV} {v : Value} (h : Rep c a v) (h0 : 0 < (rowOf a).length) : RepL c (rowOf a) v.cells.toList ∧ ∀ x ∈ v.cells.toList, x.oneCell' = true := by
  by_cases hg : ∃ cs, a = .agg cs
  · obtain ⟨cs, rfl⟩ := hg
    obtain ⟨vs, hl, rfl, h1, hr⟩ := h.agg_eq
    refine ⟨repL_of_array hl hr, fun x hx => ?_⟩
    replace hx : x ∈ vs.toList := hx
    obtain ⟨i, hi, rfl⟩ := List.getElem_of_mem hx
    have := h1 i (by simpa using hi)
    simpa using this
  · have hrow : rowOf a = [a] := by
      cases a <;> first | rfl | (exact absurd ⟨_, rfl⟩ hg) | (simp [rowOf] at h0)
    have hv : v.oneCell' = true ∧ v.cells = #[v] := by
      cases h with
      | imm h => cases h <;> first | exact ⟨rfl, rfl⟩ | exact absurd ⟨_, rfl⟩ hg | simp [rowOf] at h0
      | agg => exact absurd ⟨_, rfl⟩ hg
      | tuple => simp [rowOf] at h0
      | _ => exact ⟨rfl, rfl⟩
    rw [hrow, hv.2]
    exact ⟨.cons h (.nil _), by simpa using hv.1⟩

theorem unrow_rep {g : Bool} {r : Row} {a : AV} {vs : List Value} (hu : unrow g r = some a) (hr : RepL c r vs) (h1 : ∀ x ∈ vs, x.oneCell' = true) :
    (g = true → Rep c a (.agg vs.toArray)) ∧ (g = false → ∃ v, vs = [v] ∧ Rep c a v) := by
  unfold unrow at hu
  split at hu
  · rename_i hg
    cases hu
    refine ⟨fun _ => ?_, fun h => by simp [h] at hg⟩
    obtain ⟨hl, hh⟩ := repL_array hr
    refine .agg r vs.toArray hl (fun i hi => ?_) hh
    have := h1 (vs[i]'(by simpa using hi)) (List.getElem_mem _)
    simpa using this
  · rename_i hg
    refine ⟨fun h => absurd h hg, fun _ => ?_⟩
    split at hu
    · cases hu
      obtain ⟨e, hh⟩ := hr
      match vs, e, hh with
      | [v], e, hh => exact ⟨v, rfl, hh 0 (by simp)⟩
    · cases hu
end Go.Abs
