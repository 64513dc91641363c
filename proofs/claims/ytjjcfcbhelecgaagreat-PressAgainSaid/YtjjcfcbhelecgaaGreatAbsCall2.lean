/- What a call of its own hands back: own slices stand apart. Conditions: those of each lemma. -/
import Derived.Test.YtjjcfcbhelecgaaGreatAbsCall1
set_option linter.unusedVariables false
set_option linter.unusedSimpArgs false
namespace Go.Abs
variable {c : Cx} {B : Nat} {H : Heap}

/-- A result, its own slices' machine blocks in the order in which they are taken over. -/
inductive RepA (w : World) (D : Nat → Prop) : AV → Value → List Nat → Prop
  | imm {a : AV} {v : Value} (h : RepI w D a v) : RepA w D a v []
  | own0 (a : Option Addr) (cap : Nat) : RepA w D (.own []) (.slice a 0 cap) []
  | own (es : Rows) (blk off cap sz : Nat) (cs : Array Value) (el : TypeId) (f : Nat → Nat → Value) (hne : es ≠ []) (h0 : 0 < sz) (hc : es.length ≤ cap)
      (hfit : off + cap * sz ≤ cs.size) (hheap : w.heap[blk]? = some (.cells cs el (0, 0))) (hsz : ∀ i (h : i < es.length), es[i].length = sz)
      (hcell : ∀ i (h : i < es.length) j (hj : j < es[i].length), cs[off + i * sz + j]? = some (f i j))
      (h1 : ∀ i (h : i < es.length) j (hj : j < es[i].length), (f i j).oneCell' = true)
      (hr : ∀ i (h : i < es.length) j (hj : j < es[i].length), RepI w D es[i][j] (f i j)) :
      RepA w D (.own es) (.slice (some ⟨blk, off, none⟩) es.length cap) [blk]
  | iface (t : TypeId) (a : AV) (v : Value) (os : List Nat) (h : RepA w D a v os) : RepA w D (.iface t a) (.iface t v) os
  | agg (cs : List AV) (vs : Array Value) (hl : cs.length = vs.size) (h1 : ∀ i (h : i < vs.size), vs[i].oneCell' = true) (oss : List (List Nat)) (ho : oss.length = cs.length)
      (hr : ∀ i (h : i < cs.length), RepA w D cs[i] (vs[i]'(hl ▸ h)) (oss[i]'(ho ▸ h))) : RepA w D (.agg cs) (.agg vs) oss.flatten
  | tuple (cs : List AV) (vs : Array Value) (hl : cs.length = vs.size) (oss : List (List Nat)) (ho : oss.length = cs.length)
      (hr : ∀ i (h : i < cs.length), RepA w D cs[i] (vs[i]'(hl ▸ h)) (oss[i]'(ho ▸ h))) : RepA w D (.tuple cs) (.tuple vs) oss.flatten

inductive Named (c : Cx) : List Nat → List Nat → Prop
  | nil : Named c [] []
  | skip (b : Nat) {ts os : List Nat} (h : Named c ts os) : Named c (b :: ts) os
  | keep (b u : Nat) (l : Loc) (hl : c.ρ b u = some l) {ts os : List Nat} (h : Named c ts os) : Named c (b :: ts) (l.blk :: os)

theorem Named.none (c : Cx) : ∀ ts, Named c ts []
  | [] => .nil
  | b :: ts => .skip b (Named.none c ts)

theorem Named.append {ts os ts' os' : List Nat} (h : Named c ts os) (h' : Named c ts' os') : Named c (ts ++ ts') (os ++ os') := by
  induction h with
  | nil => exact h'
  | skip b h ih => exact .skip b ih
  | keep b u l hl h ih => exact .keep b u l hl ih

theorem Named.mem {ts os : List Nat} (h : Named c ts os) {k : Nat} (hk : k ∈ os) : ∃ b, b ∈ ts ∧ ∃ u l, c.ρ b u = some l ∧ l.blk = k := by
  induction h with
  | nil => cases hk
  | skip b h ih => obtain ⟨b', h1, h2⟩ := ih hk; exact ⟨b', by simp [h1], h2⟩
  | keep b u l hl h ih =>
    simp only [List.mem_cons] at hk
    rcases hk with rfl | hk
    · exact ⟨b, by simp, u, l, hl, rfl⟩
    · obtain ⟨b', h1, h2⟩ := ih hk; exact ⟨b', by simp [h1], h2⟩

theorem nodup_cons {b : Nat} {l : List Nat} (h : nodup (b :: l) = true) : b ∉ l ∧ nodup l = true := by
  simp only [nodup, Bool.and_eq_true, Bool.not_eq_true'] at h
  refine ⟨fun hm => ?_, h.2⟩
  have : (l.any (Nat.beq b)) = true := List.any_eq_true.2 ⟨b, hm, Nat.beq_refl b⟩
  rw [this] at h
  cases h.1

theorem Named.nodup (g : Good c B H) {ts os : List Nat} (h : Named c ts os) (hn : nodup ts = true) : os.Nodup := by
  induction h with
  | nil => exact List.nodup_nil
  | skip b h ih => exact ih (nodup_cons hn).2
  | keep b u l hl h ih =>
    obtain ⟨h1, h2⟩ := nodup_cons hn
    refine List.nodup_cons.2 ⟨fun hm => ?_, ih h2⟩
    obtain ⟨b', hb', u', l', hl', e⟩ := h.mem hm
    exact h1 ((g.inj _ _ _ _ _ _ hl hl' e.symm).1 ▸ hb')

/-- Lists of results. -/
theorem give_list {f : AV → Option AV} {tp : AV → List Nat} {w : World} {D2 : Nat → Prop} : ∀ {l l' : List AV} {vs : List Value}, frzAll f l = some l' → RepL c l vs →
    (∀ a, a ∈ l → ∀ a' v, f a = some a' → Rep c a v → ∃ os, RepA w D2 a' v os ∧ Named c (tp a) os) →
    ∃ (e : l'.length = vs.length) (oss : List (List Nat)) (ho : oss.length = l'.length), (∀ i (h : i < l'.length), RepA w D2 l'[i] (vs[i]'(e ▸ h)) (oss[i]'(ho ▸ h))) ∧ Named c (metAll tp l) oss.flatten
  | [], l', vs, h, hr, _ => by
    cases h
    refine ⟨hr.1, [], rfl, fun i h => absurd h (by simp), .nil⟩
  | a :: l, l', [], h, hr, _ => absurd hr.1 (by simp)
  | a :: l, l', v :: vs, h, hr, hall => by
    simp only [frzAll, Option.bind_eq_some_iff] at h
    obtain ⟨x, hx, xs, hxs, e⟩ := h
    cases e
    obtain ⟨e, oss, ho, h1, h2⟩ := give_list hxs hr.tail (fun a ha => hall a (by simp [ha]))
    obtain ⟨os, h3, h4⟩ := hall a (by simp) x v hx hr.head
    refine ⟨by simp [e], os :: oss, by simp [ho], fun i hi => ?_, ?_⟩
    · cases i with
      | zero => exact h3
      | succ i => exact h1 i (by simpa using hi)
    · simp only [metAll, List.flatten_cons]
      exact h4.append h2

theorem give_rep {D2 : Nat → Prop} (g : Good c B H) (hD : ∀ k, c.D k → D2 k) : ∀ (d : Nat) {a a' : AV} {v : Value}, give d H a = some a' → Rep c a v → (∀ b, b ∈ unders H d a → ∀ u l, c.ρ b u = some l → D2 l.blk) →
    ∃ os, RepA c.w D2 a' v os ∧ Named c (tops d a) os
  | 0, a, a', v, h, _, _ => by simp [give] at h
  | d + 1, a, a', v, h, ha, hm => by
    have ih := fun {a a' : AV} {v : Value} => give_rep g hD d (a := a) (a' := a') (v := v)
    cases a with
    | sl b u o n =>
      simp only [give, Option.bind_eq_some_iff] at h
      obtain ⟨rows, hrows, rows', hrows', e⟩ := h
      cases e
      obtain ⟨l, cap, cs, rfl, hl, hn, hcap, h0, hfit, hheap, hsz, f, hcell⟩ := own_rows g ha hrows
      obtain ⟨e, hg⟩ := frzRows_get hrows'
      rcases Classical.em (rows' = []) with hz | hz
      · subst hz
        have hn0 : n = 0 := by simp at e; omega
        subst hn0
        exact ⟨[], .own0 _ _, Named.none c _⟩
      · have hlen : ∀ i (h : i < rows'.length), rows'[i].length = l.sz := fun i h => by
          obtain ⟨e2, _⟩ := frzAll_get (hg i h)
          rw [e2, hsz i (e ▸ h)]
        have hel : ∀ i (h : i < rows'.length) j (hj : j < rows'[i].length), ∃ (h2 : i < rows.length) (h3 : j < rows[i].length), frz d H rows[i][j] = some rows'[i][j] := fun i h j hj => by
          obtain ⟨e2, hg2⟩ := frzAll_get (hg i h)
          exact ⟨e ▸ h, e2 ▸ hj, hg2 j hj⟩
        have hr := RepA.own (w := c.w) (D := D2) rows' l.blk (l.off + o * l.sz) cap l.sz cs l.el f hz h0 (by rw [e, hn]; exact hcap) (by rw [Nat.add_mul] at hfit; omega) hheap hlen
          (fun i h j hj => by
            obtain ⟨h2, h3, _⟩ := hel i h j hj
            exact (hcell i h2 j h3).1)
          (fun i h j hj => by
            obtain ⟨h2, h3, _⟩ := hel i h j hj
            exact (hcell i h2 j h3).2.1)
          (fun i h j hj => by
            obtain ⟨h2, h3, h4⟩ := hel i h j hj
            exact frz_rep g hD d h4 (hcell i h2 j h3).2.2 (fun b' hb' u' q hq => hm b' (by
              simp only [unders, hrows]
              exact metRows_mem h2 (metAll_mem h3 hb')) u' q hq))
        rw [e, hn] at hr
        exact ⟨[l.blk], hr, .keep b u l hl .nil⟩
    | agg cs =>
      simp only [give, Option.bind_eq_some_iff] at h
      obtain ⟨cs', hcs, e⟩ := h
      cases e
      obtain ⟨vs, hl, rfl, h1, hr⟩ := ha.agg_eq
      obtain ⟨e, oss, ho, h2, h3⟩ := give_list (tp := tops d) (w := c.w) (D2 := D2) hcs (repL_of_array hl hr) (fun a ha' a' v hf hv => ih hf hv (fun b hb u q hq => by
        obtain ⟨i, hi, rfl⟩ := List.getElem_of_mem ha'
        exact hm b (by simp only [unders]; exact metAll_mem hi hb) u q hq))
      exact ⟨_, .agg cs' vs (by simpa using e) h1 oss ho (fun i h => by simpa using h2 i h), by simpa [tops] using h3⟩
    | tuple cs =>
      simp only [give, Option.bind_eq_some_iff] at h
      obtain ⟨cs', hcs, e⟩ := h
      cases e
      obtain ⟨vs, hl, rfl, hr⟩ := ha.tuple_eq
      obtain ⟨e, oss, ho, h2, h3⟩ := give_list (tp := tops d) (w := c.w) (D2 := D2) hcs (repL_of_array hl hr) (fun a ha' a' v hf hv => ih hf hv (fun b hb u q hq => by
        obtain ⟨i, hi, rfl⟩ := List.getElem_of_mem ha'
        exact hm b (by simp only [unders]; exact metAll_mem hi hb) u q hq))
      exact ⟨_, .tuple cs' vs (by simpa using e) oss ho (fun i h => by simpa using h2 i h), by simpa [tops] using h3⟩
    | iface t x =>
      simp only [give, Option.bind_eq_some_iff] at h
      obtain ⟨x', hx, e⟩ := h
      cases e
      obtain ⟨u, rfl, hr⟩ := ha.iface_eq
      obtain ⟨os, h1, h2⟩ := ih hx hr (fun b hb => hm b (by simpa [unders] using hb))
      exact ⟨os, .iface t x' u os h1, by simpa [tops] using h2⟩
    | _ =>
      refine ⟨[], .imm (frz_rep g hD d (by simpa only [give] using h) ha (fun b hb => hm b (by simpa only [unders] using hb))), Named.none c _⟩

/-! ### What leads nowhere -/
theorem lstAll_get {f : AV → Bool} : ∀ {l : List AV}, lstAll f l = false → ∀ i (h : i < l.length), f l[i] = false
  | [], _, i, h => absurd h (by simp)
  | a :: l, hl, i, h => by
    simp only [lstAll, Bool.or_eq_false_iff] at hl
    cases i with
    | zero => exact hl.1
    | succ i => exact lstAll_get hl.2 i (by simpa using h)

theorem lstRows_get {f : AV → Bool} : ∀ {l : Rows}, lstRows f l = false → ∀ i (h : i < l.length), lstAll f l[i] = false
  | [], _, i, h => absurd h (by simp)
  | a :: l, hl, i, h => by
    simp only [lstRows, Bool.or_eq_false_iff] at hl
    cases i with
    | zero => exact hl.1
    | succ i => exact lstRows_get hl.2 i (by simpa using h)

theorem hasLst_repI {w : World} {D : Nat → Prop} (D0 : Nat → Prop) : ∀ (d : Nat) {a : AV} {v : Value}, hasLst d a = false → RepI w D a v → RepI w D0 a v
  | 0, a, v, h, _ => by simp [hasLst] at h
  | d + 1, a, v, h, ha => by
    cases ha with
    | int k n => exact .int k n
    | bool b => exact .bool b
    | str s => exact .str s
    | flt k n => exact .flt k n
    | nilptr => exact .nilptr
    | nilfn => exact .nilfn
    | nilif => exact .nilif
    | lst0 full a cap h' => exact .lst0 full a cap h'
    | lst es full blk off cap sz f hne => simp [hasLst, hne] at h
    | vptr => simp [hasLst] at h
    | mp => simp [hasLst] at h
    | mp0 => exact .mp0
    | func => simp [hasLst] at h
    | iface t a v ha => exact .iface t a v (hasLst_repI D0 d (by simpa [hasLst] using h) ha)
    | agg cs vs hl h1 hr =>
      have h' := lstAll_get (f := hasLst d) (l := cs) (by simpa [hasLst] using h)
      exact .agg cs vs hl h1 (fun i hi => hasLst_repI D0 d (h' i hi) (hr i hi))
    | tuple cs vs hl hr =>
      have h' := lstAll_get (f := hasLst d) (l := cs) (by simpa [hasLst] using h)
      exact .tuple cs vs hl (fun i hi => hasLst_repI D0 d (h' i hi) (hr i hi))

theorem hasLst_repA {w : World} {D : Nat → Prop} (D0 : Nat → Prop) : ∀ (d : Nat) {a : AV} {v : Value} {os : List Nat}, hasLst d a = false → RepA w D a v os → RepA w D0 a v os
  | 0, a, v, os, h, _ => by simp [hasLst] at h
  | d + 1, a, v, os, h, ha => by
    cases ha with
    | imm hi => exact .imm (hasLst_repI D0 (d + 1) h hi)
    | own0 a cap => exact .own0 a cap
    | own es blk off cap sz cs el f hne h0 hc hfit hheap hsz hcell h1 hr =>
      have h' := lstRows_get (f := hasLst d) (l := es) (by simpa [hasLst] using h)
      exact .own es blk off cap sz cs el f hne h0 hc hfit hheap hsz hcell h1 (fun i hi j hj => hasLst_repI D0 d (lstAll_get (h' i hi) j hj) (hr i hi j hj))
    | iface t a v os ha => exact .iface t a v os (hasLst_repA D0 d (by simpa [hasLst] using h) ha)
    | agg cs vs hl h1 oss ho hr =>
      have h' := lstAll_get (f := hasLst d) (l := cs) (by simpa [hasLst] using h)
      exact .agg cs vs hl h1 oss ho (fun i hi => hasLst_repA D0 d (h' i hi) (hr i hi))
    | tuple cs vs hl oss ho hr =>
      have h' := lstAll_get (f := hasLst d) (l := cs) (by simpa [hasLst] using h)
      exact .tuple cs vs hl oss ho (fun i hi => hasLst_repA D0 d (h' i hi) (hr i hi))

theorem RepA.mono {w : World} {D D' : Nat → Prop} (hD : ∀ k, D k → D' k) {a : AV} {v : Value} {os : List Nat} (h : RepA w D a v os) : RepA w D' a v os := by
  induction h with
  | imm h => exact .imm (h.mono (fun _ _ => rfl) hD)
  | own0 a cap => exact .own0 a cap
  | own es blk off cap sz cs el f hne h0 hc hfit hheap hsz hcell h1 hr =>
    exact .own es blk off cap sz cs el f hne h0 hc hfit hheap hsz hcell h1 (fun i hi j hj => (hr i hi j hj).mono (fun _ _ => rfl) hD)
  | iface t a v os h ih => exact .iface t a v os ih
  | agg cs vs hl h1 oss ho hr ih => exact .agg cs vs hl h1 oss ho ih
  | tuple cs vs hl oss ho hr ih => exact .tuple cs vs hl oss ho ih

/-! ### Own slices as lists -/
theorem settle_repI {w : World} {D : Nat → Prop} : ∀ (d : Nat) {a : AV} {v : Value}, RepI w D a v → RepI w D (settle d a) v
  | 0, a, v, h => h
  | d + 1, a, v, h => by
    cases h with
    | agg cs vs hl h1 hr => exact .agg _ vs (by simpa using hl) h1 (fun i hi => by simpa using settle_repI d (hr i (by simpa using hi)))
    | tuple cs vs hl hr => exact .tuple _ vs (by simpa using hl) (fun i hi => by simpa using settle_repI d (hr i (by simpa using hi)))
    | iface t a v h => exact .iface t _ v (settle_repI d h)
    | int k n => exact .int k n
    | bool b => exact .bool b
    | str s => exact .str s
    | flt k n => exact .flt k n
    | nilptr => exact .nilptr
    | nilfn => exact .nilfn
    | nilif => exact .nilif
    | lst0 full a cap h => exact .lst0 full a cap h
    | lst es full blk off cap sz f h1 h2 h3 h4 h5 h6 h7 h8 => exact .lst es full blk off cap sz f h1 h2 h3 h4 h5 h6 h7 h8
    | vptr r o blk off f h1 h2 h3 h4 => exact .vptr r o blk off f h1 h2 h3 h4
    | mp es r ents clock h1 h2 h3 h4 h5 => exact .mp es r ents clock h1 h2 h3 h4 h5
    | mp0 => exact .mp0
    | func fn x y X Y h1 h2 h3 h4 => exact .func fn x y X Y h1 h2 h3 h4

theorem mem_flatten_get {oss : List (List Nat)} {i : Nat} (hi : i < oss.length) {k : Nat} (hk : k ∈ oss[i]) : k ∈ oss.flatten :=
  List.mem_flatten.2 ⟨oss[i], List.getElem_mem hi, hk⟩

theorem RepA.inner {w : World} {D : Nat → Prop} {a : AV} {v : Value} {os : List Nat} (h : RepA w D a v os) (h1 : ∀ es, a ≠ .own es) (h2 : ∀ t x, a ≠ .iface t x) (h3 : ∀ cs, a ≠ .agg cs) (h4 : ∀ cs, a ≠ .tuple cs) : RepI w D a v ∧ os = [] := by
  cases h with
  | imm h => exact ⟨h, rfl⟩
  | own0 => exact absurd rfl (h1 _)
  | own es => exact absurd rfl (h1 _)
  | iface t a v os h => exact absurd rfl (h2 _ _)
  | agg cs => exact absurd rfl (h3 _)
  | tuple cs => exact absurd rfl (h4 _)

/-- What 'frz' answers for what is no row of cells, tuple, interface value. -/
theorem frz_plain {d : Nat} {a a' : AV} (h : frz d H a = some a') (h1 : ∀ t x, a ≠ .iface t x) (h2 : ∀ cs, a ≠ .agg cs) (h3 : ∀ cs, a ≠ .tuple cs) : (∀ es, a' ≠ .own es) ∧ (∀ t x, a' ≠ .iface t x) ∧ (∀ cs, a' ≠ .agg cs) ∧ (∀ cs, a' ≠ .tuple cs) := by
  cases d with
  | zero => simp [frz] at h
  | succ d =>
    cases a with
    | iface t x => exact absurd rfl (h1 _ _)
    | agg cs => exact absurd rfl (h2 _)
    | tuple cs => exact absurd rfl (h3 _)
    | sl b u o n =>
      simp only [frz, Option.bind_eq_some_iff] at h
      obtain ⟨_, _, _, _, e⟩ := h
      cases e; simp
    | func f x y =>
      simp only [frz, Option.bind_eq_some_iff] at h
      obtain ⟨_, _, _, _, e⟩ := h
      cases e; simp
    | mref b =>
      simp only [frz] at h
      split at h
      · simp only [Option.bind_eq_some_iff] at h
        obtain ⟨_, _, e⟩ := h
        cases e; simp
      · cases h
    | ptr => simp [frz] at h
    | own => simp [frz] at h
    | _ => simp only [frz] at h; cases h; simp

theorem settle_plain {d : Nat} {a : AV} (h1 : ∀ es, a ≠ .own es) (h2 : ∀ t x, a ≠ .iface t x) (h3 : ∀ cs, a ≠ .agg cs) (h4 : ∀ cs, a ≠ .tuple cs) : settle d a = a := by
  cases d with
  | zero => rfl
  | succ d => cases a <;> first | rfl | exact absurd rfl (h1 _) | exact absurd rfl (h2 _ _) | exact absurd rfl (h3 _) | exact absurd rfl (h4 _)

theorem settle_give {w : World} {D D2 : Nat → Prop} (hD : ∀ k, D k → D2 k) : ∀ (d : Nat) {a a' : AV} {v : Value} {os : List Nat}, give d H a = some a' → RepA w D a' v os → (∀ k, k ∈ os → D2 k) → RepI w D2 (settle d a') v
  | 0, a, a', v, os, h, _, _ => by simp [give] at h
  | d + 1, a, a', v, os, h, ha, ho => by
    cases a with
    | sl b u o n =>
      simp only [give, Option.bind_eq_some_iff] at h
      obtain ⟨rows, hrows, rows', hrows', e⟩ := h
      cases e
      cases ha with
      | imm h => cases h
      | own0 a cap => exact .lst0 false a cap (fun h => by cases h)
      | own es blk off cap sz cs el f hne h0 hc hfit hheap hsz hcell h1 hr =>
        exact .lst _ false blk off cap sz f hne (ho blk (by simp)) hsz (fun h => by cases h) hc (fun i h j hj => by
          have := hcell i h j hj
          simp only [World.cell?, hheap]
          simpa using this) h1 (fun i h j hj => (hr i h j hj).mono (fun _ _ => rfl) hD)
    | agg cs =>
      simp only [give, Option.bind_eq_some_iff] at h
      obtain ⟨cs', hcs, e⟩ := h
      cases e
      cases ha with
      | imm h => exact settle_repI (d + 1) (h.mono (fun _ _ => rfl) hD)
      | agg cs vs hl h1 oss ho2 hr =>
        obtain ⟨e, hg⟩ := frzAll_get hcs
        exact .agg _ vs (by simpa using hl) h1 (fun i hi => by
          have hi' : i < cs'.length := by simpa using hi
          simpa using settle_give hD d (hg i hi') (hr i hi') (fun k hk => ho k (mem_flatten_get _ hk)))
    | tuple cs =>
      simp only [give, Option.bind_eq_some_iff] at h
      obtain ⟨cs', hcs, e⟩ := h
      cases e
      cases ha with
      | imm h => exact settle_repI (d + 1) (h.mono (fun _ _ => rfl) hD)
      | tuple cs vs hl oss ho2 hr =>
        obtain ⟨e, hg⟩ := frzAll_get hcs
        exact .tuple _ vs (by simpa using hl) (fun i hi => by
          have hi' : i < cs'.length := by simpa using hi
          simpa using settle_give hD d (hg i hi') (hr i hi') (fun k hk => ho k (mem_flatten_get _ hk)))
    | iface t x =>
      simp only [give, Option.bind_eq_some_iff] at h
      obtain ⟨x', hx, e⟩ := h
      cases e
      cases ha with
      | imm h => exact settle_repI (d + 1) (h.mono (fun _ _ => rfl) hD)
      | iface t a v os h => exact .iface t _ v (settle_give hD d hx h ho)
    | _ =>
      simp only [give] at h
      obtain ⟨q1, q2, q3, q4⟩ := frz_plain h (by simp) (by simp) (by simp)
      rw [settle_plain q1 q2 q3 q4]
      exact (ha.inner q1 q2 q3 q4).1.mono (fun _ _ => rfl) hD

end Go.Abs
