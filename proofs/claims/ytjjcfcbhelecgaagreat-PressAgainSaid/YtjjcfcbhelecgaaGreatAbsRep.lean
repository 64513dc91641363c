/- How an abstract value stands for a machine's one, and how a heap of own blocks for the machine's memory; what a step may change.
   Conditions: none (definitions, and how they are handed on). -/
import Derived.Test.YtjjcfcbhelecgaaGreatAbsDef
import Derived.Orders
import Derived.LoopN
import Derived.RowKit3
import Derived.Laws.Cells
import Derived.Laws.World
import Derived.Below
import Derived.Laws.CopyRow
import Derived.Laws.AppendOwn
set_option linter.unusedVariables false
namespace Go.Abs

/-! ### Values -/
/-- A value that leads to no block of the call's own: its memory lies in the blocks D. -/
inductive RepI (w : World) (D : Nat → Prop) : AV → Value → Prop
  | int (k : IntKind) (n : Int) : RepI w D (.int k n) (.int k n)
  | bool (b : Bool) : RepI w D (.bool b) (.bool b)
  | str (s : ByteArray) : RepI w D (.str s) (.string s)
  | flt (k : FloatKind) (n : Nat) : RepI w D (.flt k n) (.float k n)
  | nilptr : RepI w D .nilptr (.pointer none)
  | nilfn : RepI w D .nilfn .nilFunc
  | nilif : RepI w D .nilif .nilIface
  | lst0 (full : Bool) (a : Option Addr) (cap : Nat) (h : full = true → cap = 0) : RepI w D (.lst [] full) (.slice a 0 cap)
  | lst (es : Rows) (full : Bool) (blk off cap sz : Nat) (f : Nat → Nat → Value) (hne : es ≠ []) (hD : D blk)
      (hsz : ∀ i (h : i < es.length), es[i].length = sz) (hf : full = true → cap = es.length ∧ ∃ cs el, w.heap[blk]? = some (.cells cs el (0, 0))) (hc : es.length ≤ cap)
      (hcell : ∀ i (h : i < es.length) j (hj : j < es[i].length), w.cell? ⟨blk, off + i * sz + j, none⟩ = some (f i j))
      (h1 : ∀ i (h : i < es.length) j (hj : j < es[i].length), (f i j).oneCell' = true)
      (hr : ∀ i (h : i < es.length) j (hj : j < es[i].length), RepI w D es[i][j] (f i j)) :
      RepI w D (.lst es full) (.slice (some ⟨blk, off, none⟩) es.length cap)
  | vptr (r : Row) (o blk off : Nat) (f : Nat → Value) (hD : D blk)
      (hcell : ∀ j (hj : j < r.length), w.cell? ⟨blk, off + j, none⟩ = some (f j))
      (h1 : ∀ j (hj : j < r.length), (f j).oneCell' = true)
      (hr : ∀ j (hj : j < r.length), RepI w D r[j] (f j)) :
      RepI w D (.vptr r o) (.pointer (some ⟨blk, off + o, none⟩))
  | mp (es : List (Int × AV)) (r : Nat) (ents : Array MapEntry) (clock : Nat) (hD : D r) (hb : w.heap[r]? = some (.map ents clock))
      (hl : es.length = ents.size)
      (hk : ∀ i (h : i < es.length), (ents[i]'(hl ▸ h)).key = .int .i64 es[i].1)
      (hr : ∀ i (h : i < es.length), RepI w D es[i].2 (ents[i]'(hl ▸ h)).val) :
      RepI w D (.mp es) (.map (some r))
  | mp0 : RepI w D (.mp []) (.map none)
  | func (fn : Fn) (x y : List AV) (X Y : Array Value) (hx : x.length = X.size) (hy : y.length = Y.size)
      (rx : ∀ i (h : i < x.length), RepI w D x[i] (X[i]'(hx ▸ h))) (ry : ∀ i (h : i < y.length), RepI w D y[i] (Y[i]'(hy ▸ h))) :
      RepI w D (.func fn x y) (.func fn X Y)
  | iface (t : TypeId) (a : AV) (v : Value) (h : RepI w D a v) : RepI w D (.iface t a) (.iface t v)
  | agg (cs : List AV) (vs : Array Value) (hl : cs.length = vs.size) (h1 : ∀ i (h : i < vs.size), vs[i].oneCell' = true)
      (hr : ∀ i (h : i < cs.length), RepI w D cs[i] (vs[i]'(hl ▸ h))) : RepI w D (.agg cs) (.agg vs)
  | tuple (cs : List AV) (vs : Array Value) (hl : cs.length = vs.size)
      (hr : ∀ i (h : i < cs.length), RepI w D cs[i] (vs[i]'(hl ▸ h))) : RepI w D (.tuple cs) (.tuple vs)

theorem RepI.mono {w w' : World} {D D' : Nat → Prop} (hw : ∀ k, D k → w'.heap[k]? = w.heap[k]?) (hD : ∀ k, D k → D' k) {a : AV} {v : Value}
    (h : RepI w D a v) : RepI w' D' a v := by
  have hcell : ∀ (p : Addr), D p.block → w'.cell? p = w.cell? p := fun p hp => World.cell?_of_block (w := w) (hw _ hp)
  induction h with
  | int k n => exact .int k n
  | bool b => exact .bool b
  | str s => exact .str s
  | flt k n => exact .flt k n
  | nilptr => exact .nilptr
  | nilfn => exact .nilfn
  | nilif => exact .nilif
  | lst0 full a cap h => exact .lst0 full a cap h
  | lst es full blk off cap sz f hne hb hsz hf hc hce h1 hr ih =>
    exact .lst es full blk off cap sz f hne (hD _ hb) hsz (fun e => ⟨(hf e).1, by obtain ⟨cs, el, h⟩ := (hf e).2; exact ⟨cs, el, (hw _ hb).trans h⟩⟩) hc (fun i h j hj => (hcell _ hb).trans (hce i h j hj)) h1 (fun i h j hj => ih i h j hj)
  | vptr r o blk off f hb hce h1 hr ih => exact .vptr r o blk off f (hD _ hb) (fun j hj => (hcell _ hb).trans (hce j hj)) h1 (fun j hj => ih j hj)
  | mp es r ents clock hb he hl hk hr ih => exact .mp es r ents clock (hD _ hb) ((hw _ hb).trans he) hl hk (fun i h => ih i h)
  | mp0 => exact .mp0
  | func fn x y X Y hx hy rx ry ihx ihy => exact .func fn x y X Y hx hy (fun i h => ihx i h) (fun i h => ihy i h)
  | iface t a v h ih => exact .iface t a v ih
  | agg cs vs hl h1 hr ih => exact .agg cs vs hl h1 (fun i h => ih i h)
  | tuple cs vs hl hr ih => exact .tuple cs vs hl (fun i h => ih i h)

/-- Where a block of the call's own lies: the machine's block, the first cell, the cells of an element, how many cells the machine's block has, of what type. -/
structure Loc where
  blk : Nat
  off : Nat
  sz : Nat
  csz : Nat
  el : TypeId

/-- A world, the blocks that are not written any more, where the named blocks lie, and which names are known. -/
structure Cx where
  w : World
  D : Nat → Prop
  ρ : Nat → Nat → Option Loc
  N : Nat → Nat → Prop

inductive Rep (c : Cx) : AV → Value → Prop
  | imm {a : AV} {v : Value} (h : RepI c.w c.D a v) : Rep c a v
  | ptr (b u i o : Nat) (hN : c.N b u) (a : Addr) (h : ∀ l, c.ρ b u = some l → a = ⟨l.blk, l.off + i * l.sz + o, none⟩) : Rep c (.ptr b u i o) (.pointer (some a))
  | sl (b u o n : Nat) (hN : c.N b u) (a : Addr) (cap : Nat) (hc : n ≤ cap)
      (h : ∀ l, c.ρ b u = some l → a = ⟨l.blk, l.off + o * l.sz, none⟩ ∧ l.off + (o + cap) * l.sz ≤ l.csz) : Rep c (.sl b u o n) (.slice (some a) n cap)
  | mref (b : Nat) (hN : c.N b 0) (r : Nat) (h : ∀ l, c.ρ b 0 = some l → r = l.blk) : Rep c (.mref b) (.map (some r))
  | func (fn : Fn) (x y : List AV) (X Y : Array Value) (hx : x.length = X.size) (hy : y.length = Y.size)
      (rx : ∀ i (h : i < x.length), Rep c x[i] (X[i]'(hx ▸ h))) (ry : ∀ i (h : i < y.length), Rep c y[i] (Y[i]'(hy ▸ h))) :
      Rep c (.func fn x y) (.func fn X Y)
  | iface (t : TypeId) (a : AV) (v : Value) (h : Rep c a v) : Rep c (.iface t a) (.iface t v)
  | agg (cs : List AV) (vs : Array Value) (hl : cs.length = vs.size) (h1 : ∀ i (h : i < vs.size), vs[i].oneCell' = true)
      (hr : ∀ i (h : i < cs.length), Rep c cs[i] (vs[i]'(hl ▸ h))) : Rep c (.agg cs) (.agg vs)
  | tuple (cs : List AV) (vs : Array Value) (hl : cs.length = vs.size)
      (hr : ∀ i (h : i < cs.length), Rep c cs[i] (vs[i]'(hl ▸ h))) : Rep c (.tuple cs) (.tuple vs)

theorem Rep.mono {c c' : Cx} (hw : ∀ k, c.D k → c'.w.heap[k]? = c.w.heap[k]?) (hD : ∀ k, c.D k → c'.D k)
    (hN : ∀ b u, c.N b u → c'.N b u) (hρ : ∀ b u l, c.N b u → c'.ρ b u = some l → c.ρ b u = some l) {a : AV} {v : Value}
    (h : Rep c a v) : Rep c' a v := by
  induction h with
  | imm h => exact .imm (h.mono hw hD)
  | ptr b u i o hn a h => exact .ptr b u i o (hN _ _ hn) a (fun l hl => h l (hρ _ _ _ hn hl))
  | sl b u o n hn a cap hc h => exact .sl b u o n (hN _ _ hn) a cap hc (fun l hl => h l (hρ _ _ _ hn hl))
  | mref b hn r h => exact .mref b (hN _ _ hn) r (fun l hl => h l (hρ _ _ _ hn hl))
  | func fn x y X Y hx hy rx ry ihx ihy => exact .func fn x y X Y hx hy (fun i h => ihx i h) (fun i h => ihy i h)
  | iface t a v h ih => exact .iface t a v ih
  | agg cs vs hl h1 hr ih => exact .agg cs vs hl h1 (fun i h => ih i h)
  | tuple cs vs hl hr ih => exact .tuple cs vs hl (fun i h => ih i h)

/-- A list of values. -/
def RepL (c : Cx) (as : List AV) (vs : List Value) : Prop := ∃ h : as.length = vs.length, ∀ i (hi : i < as.length), Rep c as[i] (vs[i]'(h ▸ hi))

theorem RepL.nil (c : Cx) : RepL c [] [] := ⟨rfl, fun i h => absurd h (by simp)⟩
theorem RepL.cons {c : Cx} {a : AV} {v : Value} {as : List AV} {vs : List Value} (h : Rep c a v) (t : RepL c as vs) : RepL c (a :: as) (v :: vs) := by
  obtain ⟨e, t⟩ := t
  refine ⟨by simp [e], fun i hi => ?_⟩
  cases i with
  | zero => exact h
  | succ i => exact t i (by simpa using hi)
theorem RepL.head {c : Cx} {a : AV} {v : Value} {as : List AV} {vs : List Value} (t : RepL c (a :: as) (v :: vs)) : Rep c a v := t.2 0 (by simp)
theorem RepL.tail {c : Cx} {a : AV} {v : Value} {as : List AV} {vs : List Value} (t : RepL c (a :: as) (v :: vs)) : RepL c as vs := by
  obtain ⟨e, t⟩ := t
  exact ⟨by simpa using e, fun i hi => t (i + 1) (by simpa using hi)⟩
theorem RepL.append {c : Cx} {as bs : List AV} {vs us : List Value} (h : RepL c as vs) (t : RepL c bs us) : RepL c (as ++ bs) (vs ++ us) := by
  induction as generalizing vs with
  | nil => cases vs with
    | nil => exact t
    | cons v vs => have := h.1; simp at this
  | cons a as ih => cases vs with
    | nil => have := h.1; simp at this
    | cons v vs => exact .cons h.head (ih h.tail)
theorem RepL.mono {c c' : Cx} (hw : ∀ k, c.D k → c'.w.heap[k]? = c.w.heap[k]?) (hD : ∀ k, c.D k → c'.D k)
    (hN : ∀ b u, c.N b u → c'.N b u) (hρ : ∀ b u l, c.N b u → c'.ρ b u = some l → c.ρ b u = some l) {as : List AV} {vs : List Value}
    (h : RepL c as vs) : RepL c' as vs := ⟨h.1, fun i hi => (h.2 i hi).mono hw hD hN hρ⟩

/-! ### Memory -/
/-- What a block of the call's own holds, in the machine. -/
def HasBlk (c : Cx) (l : Loc) : Kind → Prop
  | .cells sz es => l.sz = sz ∧ 0 < sz ∧ l.off + es.length * sz ≤ l.csz ∧ (∀ i (h : i < es.length), es[i].length = sz) ∧
      ∃ (cs : Array Value) (f : Nat → Nat → Value), c.w.heap[l.blk]? = some (.cells cs l.el (0, 0)) ∧ cs.size = l.csz ∧
        ∀ i (h : i < es.length) j (hj : j < es[i].length), cs[l.off + i * sz + j]? = some (f i j) ∧ (f i j).oneCell' = true ∧ Rep c es[i][j] (f i j)
  | .mp es => ∃ (ents : Array MapEntry) (clock : Nat), c.w.heap[l.blk]? = some (.map ents clock) ∧ ∃ hl : es.length = ents.size,
      (∀ i (h : i < es.length), (ents[i]'(hl ▸ h)).key = .int .i64 es[i].1) ∧ ∀ i (h : i < es.length), Rep c es[i].2 (ents[i]'(hl ▸ h)).val
  | .gone => True

def writable (H : Heap) (b : Nat) : Prop := ∃ k, H[b]? = some k ∧ k.kind.isGone = false ∧ k.ro = false

theorem writable_lt {H : Heap} {b : Nat} (h : writable H b) : b < H.length := by
  obtain ⟨k, hk, _⟩ := h
  exact (List.getElem?_eq_some_iff.1 hk).1

theorem HasBlk.mono {c c' : Cx} (hw : ∀ k, c.D k → c'.w.heap[k]? = c.w.heap[k]?) (hD : ∀ k, c.D k → c'.D k)
    (hN : ∀ b u, c.N b u → c'.N b u) (hρ : ∀ b u l, c.N b u → c'.ρ b u = some l → c.ρ b u = some l) {l : Loc} {k : Kind}
    (hb : c'.w.heap[l.blk]? = c.w.heap[l.blk]?) (h : HasBlk c l k) : HasBlk c' l k := by
  cases k with
  | cells sz es =>
    obtain ⟨h1, h2, h3, h4, cs, f, h5, h6, h7⟩ := h
    exact ⟨h1, h2, h3, h4, cs, f, hb.trans h5, h6, fun i h j hj => ⟨(h7 i h j hj).1, (h7 i h j hj).2.1, (h7 i h j hj).2.2.mono hw hD hN hρ⟩⟩
  | mp es =>
    obtain ⟨ents, clock, h1, hl, h2, h3⟩ := h
    exact ⟨ents, clock, hb.trans h1, hl, h2, fun i h => (h3 i h).mono hw hD hN hρ⟩
  | gone => trivial

/-- A heap of own blocks, as it lies in the machine's memory. (B: no name is given up to there but to new blocks.) -/
structure Good (c : Cx) (B : Nat) (H : Heap) : Prop where
  le : H.length ≤ B
  nm : ∀ b u, c.N b u → b < H.length ∨ B ≤ b
  ver : ∀ b u k, c.N b u → H[b]? = some k → k.kind.isGone = false → u ≤ k.ver
  rn : ∀ b u l, c.ρ b u = some l → c.N b u ∧ l.blk < c.w.heap.size
  inj : ∀ b u l b' u' l', c.ρ b u = some l → c.ρ b' u' = some l' → l.blk = l'.blk → b = b' ∧ u = u'
  dlt : ∀ k, c.D k → k < c.w.heap.size
  disj : ∀ k b u l, c.D k → c.ρ b u = some l → writable H b → l.blk ≠ k
  tot : ∀ b k, H[b]? = some k → k.kind.isGone = false → ∃ l, c.ρ b k.ver = some l ∧ HasBlk c l k.kind
  one : ∀ b u l k, c.ρ b u = some l → H[b]? = some k → k.kind.isGone = false → u = k.ver
  rod : ∀ b k l, H[b]? = some k → k.ro = true → k.kind.isGone = false → c.ρ b k.ver = some l → c.D l.blk

/-- What may have changed. -/
structure Nxt (c c' : Cx) (H H' : Heap) : Prop where
  os : c'.w.os = c.w.os
  tape : c'.w.tape = c.w.tape
  output : c'.w.output = c.w.output
  size : c.w.heap.size ≤ c'.w.heap.size
  keep : ∀ k, k < c.w.heap.size → (∀ b u l, c.ρ b u = some l → writable H b → l.blk ≠ k) → c'.w.heap[k]? = c.w.heap[k]?
  dsub : ∀ k, c.D k → c'.D k
  dnew : ∀ k, c'.D k → c.D k ∨ c.w.heap.size ≤ k ∨ ∃ b u l, c.ρ b u = some l ∧ l.blk = k ∧ writable H b ∧ ¬ writable H' b
  nsub : ∀ b u, c.N b u → c'.N b u
  nnew : ∀ b u, c'.N b u → c.N b u ∨ (H.length ≤ b ∧ b < H'.length) ∨ (writable H b ∧ ∃ q : Blk, H[b]? = some q ∧ q.ver < u)
  rold : ∀ b u l, c.N b u → c'.ρ b u = some l → c.ρ b u = some l
  rkeep : ∀ b u l, c.ρ b u = some l → ¬ writable H b → c'.ρ b u = some l
  rnew : ∀ b u l, c'.ρ b u = some l → c.ρ b u = some l ∨ c.w.heap.size ≤ l.blk ∨ ∃ u' l', c.ρ b u' = some l' ∧ l'.blk = l.blk ∧ writable H b
  hlen : H.length ≤ H'.length
  hkeep : ∀ (b : Nat) (k : Blk), H[b]? = some k → ¬ writable H b → H'[b]? = some k
  hver : ∀ (b : Nat) (k : Blk), H[b]? = some k → ∃ k' : Blk, H'[b]? = some k' ∧ k.ver ≤ k'.ver

theorem Nxt.refl (c : Cx) (H : Heap) : Nxt c c H H where
  os := rfl
  tape := rfl
  output := rfl
  size := Nat.le_refl _
  keep _ _ _ := rfl
  dsub _ h := h
  dnew _ h := .inl h
  nsub _ _ h := h
  nnew _ _ h := .inl h
  rold _ _ _ _ h := h
  rkeep _ _ _ h _ := h
  rnew _ _ _ h := .inl h
  hlen := Nat.le_refl _
  hkeep _ _ h _ := h
  hver _ k h := ⟨k, h, Nat.le_refl _⟩

theorem Nxt.dkeep {c c' : Cx} {B : Nat} {H H' : Heap} (g : Good c B H) (n : Nxt c c' H H') (k : Nat) (hk : c.D k) : c'.w.heap[k]? = c.w.heap[k]? :=
  n.keep k (g.dlt k hk) (fun b u l hl hw => g.disj k b u l hk hl hw)

theorem Nxt.rep {c c' : Cx} {B : Nat} {H H' : Heap} (g : Good c B H) (n : Nxt c c' H H') {a : AV} {v : Value} (h : Rep c a v) : Rep c' a v :=
  h.mono (n.dkeep g) n.dsub n.nsub n.rold
theorem Nxt.repL {c c' : Cx} {B : Nat} {H H' : Heap} (g : Good c B H) (n : Nxt c c' H H') {as : List AV} {vs : List Value} (h : RepL c as vs) : RepL c' as vs :=
  h.mono (n.dkeep g) n.dsub n.nsub n.rold

theorem writable_back {c c' : Cx} {H H' : Heap} (n : Nxt c c' H H') {b : Nat} (hb : b < H.length) (h : writable H' b) : writable H b := by
  obtain ⟨k, hk⟩ : ∃ k, H[b]? = some k := ⟨H[b], by simp [hb]⟩
  rcases Classical.em (writable H b) with hw | hw
  · exact hw
  · obtain ⟨k', h1, h2, h3⟩ := h
    have := n.hkeep b k hk hw
    rw [this] at h1
    cases h1
    exact ⟨k, hk, h2, h3⟩

theorem Nxt.trans {c c1 c2 : Cx} {B : Nat} {H H1 H2 : Heap} (g : Good c B H) (hB : H1.length ≤ B) (n : Nxt c c1 H H1) (m : Nxt c1 c2 H1 H2) : Nxt c c2 H H2 where
  os := m.os.trans n.os
  tape := m.tape.trans n.tape
  output := m.output.trans n.output
  size := Nat.le_trans n.size m.size
  keep k hk hno := by
    refine (m.keep k (Nat.lt_of_lt_of_le hk n.size) fun b u l hl hw => ?_).trans (n.keep k hk hno)
    rcases n.rnew b u l hl with h | h | ⟨u', l', h, e, hw'⟩
    · have hbl : b < H.length := by
        rcases g.nm b u (g.rn b u l h).1 with hb | hb
        · exact hb
        · obtain ⟨q, hq, _⟩ := hw
          have : b < H1.length := (List.getElem?_eq_some_iff.1 hq).1
          omega
      exact hno b u l h (writable_back n hbl hw)
    · omega
    · exact e ▸ hno b u' l' h hw'
  dsub k h := m.dsub k (n.dsub k h)
  dnew k h := by
    rcases m.dnew k h with h | h | ⟨b, u, l, h, e, hw1, hnw⟩
    · rcases n.dnew k h with h | h | ⟨b, u, l, h, e, hw0, hnw⟩
      · exact .inl h
      · exact .inr (.inl h)
      · refine .inr (.inr ⟨b, u, l, h, e, hw0, fun hw => hnw ?_⟩)
        exact writable_back m (by have := writable_lt hw0; have := n.hlen; omega) hw
    · exact (Nat.lt_or_ge k c.w.heap.size).elim (fun hlt => absurd (Nat.le_trans n.size h) (by omega)) (fun h => .inr (.inl h))
    · rcases n.rnew b u l h with h | h | ⟨u', l', h', e', hw'⟩
      · have hbl : b < H.length := by
          rcases g.nm b u (g.rn b u l h).1 with hb | hb
          · exact hb
          · have := writable_lt hw1; omega
        exact .inr (.inr ⟨b, u, l, h, e, writable_back n hbl hw1, hnw⟩)
      · exact .inr (.inl (e ▸ h))
      · exact .inr (.inr ⟨b, u', l', h', e'.trans e, hw', hnw⟩)
  nsub b u h := m.nsub b u (n.nsub b u h)
  nnew b u h := by
    rcases m.nnew b u h with h | ⟨h, h'⟩ | ⟨hw, q, hq, hlt⟩
    · rcases n.nnew b u h with h | ⟨h, h'⟩ | h
      · exact .inl h
      · exact .inr (.inl ⟨h, Nat.lt_of_lt_of_le h' m.hlen⟩)
      · exact .inr (.inr h)
    · exact .inr (.inl ⟨Nat.le_trans n.hlen h, h'⟩)
    · rcases Nat.lt_or_ge b H.length with hb | hb
      · have hw' := writable_back n hb hw
        obtain ⟨k, hk⟩ : ∃ k, H[b]? = some k := ⟨H[b], by simp [hb]⟩
        obtain ⟨k', h1, h2⟩ := n.hver b k hk
        rw [hq] at h1; cases h1
        exact .inr (.inr ⟨hw', k, hk, by omega⟩)
      · have : b < H1.length := (List.getElem?_eq_some_iff.1 hq).1
        exact .inr (.inl ⟨hb, Nat.lt_of_lt_of_le this m.hlen⟩)
  rold b u l hn h := n.rold b u l hn (m.rold b u l (n.nsub b u hn) h)
  rkeep b u l h hw := by
    refine m.rkeep b u l (n.rkeep b u l h hw) fun hw1 => ?_
    rcases g.nm b u (g.rn b u l h).1 with hb | hb
    · exact hw (writable_back n hb hw1)
    · obtain ⟨q, hq, _⟩ := hw1
      have := (List.getElem?_eq_some_iff.1 hq).1; omega
  rnew b u l h := by
    rcases m.rnew b u l h with h | h | ⟨u', l', h, e, hw⟩
    · exact n.rnew b u l h
    · exact .inr (.inl (Nat.le_trans n.size h))
    · rcases n.rnew b u' l' h with h | h | ⟨u'', l'', h', e', hw'⟩
      · have hbl : b < H.length := by
          rcases g.nm b u' (g.rn b u' l' h).1 with hb | hb
          · exact hb
          · obtain ⟨q, hq, _⟩ := hw
            have := (List.getElem?_eq_some_iff.1 hq).1; omega
        exact .inr (.inr ⟨u', l', h, e, writable_back n hbl hw⟩)
      · exact .inr (.inl (e ▸ h))
      · exact .inr (.inr ⟨u'', l'', h', e'.trans e, hw'⟩)
  hlen := Nat.le_trans n.hlen m.hlen
  hkeep b k h hw := by
    refine m.hkeep b k (n.hkeep b k h hw) fun hw1 => hw ?_
    exact writable_back n (List.getElem?_eq_some_iff.1 h).1 hw1
  hver b k h := by
    obtain ⟨k1, h1, h2⟩ := n.hver b k h
    obtain ⟨k2, h4, h5⟩ := m.hver b k1 h1
    exact ⟨k2, h4, Nat.le_trans h2 h5⟩

/-! ### Calls -/
/-- Behind a call: what it answers stands for what the machine answers. -/
def Behind (c : Cx) (B : Nat) (H : Heap) (a : AV) (H' : Heap) : Ending → World → Prop
  | .returned v, w' => ∃ c' : Cx, c'.w = w' ∧ Good c' B H' ∧ Rep c' a v ∧ Nxt c c' H H'
  | .outgrown, _ => False
  | .panicked _, _ => False

/-- A call of the function goes into its body. -/
def Enters (P : Program) (f : FuncId) : Prop := ∀ (args : Array Value) (w : World), (callFunc f args).run P w = .ok (.enter f args) w

def SimCall (P : Program) (call : CallT) (f : FuncId) : Prop :=
  ∀ as H a H', call f as H = some (a, H') → H.length ≤ H'.length ∧ Enters P f ∧ ∀ (c : Cx) (B : Nat) (vs : List Value), H'.length ≤ B → Good c B H → RepL c as vs →
    Calls P f vs.toArray c.w (Behind c B H a H')

def SimAll (P : Program) (call : CallT) : Prop := ∀ f, SimCall P call f

end Go.Abs
