/- How a heap of own blocks stays well laid: when a block is made, written, or appended to. Conditions: those of each lemma. -/
import Derived.Test.YtjjcfcbhelecgaaGreatAbsRep
set_option linter.unusedVariables false
namespace Go.Abs

/-- A context with one more block. -/
def Cx.new (c : Cx) (n : Nat) (l : Loc) (w' : World) : Cx where
  w := w'
  D := c.D
  ρ b u := if b = n ∧ u = 0 then some l else c.ρ b u
  N b u := c.N b u ∨ (b = n ∧ u = 0)

/-- A world with one more block. -/
structure Grew (w w' : World) (o : Obj) : Prop where
  os : w'.os = w.os
  tape : w'.tape = w.tape
  output : w'.output = w.output
  heap : w'.heap = w.heap.push o

theorem Grew.alloc (w : World) (o : Obj) : Grew w { w with heap := w.heap.push o } o := ⟨rfl, rfl, rfl, rfl⟩
theorem Grew.lt {w w' : World} {o : Obj} (h : Grew w w' o) (k : Nat) (hk : k < w.heap.size) : w'.heap[k]? = w.heap[k]? := by
  rw [h.heap, Array.getElem?_push, if_neg (by omega)]
theorem Grew.at_ {w w' : World} {o : Obj} (h : Grew w w' o) : w'.heap[w.heap.size]? = some o := by
  rw [h.heap, Array.getElem?_push, if_pos rfl]
theorem Grew.size {w w' : World} {o : Obj} (h : Grew w w' o) : w'.heap.size = w.heap.size + 1 := by rw [h.heap]; simp

theorem heap_push_lt (w : World) (o : Obj) (k : Nat) (h : k < w.heap.size) : (w.heap.push o)[k]? = w.heap[k]? := by
  rw [Array.getElem?_push, if_neg (by omega)]

theorem fresh_name {c : Cx} {B : Nat} {H : Heap} (g : Good c B H) (hB : H.length + 1 ≤ B) (u : Nat) : ¬ c.N H.length u := fun h => by
  rcases g.nm _ _ h with h | h <;> omega

theorem new_mono {c : Cx} {B : Nat} {H : Heap} (g : Good c B H) (hB : H.length + 1 ≤ B) (o : Obj) (l : Loc) {w' : World} (hw : Grew c.w w' o) :
    (∀ k, c.D k → (c.new H.length l w').w.heap[k]? = c.w.heap[k]?) ∧ (∀ k, c.D k → (c.new H.length l w').D k) ∧
    (∀ b u, c.N b u → (c.new H.length l w').N b u) ∧ (∀ b u l', c.N b u → (c.new H.length l w').ρ b u = some l' → c.ρ b u = some l') := by
  refine ⟨fun k hk => hw.lt _ (g.dlt k hk), fun k hk => hk, fun b u h => .inl h, fun b u l' hn h => ?_⟩
  simp only [Cx.new] at h
  split at h
  · rename_i e
    exact absurd (e.1 ▸ hn) (fresh_name g hB _)
  · exact h

theorem good_new {c : Cx} {B : Nat} {H : Heap} (g : Good c B H) (hB : H.length + 1 ≤ B) (o : Obj) (l : Loc) (hl : l.blk = c.w.heap.size) {w' : World} (hw : Grew c.w w' o)
    (kind : Kind) (hg : kind.isGone = false) (hb : HasBlk (c.new H.length l w') l kind) :
    Good (c.new H.length l w') B (H ++ [⟨0, false, kind⟩]) ∧ Nxt c (c.new H.length l w') H (H ++ [⟨0, false, kind⟩]) := by
  obtain ⟨m1, m2, m3, m4⟩ := new_mono g hB o l hw
  have hget : ∀ (b : Nat), b < H.length → (H ++ [(⟨0, false, kind⟩ : Blk)])[b]? = H[b]? := fun b hb => by rw [List.getElem?_append_left hb]
  have hlast : (H ++ [(⟨0, false, kind⟩ : Blk)])[H.length]? = some ⟨0, false, kind⟩ := by simp
  have hwq : ∀ b, b < H.length → (writable (H ++ [(⟨0, false, kind⟩ : Blk)]) b ↔ writable H b) := fun b hb => by simp only [writable, hget b hb]
  constructor
  · refine ⟨by simp; omega, fun b u h => ?_, fun b u k h hk hgk => ?_, fun b u l' h => ?_, fun b u l1 b' u' l2 h1 h2 he => ?_, fun k hk => ?_, fun k b u l' hk h hwr => ?_, fun b k hk hgk => ?_, fun b u l' k h hk hgk => ?_, fun b k l' hk hro hgk h => ?_⟩
    · rcases h with h | ⟨rfl, rfl⟩
      · rcases g.nm b u h with h | h
        · left; simp; omega
        · exact .inr h
      · left; simp
    · rcases h with h | ⟨rfl, rfl⟩
      · rcases g.nm b u h with hb' | hb'
        · rw [hget b hb'] at hk; exact g.ver b u k h hk hgk
        · have := (List.getElem?_eq_some_iff.1 hk).1
          simp at this; omega
      · exact Nat.zero_le _
    · simp only [Cx.new] at h ⊢
      split at h
      · rename_i e
        cases h
        exact ⟨.inr e, by rw [hw.size, hl]; omega⟩
      · exact ⟨.inl (g.rn b u l' h).1, by have := (g.rn b u l' h).2; rw [hw.size]; omega⟩
    · simp only [Cx.new] at h1 h2
      split at h1
      · rename_i e1
        cases h1
        split at h2
        · rename_i e2
          cases h2
          exact ⟨e1.1.trans e2.1.symm, e1.2.trans e2.2.symm⟩
        · have := (g.rn b' u' l2 h2).2; omega
      · split at h2
        · cases h2
          have := (g.rn b u l1 h1).2; omega
        · exact g.inj _ _ _ _ _ _ h1 h2 he
    · have := g.dlt k hk; simp only [Cx.new]; rw [hw.size]; omega
    · simp only [Cx.new] at h hk
      split at h
      · cases h
        have := g.dlt k hk; omega
      · rcases Nat.lt_or_ge b H.length with hbl | hbl
        · exact g.disj k b u l' hk h ((hwq b hbl).1 hwr)
        · rcases g.nm b u (g.rn b u l' h).1 with hb' | hb'
          · omega
          · have := writable_lt hwr
            simp at this; omega
    · rcases Nat.lt_or_ge b H.length with hbl | hbl
      · rw [hget b hbl] at hk
        obtain ⟨l', h1, h2⟩ := g.tot b k hk hgk
        refine ⟨l', ?_, h2.mono m1 m2 m3 m4 (hw.lt _ (g.rn _ _ _ h1).2)⟩
        simp only [Cx.new]
        rw [if_neg (by omega)]
        exact h1
      · have hbe : b = H.length := by
          have := (List.getElem?_eq_some_iff.1 hk).1
          simp at this; omega
        subst hbe
        rw [hlast] at hk
        cases hk
        exact ⟨l, by simp [Cx.new], hb⟩
    · simp only [Cx.new] at h
      split at h
      · rename_i e
        rw [e.1, hlast] at hk
        cases hk
        exact e.2
      · rcases Nat.lt_or_ge b H.length with hbl | hbl
        · rw [hget b hbl] at hk
          exact g.one b u l' k h hk hgk
        · rcases g.nm b u (g.rn b u l' h).1 with hb' | hb'
          · omega
          · have := (List.getElem?_eq_some_iff.1 hk).1
            simp at this; omega
    · simp only [Cx.new] at h ⊢
      rcases Nat.lt_or_ge b H.length with hbl | hbl
      · rw [hget b hbl] at hk
        rw [if_neg (by omega)] at h
        exact g.rod b k l' hk hro hgk h
      · have hbe : b = H.length := by
          have := (List.getElem?_eq_some_iff.1 hk).1
          simp at this; omega
        subst hbe
        rw [hlast] at hk
        cases hk
        cases hro
  · refine ⟨hw.os, hw.tape, hw.output, by simp only [Cx.new]; rw [hw.size]; omega, fun k hk _ => hw.lt _ hk, m2, fun k h => .inl h, m3, fun b u h => ?_, m4, fun b u l' h hnw => ?_, fun b u l' h => ?_, by simp, fun b k hk _ => ?_, fun b k hk => ?_⟩
    · rcases h with h | ⟨rfl, rfl⟩
      · exact .inl h
      · exact .inr (.inl ⟨Nat.le_refl _, by simp⟩)
    · simp only [Cx.new]
      rw [if_neg]
      · exact h
      · rintro ⟨rfl, rfl⟩
        exact fresh_name g hB _ (g.rn _ _ _ h).1
    · simp only [Cx.new] at h
      split at h
      · cases h; exact .inr (.inl (by omega))
      · exact .inl h
    · rw [hget b (List.getElem?_eq_some_iff.1 hk).1]; exact hk
    · exact ⟨k, by rw [hget b (List.getElem?_eq_some_iff.1 hk).1]; exact hk, Nat.le_refl _⟩

/-- A context with one more block that is never written. -/
def Cx.lit (c : Cx) (w' : World) : Cx where
  w := w'
  D k := c.D k ∨ k = c.w.heap.size
  ρ := c.ρ
  N := c.N

theorem lit_mono {c : Cx} {B : Nat} {H : Heap} (g : Good c B H) {o : Obj} {w' : World} (hw : Grew c.w w' o) :
    (∀ k, c.D k → (c.lit w').w.heap[k]? = c.w.heap[k]?) ∧ (∀ k, c.D k → (c.lit w').D k) ∧
    (∀ b u, c.N b u → (c.lit w').N b u) ∧ (∀ b u l', c.N b u → (c.lit w').ρ b u = some l' → c.ρ b u = some l') :=
  ⟨fun k hk => hw.lt _ (g.dlt k hk), fun k hk => .inl hk, fun b u h => h, fun b u l' hn h => h⟩

theorem good_lit {c : Cx} {B : Nat} {H : Heap} (g : Good c B H) {o : Obj} {w' : World} (hw : Grew c.w w' o) : Good (c.lit w') B H ∧ Nxt c (c.lit w') H H := by
  obtain ⟨m1, m2, m3, m4⟩ := lit_mono g hw
  have hlt : ∀ k, k < c.w.heap.size → k < w'.heap.size := fun k hk => by rw [hw.size]; omega
  constructor
  · refine ⟨g.le, g.nm, g.ver, fun b u l h => ⟨(g.rn b u l h).1, hlt _ (g.rn b u l h).2⟩, g.inj, fun k hk => ?_, fun k b u l hk h hwr => ?_, fun b k hk hgk => ?_, g.one, fun b k l hk hro hgk h => .inl (g.rod b k l hk hro hgk h)⟩
    · rcases hk with hk | hk
      · exact hlt _ (g.dlt k hk)
      · simp only [Cx.lit]; rw [hw.size]; omega
    · rcases hk with hk | hk
      · exact g.disj k b u l hk h hwr
      · have := (g.rn b u l h).2; omega
    · obtain ⟨l, h1, h2⟩ := g.tot b k hk hgk
      exact ⟨l, h1, h2.mono m1 m2 m3 m4 (hw.lt _ (g.rn _ _ _ h1).2)⟩
  · refine ⟨hw.os, hw.tape, hw.output, by simp only [Cx.lit]; rw [hw.size]; omega, fun k hk _ => hw.lt _ hk, m2, fun k hk => ?_, m3, fun b u h => .inl h, m4, fun _ _ _ h _ => h, fun _ _ _ h => .inl h, Nat.le_refl _, fun _ _ h _ => h, fun _ k h => ⟨k, h, Nat.le_refl _⟩⟩
    rcases hk with hk | hk
    · exact .inl hk
    · exact .inr (.inl (by omega))

/-- A world in which one block alone has been written. -/
structure Wrote (w w' : World) (k : Nat) : Prop where
  os : w'.os = w.os
  tape : w'.tape = w.tape
  output : w'.output = w.output
  size : w.heap.size ≤ w'.heap.size
  other : ∀ i, i < w.heap.size → i ≠ k → w'.heap[i]? = w.heap[i]?

theorem good_set {c : Cx} {B : Nat} {H : Heap} (g : Good c B H) {b u : Nat} {kd : Kind} {l : Loc} (hH : H[b]? = some ⟨u, false, kd⟩) (hkd : kd.isGone = false)
    (hl : c.ρ b u = some l) {w' : World} (hw : Wrote c.w w' l.blk) (kind : Kind) (hg : kind.isGone = false)
    (hb : HasBlk { c with w := w' } l kind) :
    Good { c with w := w' } B (H.set b ⟨u, false, kind⟩) ∧ Nxt c { c with w := w' } H (H.set b ⟨u, false, kind⟩) := by
  have hbl : b < H.length := (List.getElem?_eq_some_iff.1 hH).1
  have hwr : writable H b := ⟨_, hH, hkd, rfl⟩
  have hD : ∀ k, c.D k → w'.heap[k]? = c.w.heap[k]? := fun k hk => hw.other k (g.dlt k hk) (fun e => g.disj k b u l hk hl hwr e.symm)
  have hget : ∀ (i : Nat), i ≠ b → (H.set b (⟨u, false, kind⟩ : Blk))[i]? = H[i]? := fun i hi => List.getElem?_set_ne (Ne.symm hi)
  have hat : (H.set b (⟨u, false, kind⟩ : Blk))[b]? = some ⟨u, false, kind⟩ := by simp [hbl]
  have hwq : ∀ i, writable (H.set b (⟨u, false, kind⟩ : Blk)) i ↔ writable H i := fun i => by
    by_cases hi : i = b
    · subst hi
      exact ⟨fun _ => hwr, fun _ => ⟨_, hat, hg, rfl⟩⟩
    · simp only [writable, hget i hi]
  constructor
  · refine ⟨by simp [g.le], fun b' u' h => by simpa using g.nm b' u' h, fun b' u' k h hk hgk => ?_, fun b' u' l' h => ⟨(g.rn _ _ _ h).1, Nat.lt_of_lt_of_le (g.rn _ _ _ h).2 hw.size⟩, g.inj, fun k hk => Nat.lt_of_lt_of_le (g.dlt k hk) hw.size,
      fun k b' u' l' hk h hwr' => g.disj k b' u' l' hk h ((hwq b').1 hwr'), fun b' k hk hgk => ?_, fun b' u' l' k h hk hgk => ?_, fun b' k l' hk hro hgk h => ?_⟩
    · by_cases hi : b' = b
      · subst hi
        rw [hat] at hk; cases hk
        have := g.ver _ _ _ h hH hkd
        exact this
      · rw [hget b' hi] at hk
        exact g.ver _ _ _ h hk hgk
    · by_cases hi : b' = b
      · subst hi
        rw [hat] at hk; cases hk
        exact ⟨l, hl, hb⟩
      · rw [hget b' hi] at hk
        obtain ⟨l', h1, h2⟩ := g.tot b' k hk hgk
        refine ⟨l', h1, HasBlk.mono (c := c) (c' := { c with w := w' }) hD (fun _ h => h) (fun _ _ h => h) (fun _ _ _ _ h => h) (hw.other _ (g.rn _ _ _ h1).2 fun e => hi ?_) h2⟩
        exact (g.inj _ _ _ _ _ _ h1 hl e).1
    · by_cases hi : b' = b
      · subst hi
        rw [hat] at hk; cases hk
        have := g.one _ _ _ _ h hH hkd
        exact this
      · rw [hget b' hi] at hk
        exact g.one _ _ _ _ h hk hgk
    · by_cases hi : b' = b
      · subst hi
        rw [hat] at hk; cases hk
        cases hro
      · rw [hget b' hi] at hk
        exact g.rod _ _ _ hk hro hgk h
  · refine ⟨hw.os, hw.tape, hw.output, hw.size, fun k hk hno => hw.other k hk fun e => hno b u l hl hwr e.symm, fun _ h => h, fun k h => .inl h, fun _ _ h => h, fun _ _ h => .inl h, fun _ _ _ _ h => h, fun _ _ _ h _ => h, fun _ _ _ h => .inl h,
      by simp, fun b' k hk hnw => ?_, fun b' k hk => ?_⟩
    · rw [hget b' (fun e => hnw (e ▸ hwr))]; exact hk
    · by_cases hi : b' = b
      · subst hi
        rw [hH] at hk; cases hk
        exact ⟨_, hat, Nat.le_refl _⟩
      · exact ⟨k, by rw [hget b' hi]; exact hk, Nat.le_refl _⟩

/-- A context with the next version of a block. -/
def Cx.bump (c : Cx) (b u : Nat) (l : Loc) (w' : World) : Cx where
  w := w'
  D := c.D
  ρ b' u' := if b' = b then (if u' = u + 1 then some l else none) else c.ρ b' u'
  N b' u' := c.N b' u' ∨ (b' = b ∧ u' = u + 1)

theorem bump_mono {c : Cx} {B : Nat} {H : Heap} (g : Good c B H) {b u : Nat} {kd : Kind} {l : Loc} (hH : H[b]? = some ⟨u, false, kd⟩) (hkd : kd.isGone = false)
    (hl : c.ρ b u = some l) {w' : World} (hw : Wrote c.w w' l.blk) (l' : Loc) :
    (∀ k, c.D k → (c.bump b u l' w').w.heap[k]? = c.w.heap[k]?) ∧ (∀ k, c.D k → (c.bump b u l' w').D k) ∧
    (∀ i j, c.N i j → (c.bump b u l' w').N i j) ∧ (∀ i j q, c.N i j → (c.bump b u l' w').ρ i j = some q → c.ρ i j = some q) := by
  have hwr : writable H b := ⟨_, hH, hkd, rfl⟩
  refine ⟨fun k hk => hw.other k (g.dlt k hk) (fun e => g.disj k b u l hk hl hwr e.symm), fun k hk => hk, fun i j h => .inl h, fun i j q hn h => ?_⟩
  simp only [Cx.bump] at h
  split at h
  · rename_i e
    split at h
    · rename_i e'
      subst e e'
      have := g.ver _ _ _ hn hH hkd
      simp at this
      omega
    · cases h
  · exact h

theorem good_bump {c : Cx} {B : Nat} {H : Heap} (g : Good c B H) {b u : Nat} {kd : Kind} {l : Loc} (hH : H[b]? = some ⟨u, false, kd⟩) (hkd : kd.isGone = false)
    (hl : c.ρ b u = some l) {w' : World} (hw : Wrote c.w w' l.blk) (l' : Loc) (hl' : l'.blk = l.blk ∨ (l'.blk = c.w.heap.size ∧ c.w.heap.size < w'.heap.size)) (kind : Kind) (hg : kind.isGone = false)
    (hb : HasBlk (c.bump b u l' w') l' kind) :
    Good (c.bump b u l' w') B (H.set b ⟨u + 1, false, kind⟩) ∧ Nxt c (c.bump b u l' w') H (H.set b ⟨u + 1, false, kind⟩) := by
  obtain ⟨m1, m2, m3, m4⟩ := bump_mono g hH hkd hl hw l'
  have hbl : b < H.length := (List.getElem?_eq_some_iff.1 hH).1
  have hwr : writable H b := ⟨_, hH, hkd, rfl⟩
  have hget : ∀ (i : Nat), i ≠ b → (H.set b (⟨u + 1, false, kind⟩ : Blk))[i]? = H[i]? := fun i hi => List.getElem?_set_ne (Ne.symm hi)
  have hat : (H.set b (⟨u + 1, false, kind⟩ : Blk))[b]? = some ⟨u + 1, false, kind⟩ := by simp [hbl]
  have hwq : ∀ i, writable (H.set b (⟨u + 1, false, kind⟩ : Blk)) i ↔ writable H i := fun i => by
    by_cases hi : i = b
    · subst hi
      exact ⟨fun _ => hwr, fun _ => ⟨_, hat, hg, rfl⟩⟩
    · simp only [writable, hget i hi]
  have hlb := (g.rn _ _ _ hl).2
  constructor
  · refine ⟨by simp [g.le], fun b' u' h => ?_, fun b' u' k h hk hgk => ?_, fun b' u' q h => ?_, fun b1 u1 l1 b2 u2 l2 h1 h2 he => ?_, fun k hk => Nat.lt_of_lt_of_le (g.dlt k hk) hw.size,
      fun k b' u' q hk h hwr' => ?_, fun b' k hk hgk => ?_, fun b' u' q k h hk hgk => ?_, fun b' k q hk hro hgk h => ?_⟩
    · rcases h with h | ⟨rfl, rfl⟩
      · simpa using g.nm b' u' h
      · left; simpa using hbl
    · by_cases hi : b' = b
      · subst hi
        rw [hat] at hk; cases hk
        rcases h with h | ⟨_, rfl⟩
        · have := g.ver _ _ _ h hH hkd; simp at this ⊢; omega
        · exact Nat.le_refl _
      · rw [hget b' hi] at hk
        rcases h with h | ⟨e, _⟩
        · exact g.ver _ _ _ h hk hgk
        · exact absurd e hi
    · simp only [Cx.bump] at h ⊢
      split at h
      · rename_i e
        split at h
        · rename_i e'
          cases h
          refine ⟨.inr ⟨e, e'⟩, ?_⟩
          rcases hl' with hl' | ⟨hl', hs⟩
          · rw [hl']; exact Nat.lt_of_lt_of_le hlb hw.size
          · omega
        · cases h
      · exact ⟨.inl (g.rn _ _ _ h).1, Nat.lt_of_lt_of_le (g.rn _ _ _ h).2 hw.size⟩
    · simp only [Cx.bump] at h1 h2
      split at h1
      · rename_i e1
        split at h1
        · rename_i f1
          cases h1
          split at h2
          · rename_i e2
            split at h2
            · rename_i f2
              exact ⟨e1.trans e2.symm, f1.trans f2.symm⟩
            · cases h2
          · rename_i e2
            exfalso
            rcases hl' with hl' | ⟨hl', _⟩
            · exact e2 (g.inj _ _ _ _ _ _ hl h2 (hl'.symm.trans he)).1.symm
            · have := (g.rn _ _ _ h2).2; omega
        · cases h1
      · rename_i e1
        split at h2
        · split at h2
          · cases h2
            exfalso
            rcases hl' with hl' | ⟨hl', _⟩
            · exact e1 (g.inj _ _ _ _ _ _ h1 hl (he.trans hl')).1
            · have := (g.rn _ _ _ h1).2; omega
          · cases h2
        · exact g.inj _ _ _ _ _ _ h1 h2 he
    · simp only [Cx.bump] at h hk
      split at h
      · split at h
        · cases h
          rcases hl' with hl' | ⟨hl', _⟩
          · rw [hl']; exact g.disj k b u l hk hl hwr
          · have := g.dlt k hk; omega
        · cases h
      · exact g.disj k b' u' q hk h ((hwq b').1 hwr')
    · by_cases hi : b' = b
      · subst hi
        rw [hat] at hk; cases hk
        exact ⟨l', by simp [Cx.bump], hb⟩
      · rw [hget b' hi] at hk
        obtain ⟨q, h1, h2⟩ := g.tot b' k hk hgk
        refine ⟨q, by simp [Cx.bump, hi, h1], h2.mono m1 m2 m3 m4 (hw.other _ (g.rn _ _ _ h1).2 fun e => hi ?_)⟩
        exact (g.inj _ _ _ _ _ _ h1 hl e).1
    · by_cases hi : b' = b
      · subst hi
        rw [hat] at hk; cases hk
        simp only [Cx.bump, if_true] at h
        split at h
        · rename_i e; exact e
        · cases h
      · rw [hget b' hi] at hk
        simp only [Cx.bump, hi, if_false] at h
        exact g.one _ _ _ _ h hk hgk
    · by_cases hi : b' = b
      · subst hi
        rw [hat] at hk; cases hk
        cases hro
      · rw [hget b' hi] at hk
        simp only [Cx.bump, hi, if_false] at h ⊢
        exact g.rod _ _ _ hk hro hgk h
  · refine ⟨hw.os, hw.tape, hw.output, hw.size, fun k hk hno => hw.other k hk fun e => hno b u l hl hwr e.symm, m2, fun k h => .inl h, m3, fun b' u' h => ?_, m4, fun b' u' q h hnw => ?_, fun b' u' q h => ?_,
      by simp, fun b' k hk hnw => ?_, fun b' k hk => ?_⟩
    · rcases h with h | ⟨rfl, rfl⟩
      · exact .inl h
      · exact .inr (.inr ⟨hwr, _, hH, by simp⟩)
    · have hi : b' ≠ b := fun e => hnw (e ▸ hwr)
      simp [Cx.bump, hi, h]
    · simp only [Cx.bump] at h
      split at h
      · split at h
        · cases h
          rename_i e _
          rcases hl' with hl' | ⟨hl', _⟩
          · exact .inr (.inr ⟨u, l, e ▸ hl, hl'.symm, e ▸ hwr⟩)
          · exact .inr (.inl (by omega))
        · cases h
      · exact .inl h
    · rw [hget b' (fun e => hnw (e ▸ hwr))]; exact hk
    · by_cases hi : b' = b
      · subst hi
        rw [hH] at hk; cases hk
        exact ⟨_, hat, by simp⟩
      · exact ⟨k, by rw [hget b' hi]; exact hk, Nat.le_refl _⟩

end Go.Abs
