/- Statements whose order is open: how one operation's step on its own blocks fits into the whole heap. Conditions: those of each lemma. -/
import Derived.Test.YtjjcfcbhelecgaaGreatAbsReg1
set_option linter.unusedVariables false
set_option linter.unusedSimpArgs false
namespace Go.Abs
variable {P : Program} {c c' : Cx} {B : Nat} {H : Heap} {e : Env} {act : Act}

theorem writable_sub {H H2 : Heap} (hs : ∀ (b : Nat) (k : Blk), H2[b]? = some k → k.kind.isGone = false → H[b]? = some k) {b : Nat} (h : writable H2 b) : writable H b := by
  obtain ⟨k, h1, h2, h3⟩ := h
  exact ⟨k, hs b k h1 h2, h2, h3⟩

theorem Good.sub {B2 : Nat} {H2 : Heap} (g : Good c B H) (hs : ∀ (b : Nat) (k : Blk), H2[b]? = some k → k.kind.isGone = false → H[b]? = some k) (hl : H2.length ≤ B2) (hn : ∀ b u, c.N b u → b < H2.length ∨ B2 ≤ b) : Good c B2 H2 where
  le := hl
  nm := hn
  ver b u k h hk hg := g.ver b u k h (hs b k hk hg) hg
  rn := g.rn
  inj := g.inj
  dlt := g.dlt
  disj k b u l hk h hw := g.disj k b u l hk h (writable_sub hs hw)
  tot b k hk hg := g.tot b k (hs b k hk hg) hg
  one b u l k h hk hg := g.one b u l k h (hs b k hk hg) hg
  rod b k l hk hr hg h := g.rod b k l (hs b k hk hg) hr hg h

def Touched (Hm M : Heap) (b : Nat) : Prop := (∃ k, Hm[b]? = some k ∧ k.kind.isGone = false) ∨ (Hm.length ≤ b ∧ b < M.length)

/-- A part of a heap, what it came to, and the whole before and behind. -/
structure Part (Hm M HS HS' : Heap) : Prop where
  len : HS'.length = HS.length
  mlen : M.length ≤ HS.length
  sub : ∀ (b : Nat) (k : Blk), Hm[b]? = some k → k.kind.isGone = false → HS[b]? = some k
  touched : ∀ b, Touched Hm M b → HS'[b]? = M[b]?
  other : ∀ b, ¬ Touched Hm M b → HS'[b]? = HS[b]?

theorem writable_touched {Hm M : Heap} {b : Nat} (h : writable Hm b) : Touched Hm M b := by
  obtain ⟨k, h1, h2, _⟩ := h
  exact .inl ⟨k, h1, h2⟩

theorem good_merge {Hm M HS HS' : Heap} (g : Good c B HS) (gm : Good c M.length Hm) (g' : Good c' M.length M) (n : Nxt c c' Hm M) (p : Part Hm M HS HS') : Good c' B HS' := by
  -- names of what is not touched are old ones
  have old : ∀ b u, c'.N b u → ¬ Touched Hm M b → c.N b u := fun b u h hT => by
    rcases n.nnew b u h with h | h | h
    · exact h
    · exact absurd (.inr h) hT
    · exact absurd (writable_touched h.1) hT
  have oldr : ∀ b u l, c'.ρ b u = some l → ¬ Touched Hm M b → c.ρ b u = some l := fun b u l h hT => n.rold b u l (old b u (g'.rn _ _ _ h).1 hT) h
  have wr : ∀ b, writable HS' b → (Touched Hm M b ∧ writable M b) ∨ (¬ Touched Hm M b ∧ writable HS b) := fun b ⟨k, h1, h2, h3⟩ => by
    rcases Classical.em (Touched Hm M b) with hT | hT
    · rw [p.touched b hT] at h1; exact .inl ⟨hT, k, h1, h2, h3⟩
    · rw [p.other b hT] at h1; exact .inr ⟨hT, k, h1, h2, h3⟩
  refine ⟨by rw [p.len]; exact g.le, fun b u h => ?_, fun b u k h hk hgk => ?_, g'.rn, g'.inj, g'.dlt, fun k b u l hk h hw => ?_, fun b k hk hgk => ?_, fun b u l k h hk hgk => ?_, fun b k l hk hro hgk h => ?_⟩
  · rw [p.len]
    rcases n.nnew b u h with h | h | h
    · exact g.nm b u h
    · exact .inl (Nat.lt_of_lt_of_le h.2 p.mlen)
    · exact .inl (writable_lt (writable_sub p.sub h.1))
  · rcases Classical.em (Touched Hm M b) with hT | hT
    · rw [p.touched b hT] at hk; exact g'.ver b u k h hk hgk
    · rw [p.other b hT] at hk; exact g.ver b u k (old b u h hT) hk hgk
  · rcases wr b hw with ⟨hT, hw⟩ | ⟨hT, hw⟩
    · exact g'.disj k b u l hk h hw
    · have h0 := oldr b u l h hT
      have hlt := (g.rn _ _ _ h0).2
      rcases n.dnew k hk with hk | hk | ⟨b2, u2, l2, h2, rfl, hw2, hnw2⟩
      · exact g.disj k b u l hk h0 hw
      · omega
      · intro e0
        have := (g.inj _ _ _ _ _ _ h0 h2 e0).1
        subst this
        exact hT (writable_touched hw2)
  · rcases Classical.em (Touched Hm M b) with hT | hT
    · rw [p.touched b hT] at hk; exact g'.tot b k hk hgk
    · rw [p.other b hT] at hk
      obtain ⟨l, h1, h2⟩ := g.tot b k hk hgk
      have hnw : ¬ writable Hm b := fun h => hT (writable_touched h)
      refine ⟨l, n.rkeep b _ l h1 hnw, h2.mono (n.dkeep gm) n.dsub n.nsub n.rold (n.keep _ (g.rn _ _ _ h1).2 fun b' u' l' h' hw' e0 => ?_)⟩
      have := (g.inj _ _ _ _ _ _ h' h1 e0).1
      subst this
      exact hnw hw'
  · rcases Classical.em (Touched Hm M b) with hT | hT
    · rw [p.touched b hT] at hk; exact g'.one b u l k h hk hgk
    · rw [p.other b hT] at hk; exact g.one b u l k (oldr b u l h hT) hk hgk
  · rcases Classical.em (Touched Hm M b) with hT | hT
    · rw [p.touched b hT] at hk; exact g'.rod b k l hk hro hgk h
    · rw [p.other b hT] at hk; exact n.dsub _ (g.rod b k l hk hro hgk (oldr b _ l h hT))

theorem nxt_merge {c0 : Cx} {H0 Hm M HS HS' : Heap} (g0 : Good c0 B H0) (g : Good c B HS) (gm : Good c M.length Hm) (n0 : Nxt c0 c H0 HS) (n : Nxt c c' Hm M) (p : Part Hm M HS HS') (hL : H0.length ≤ Hm.length) : Nxt c0 c' H0 HS' := by
  have hB : HS.length ≤ B := g.le
  have wsub : ∀ {b}, writable Hm b → writable HS b := fun h => writable_sub p.sub h
  have wback : ∀ {b}, b < H0.length → writable HS' b → writable HS b := fun {b} hb ⟨k, h1, h2, h3⟩ => by
    rcases Classical.em (Touched Hm M b) with hT | hT
    · rw [p.touched b hT] at h1
      exact wsub (writable_back n (Nat.lt_of_lt_of_le hb hL) ⟨k, h1, h2, h3⟩)
    · rw [p.other b hT] at h1
      exact ⟨k, h1, h2, h3⟩
  have lt0 : ∀ {b u l}, c0.ρ b u = some l → writable HS b → b < H0.length := fun {b u l} h hw => by
    rcases g0.nm b u (g0.rn b u l h).1 with hb | hb
    · exact hb
    · have := writable_lt hw; omega
  refine ⟨n.os.trans n0.os, n.tape.trans n0.tape, n.output.trans n0.output, Nat.le_trans n0.size n.size, fun k hk hno => ?_, fun k h => n.dsub k (n0.dsub k h), fun k h => ?_, fun b u h => n.nsub b u (n0.nsub b u h), fun b u h => ?_,
    fun b u l hn h => n0.rold b u l hn (n.rold b u l (n0.nsub b u hn) h), fun b u l h hw => ?_, fun b u l h => ?_, by rw [p.len]; exact n0.hlen, fun b k h hw => ?_, fun b k h => ?_⟩
  · refine (n.keep k (Nat.lt_of_lt_of_le hk n0.size) fun b u l hl hw => ?_).trans (n0.keep k hk hno)
    have hw := wsub hw
    rcases n0.rnew b u l hl with h | h | ⟨u', l', h, e0, hw'⟩
    · exact hno b u l h (writable_back n0 (lt0 h hw) hw)
    · omega
    · exact e0 ▸ hno b u' l' h hw'
  · rcases n.dnew k h with h | h | ⟨b, u, l, h, e0, hw1, hnw⟩
    · rcases n0.dnew k h with h | h | ⟨b, u, l, h, e0, hw0, hnw⟩
      · exact .inl h
      · exact .inr (.inl h)
      · exact .inr (.inr ⟨b, u, l, h, e0, hw0, fun hw => hnw (wback (writable_lt hw0) hw)⟩)
    · exact (Nat.lt_or_ge k c0.w.heap.size).elim (fun hlt => absurd (Nat.le_trans n0.size h) (by omega)) (fun h => .inr (.inl h))
    · have hw1' := wsub hw1
      have hnw' : ¬ writable HS' b := fun ⟨q, h1, h2, h3⟩ => by
        rw [p.touched b (writable_touched hw1)] at h1
        exact hnw ⟨q, h1, h2, h3⟩
      rcases n0.rnew b u l h with h | h | ⟨u', l', h', e', hw'⟩
      · exact .inr (.inr ⟨b, u, l, h, e0, writable_back n0 (lt0 h hw1') hw1', hnw'⟩)
      · exact .inr (.inl (e0 ▸ h))
      · exact .inr (.inr ⟨b, u', l', h', e'.trans e0, hw', hnw'⟩)
  · rcases n.nnew b u h with h | ⟨h, h'⟩ | ⟨hw, q, hq, hlt⟩
    · rcases n0.nnew b u h with h | ⟨h, h'⟩ | h
      · exact .inl h
      · exact .inr (.inl ⟨h, by rw [p.len]; exact h'⟩)
      · exact .inr (.inr h)
    · exact .inr (.inl ⟨Nat.le_trans hL h, by rw [p.len]; exact Nat.lt_of_lt_of_le h' p.mlen⟩)
    · have hw := wsub hw
      rcases Nat.lt_or_ge b H0.length with hb | hb
      · have hw' := writable_back n0 hb hw
        obtain ⟨k, hk⟩ : ∃ k, H0[b]? = some k := ⟨H0[b], by simp [hb]⟩
        obtain ⟨k', h1, h2⟩ := n0.hver b k hk
        obtain ⟨q', h3, h4, h5⟩ := hw
        have hqn : q.kind.isGone = false := by
          obtain ⟨q2, h6, h7, _⟩ := ‹writable Hm b›
          rw [hq] at h6; cases h6; exact h7
        rw [p.sub b q hq hqn] at h1; cases h1
        exact .inr (.inr ⟨hw', k, hk, by omega⟩)
      · exact .inr (.inl ⟨hb, by rw [p.len]; exact writable_lt hw⟩)
  · have h1 := n0.rkeep b u l h hw
    refine n.rkeep b u l h1 fun hw1 => ?_
    have hw1 := wsub hw1
    exact hw (writable_back n0 (lt0 h hw1) hw1)
  · rcases n.rnew b u l h with h | h | ⟨u', l', h, e0, hw⟩
    · exact n0.rnew b u l h
    · exact .inr (.inl (Nat.le_trans n0.size h))
    · have hw := wsub hw
      rcases n0.rnew b u' l' h with h | h | ⟨u'', l'', h', e', hw'⟩
      · exact .inr (.inr ⟨u', l', h, e0, writable_back n0 (lt0 h hw) hw⟩)
      · exact .inr (.inl (e0 ▸ h))
      · exact .inr (.inr ⟨u'', l'', h', e'.trans e0, hw'⟩)
  · have h1 := n0.hkeep b k h hw
    have hlt := (List.getElem?_eq_some_iff.1 h).1
    rcases Classical.em (Touched Hm M b) with hT | hT
    · rw [p.touched b hT]
      rcases hT with ⟨q, hq, hg⟩ | ⟨hT, _⟩
      · have := p.sub b q hq hg
        rw [h1] at this; cases this
        refine n.hkeep b k hq fun hw1 => hw ?_
        exact writable_back n0 hlt (wsub hw1)
      · omega
    · rw [p.other b hT]; exact h1
  · obtain ⟨k1, h1, h2⟩ := n0.hver b k h
    have hlt := (List.getElem?_eq_some_iff.1 h).1
    rcases Classical.em (Touched Hm M b) with hT | hT
    · rw [p.touched b hT]
      rcases hT with ⟨q, hq, hg⟩ | ⟨hT, _⟩
      · have := p.sub b q hq hg
        rw [h1] at this; cases this
        obtain ⟨k2, h4, h5⟩ := n.hver b k1 hq
        exact ⟨k2, h4, Nat.le_trans h2 h5⟩
      · omega
    · rw [p.other b hT]; exact ⟨k1, h1, h2⟩

/-! ### Masks -/
theorem maskFrom_get (R W : List Nat) : ∀ (H : Heap) (i b : Nat), (maskFrom R W i H)[b]? = (H[b]?).map fun k => if has W (i + b) || has R (i + b) then k else { k with kind := .gone, ro := true }
  | [], i, b => by simp [maskFrom]
  | k :: H, i, 0 => by
    simp only [maskFrom, List.getElem?_cons_zero, Nat.add_zero, Option.map_some]
    cases (has W i || has R i) <;> rfl
  | k :: H, i, b + 1 => by
    simp only [maskFrom, List.getElem?_cons_succ]
    rw [maskFrom_get R W H (i + 1) b]
    have e : i + 1 + b = i + (b + 1) := by omega
    rw [e]

theorem maskFrom_len (R W : List Nat) : ∀ (H : Heap) (i : Nat), (maskFrom R W i H).length = H.length
  | [], i => rfl
  | k :: H, i => by simp [maskFrom, maskFrom_len R W H (i + 1)]

theorem unmaskFrom_len (W : List Nat) : ∀ (H M : Heap) (i : Nat), H.length ≤ M.length → (unmaskFrom W i H M).length = M.length
  | [], M, i, _ => rfl
  | k :: H, [], i, h => absurd h (by simp)
  | k :: H, m :: M, i, h => by simp [unmaskFrom, unmaskFrom_len W H M (i + 1) (by simpa using h)]

theorem unmaskFrom_get (W : List Nat) : ∀ (H M : Heap) (i b : Nat), H.length ≤ M.length → (unmaskFrom W i H M)[b]? = if b < H.length then (if has W (i + b) then M[b]? else H[b]?) else M[b]?
  | [], M, i, b, _ => by simp [unmaskFrom]
  | k :: H, [], i, b, h => absurd h (by simp)
  | k :: H, m :: M, i, 0, h => by
    simp only [unmaskFrom, List.getElem?_cons_zero, Nat.add_zero, List.length_cons, Nat.zero_lt_succ, if_true]
    cases has W i <;> rfl
  | k :: H, m :: M, i, b + 1, h => by
    simp only [unmaskFrom, List.getElem?_cons_succ, List.length_cons, Nat.add_lt_add_iff_right]
    rw [unmaskFrom_get W H M (i + 1) b (by simpa using h)]
    have e : i + 1 + b = i + (b + 1) := by omega
    rw [e]

theorem has_mem {l : List Nat} {b : Nat} : has l b = true ↔ b ∈ l := by
  simp only [has, List.any_eq_true]
  exact ⟨fun ⟨x, hx, h⟩ => Nat.eq_of_beq_eq_true h ▸ hx, fun h => ⟨b, h, Nat.beq_refl b⟩⟩

end Go.Abs
