/- The caller's context behind a call of its own. Conditions: those of each lemma. -/
import Derived.Test.YtjjcfcbhelecgaaGreatAbsCall2
import Derived.Test.YtjjcfcbhelecgaaGreatAbsOps8
set_option linter.unusedVariables false
set_option linter.unusedSimpArgs false
namespace Go.Abs
variable {c : Cx} {B : Nat} {H : Heap}

theorem setRo_len : ∀ (bs : List Nat) (H : Heap), (setRo H bs).length = H.length
  | [], H => rfl
  | b :: bs, H => by simp [setRo, setRo_len bs]

theorem setRo_get : ∀ (bs : List Nat) (H : Heap) (i : Nat), (setRo H bs)[i]? = if i ∈ bs then (H[i]?).map (fun k : Blk => { k with ro := true }) else H[i]?
  | [], H, i => by simp [setRo]
  | b :: bs, H, i => by
    simp only [setRo, setRo_get bs, List.getElem?_modify, List.mem_cons]
    by_cases h : b = i
    · subst h
      simp
      cases H[b]? <;> simp
    · have h' : ¬ i = b := fun e => h e.symm
      simp [h, h']

/-- Behind a call of its own: a grown world, the old memory as it was; the new memory, but for 'os', is not written any more; nor is, where it is kept, what was lent. -/
def Cx.back (c : Cx) (bs : List Nat) (os : List Nat) (w' : World) : Cx where
  w := w'
  D k := c.D k ∨ (c.w.heap.size ≤ k ∧ k < w'.heap.size ∧ k ∉ os) ∨ ∃ b, b ∈ bs ∧ ∃ u l, c.ρ b u = some l ∧ l.blk = k
  ρ := c.ρ
  N := c.N

structure Grown (w w' : World) : Prop where
  os : w'.os = w.os
  tape : w'.tape = w.tape
  output : w'.output = w.output
  size : w.heap.size ≤ w'.heap.size
  keep : ∀ k, k < w.heap.size → w'.heap[k]? = w.heap[k]?

theorem back_mono (g : Good c B H) (bs os : List Nat) {w' : World} (hw : Grown c.w w') :
    (∀ k, c.D k → (c.back bs os w').w.heap[k]? = c.w.heap[k]?) ∧ (∀ k, c.D k → (c.back bs os w').D k) ∧
    (∀ b u, c.N b u → (c.back bs os w').N b u) ∧ (∀ b u l', c.N b u → (c.back bs os w').ρ b u = some l' → c.ρ b u = some l') :=
  ⟨fun k hk => hw.keep _ (g.dlt k hk), fun k hk => .inl hk, fun _ _ h => h, fun _ _ _ _ h => h⟩

theorem good_back (g : Good c B H) (bs os : List Nat) {w' : World} (hw : Grown c.w w') (hbs : ∀ b, b ∈ bs → ∃ k, H[b]? = some k ∧ k.kind.isGone = false) :
    Good (c.back bs os w') B (setRo H bs) ∧ Nxt c (c.back bs os w') H (setRo H bs) := by
  obtain ⟨m1, m2, m3, m4⟩ := back_mono g bs os hw
  have old : ∀ {b : Nat} {k : Blk}, (setRo H bs)[b]? = some k → ∃ k0, H[b]? = some k0 ∧ k.ver = k0.ver ∧ k.kind = k0.kind ∧ (k.ro = k0.ro ∨ b ∈ bs) := fun {b k} h => by
    rw [setRo_get] at h
    split at h
    · rename_i hb
      simp only [Option.map_eq_some_iff] at h
      obtain ⟨k0, h0, rfl⟩ := h
      exact ⟨k0, h0, rfl, rfl, .inr hb⟩
    · exact ⟨k, h, rfl, rfl, .inl rfl⟩
  have wr : ∀ {b : Nat}, writable (setRo H bs) b → writable H b ∧ b ∉ bs := fun {b} ⟨k, hk, hg, hr⟩ => by
    rw [setRo_get] at hk
    split at hk
    · simp only [Option.map_eq_some_iff] at hk
      obtain ⟨k0, h0, rfl⟩ := hk
      cases hr
    · rename_i hb
      exact ⟨⟨k, hk, hg, hr⟩, hb⟩
  constructor
  · refine ⟨by rw [setRo_len]; exact g.le, fun b u h => by rw [setRo_len]; exact g.nm b u h, fun b u k h hk hgk => ?_, fun b u l h => ⟨(g.rn _ _ _ h).1, Nat.lt_of_lt_of_le (g.rn _ _ _ h).2 hw.size⟩, g.inj, fun k hk => ?_, fun k b u l hk h hwr => ?_, fun b k hk hgk => ?_, fun b u l k h hk hgk => ?_, fun b k l hk hro hgk h => ?_⟩
    · obtain ⟨k0, h0, e1, e2, _⟩ := old hk
      rw [e1]; exact g.ver b u k0 h h0 (e2 ▸ hgk)
    · rcases hk with hk | hk | ⟨b, hb, u, l, hl, rfl⟩
      · exact Nat.lt_of_lt_of_le (g.dlt k hk) hw.size
      · exact hk.2.1
      · exact Nat.lt_of_lt_of_le (g.rn _ _ _ hl).2 hw.size
    · obtain ⟨hwr0, hnb⟩ := wr hwr
      have hlt := (g.rn _ _ _ h).2
      rcases hk with hk | hk | ⟨b', hb', u', l', hl', rfl⟩
      · exact g.disj k b u l hk h hwr0
      · omega
      · intro e
        exact hnb ((g.inj _ _ _ _ _ _ h hl' e).1 ▸ hb')
    · obtain ⟨k0, h0, e1, e2, _⟩ := old hk
      obtain ⟨l, h1, h2⟩ := g.tot b k0 h0 (e2 ▸ hgk)
      exact ⟨l, e1 ▸ h1, e2 ▸ h2.mono m1 m2 m3 m4 (hw.keep _ (g.rn _ _ _ h1).2)⟩
    · obtain ⟨k0, h0, e1, e2, _⟩ := old hk
      rw [e1]; exact g.one b u l k0 h h0 (e2 ▸ hgk)
    · obtain ⟨k0, h0, e1, e2, e3⟩ := old hk
      rcases e3 with e3 | e3
      · exact .inl (g.rod b k0 l h0 (e3 ▸ hro) (e2 ▸ hgk) (e1 ▸ h))
      · exact .inr (.inr ⟨b, e3, _, l, h, rfl⟩)
  · refine ⟨hw.os, hw.tape, hw.output, hw.size, fun k hk _ => hw.keep k hk, m2, fun k hk => ?_, m3, fun b u h => .inl h, m4, fun _ _ _ h _ => h, fun _ _ _ h => .inl h, by rw [setRo_len]; exact Nat.le_refl _, fun b k hk hnw => ?_, fun b k hk => ?_⟩
    · rcases hk with hk | hk | ⟨b, hb, u, l, hl, rfl⟩
      · exact .inl hk
      · exact .inr (.inl hk.1)
      · obtain ⟨k, h0, hg⟩ := hbs b hb
        cases hro : k.ro with
        | false => exact .inr (.inr ⟨b, u, l, hl, rfl, ⟨k, h0, hg, hro⟩, fun h => (wr h).2 hb⟩)
        | true =>
          have := g.one b u l k hl h0 hg
          subst this
          exact .inl (g.rod b k l h0 hro hg hl)
    · rw [setRo_get]
      split
      · rename_i hb
        obtain ⟨k', h0, hg⟩ := hbs b hb
        rw [hk] at h0
        cases h0
        have hro : k.ro = true := by
          cases hro : k.ro with
          | true => rfl
          | false => exact absurd ⟨k, hk, hg, hro⟩ hnw
        rw [hk]
        simp only [Option.map_some, Option.some.injEq]
        cases k
        simp at hro
        subst hro
        rfl
      · exact hk
    · rw [setRo_get, hk]
      split
      · exact ⟨_, rfl, Nat.le_refl _⟩
      · exact ⟨_, rfl, Nat.le_refl _⟩

/-! ### A machine block taken over -/
def Cx.adopt (c : Cx) (n : Nat) (l : Loc) : Cx where
  w := c.w
  D := c.D
  ρ b u := if b = n ∧ u = 0 then some l else c.ρ b u
  N b u := c.N b u ∨ (b = n ∧ u = 0)

theorem good_adopt {c0 : Cx} {H0 : Heap} (g0 : Good c0 B H0) (g : Good c B H) (n : Nxt c0 c H0 H) (hB : H.length + 1 ≤ B) (l : Loc) (hlt : l.blk < c.w.heap.size) (hge : c0.w.heap.size ≤ l.blk) (hnD : ¬ c.D l.blk)
    (hnρ : ∀ b u q, c.ρ b u = some q → q.blk ≠ l.blk) (kind : Kind) (hg : kind.isGone = false) (hb : HasBlk (c.adopt H.length l) l kind) :
    Good (c.adopt H.length l) B (H ++ [⟨0, false, kind⟩]) ∧ Nxt c0 (c.adopt H.length l) H0 (H ++ [⟨0, false, kind⟩]) := by
  have fresh : ∀ u, ¬ c.N H.length u := fresh_name g hB
  have m4 : ∀ b u l', c.N b u → (c.adopt H.length l).ρ b u = some l' → c.ρ b u = some l' := fun b u l' hn h => by
    simp only [Cx.adopt] at h
    split at h
    · rename_i e
      exact absurd (e.1 ▸ hn) (fresh _)
    · exact h
  have hget : ∀ (b : Nat), b < H.length → (H ++ [(⟨0, false, kind⟩ : Blk)])[b]? = H[b]? := fun b hb => by rw [List.getElem?_append_left hb]
  have hlast : (H ++ [(⟨0, false, kind⟩ : Blk)])[H.length]? = some ⟨0, false, kind⟩ := by simp
  have cases' : ∀ {b : Nat} {k : Blk}, (H ++ [(⟨0, false, kind⟩ : Blk)])[b]? = some k → (b < H.length ∧ H[b]? = some k) ∨ (b = H.length ∧ k = ⟨0, false, kind⟩) := fun {b k} h => by
    rcases Nat.lt_or_ge b H.length with hb | hb
    · rw [hget b hb] at h; exact .inl ⟨hb, h⟩
    · have : b = H.length := by
        have := (List.getElem?_eq_some_iff.1 h).1
        simp at this; omega
      subst this
      rw [hlast] at h
      cases h
      exact .inr ⟨rfl, rfl⟩
  have rcases' : ∀ {b u : Nat} {q : Loc}, (c.adopt H.length l).ρ b u = some q → (b = H.length ∧ u = 0 ∧ q = l) ∨ (c.ρ b u = some q ∧ b ≠ H.length) := fun {b u q} h => by
    simp only [Cx.adopt] at h
    split at h
    · rename_i e
      cases h
      exact .inl ⟨e.1, e.2, rfl⟩
    · refine .inr ⟨h, fun e => ?_⟩
      subst e
      exact fresh _ (g.rn _ _ _ h).1
  have ρold : ∀ {b u : Nat}, b ≠ H.length → (c.adopt H.length l).ρ b u = c.ρ b u := fun {b u} hb => by
    simp only [Cx.adopt]
    rw [if_neg (fun e => hb e.1)]
  constructor
  · refine ⟨by simp; omega, fun b u h => ?_, fun b u k h hk hgk => ?_, fun b u q h => ?_, fun b1 u1 l1 b2 u2 l2 h1 h2 he => ?_, g.dlt, fun k b u q hk h hwr => ?_, fun b k hk hgk => ?_, fun b u q k h hk hgk => ?_, fun b k q hk hro hgk h => ?_⟩
    · rcases h with h | ⟨rfl, rfl⟩
      · rcases g.nm b u h with h | h
        · left; simp; omega
        · exact .inr h
      · left; simp
    · rcases cases' hk with ⟨h1, h2⟩ | ⟨h1, rfl⟩
      · rcases h with h | ⟨h, _⟩
        · exact g.ver b u k h h2 hgk
        · omega
      · rcases h with h | ⟨_, h⟩
        · exact absurd (h1 ▸ h) (fresh _)
        · rw [h]; exact Nat.le_refl _
    · rcases rcases' h with ⟨e1, e2, e3⟩ | ⟨h, _⟩
      · exact ⟨.inr ⟨e1, e2⟩, e3 ▸ hlt⟩
      · exact ⟨.inl (g.rn _ _ _ h).1, (g.rn _ _ _ h).2⟩
    · rcases rcases' h1 with ⟨e1, e2, e3⟩ | ⟨h1, _⟩ <;> rcases rcases' h2 with ⟨f1, f2, f3⟩ | ⟨h2, _⟩
      · exact ⟨e1.trans f1.symm, e2.trans f2.symm⟩
      · exact absurd (by rw [← he, e3]) (hnρ _ _ _ h2)
      · exact absurd (by rw [he, f3]) (hnρ _ _ _ h1)
      · exact g.inj _ _ _ _ _ _ h1 h2 he
    · rcases rcases' h with ⟨e1, e2, e3⟩ | ⟨h, hne⟩
      · subst e3
        intro e
        exact hnD (e ▸ hk)
      · refine g.disj k b u q hk h ?_
        obtain ⟨k', h1, h2, h3⟩ := hwr
        rcases cases' h1 with ⟨_, h1⟩ | ⟨h1, _⟩
        · exact ⟨k', h1, h2, h3⟩
        · exact absurd h1 hne
    · rcases cases' hk with ⟨h1, h2⟩ | ⟨h1, rfl⟩
      · obtain ⟨q, h3, h4⟩ := g.tot b k h2 hgk
        refine ⟨q, by rw [ρold (by omega)]; exact h3, HasBlk.mono (c := c) (c' := c.adopt H.length l) (fun _ _ => rfl) (fun _ h => h) (fun _ _ h => Or.inl h) m4 rfl h4⟩
      · subst h1
        exact ⟨l, by simp [Cx.adopt], hb⟩
    · rcases rcases' h with ⟨e1, e2, e3⟩ | ⟨h, hne⟩
      · subst e1 e2
        rw [hlast] at hk
        cases hk; rfl
      · rcases cases' hk with ⟨_, h2⟩ | ⟨h1, _⟩
        · exact g.one b u q k h h2 hgk
        · exact absurd h1 hne
    · rcases cases' hk with ⟨h1, h2⟩ | ⟨h1, rfl⟩
      · rw [ρold (by omega)] at h
        exact g.rod b k q h2 hro hgk h
      · cases hro
  · refine ⟨n.os, n.tape, n.output, n.size, n.keep, n.dsub, fun k hk => ?_, fun b u h => .inl (n.nsub b u h), fun b u h => ?_, fun b u q hn h => n.rold b u q hn (m4 b u q (n.nsub b u hn) h), fun b u q h hw => ?_, fun b u q h => ?_, by have := n.hlen; simp; omega, fun b k hk hnw => ?_, fun b k hk => ?_⟩
    · rcases n.dnew k hk with h | h | ⟨b, u, q, h1, h2, h3, h4⟩
      · exact .inl h
      · exact .inr (.inl h)
      · refine .inr (.inr ⟨b, u, q, h1, h2, h3, fun hw => h4 ?_⟩)
        obtain ⟨k', h5, h6, h7⟩ := hw
        rcases cases' h5 with ⟨_, h5⟩ | ⟨h5, _⟩
        · exact ⟨k', h5, h6, h7⟩
        · have := writable_lt h3; have := n.hlen; omega
    · rcases h with h | ⟨rfl, rfl⟩
      · rcases n.nnew b u h with h | h | h
        · exact .inl h
        · exact .inr (.inl ⟨h.1, by simp; omega⟩)
        · exact .inr (.inr h)
      · exact .inr (.inl ⟨n.hlen, by simp⟩)
    · have := n.rkeep b u q h hw
      rw [ρold (fun e => fresh u (e ▸ (g.rn _ _ _ this).1))]
      exact this
    · rcases rcases' h with ⟨e1, e2, e3⟩ | ⟨h, _⟩
      · exact .inr (.inl (e3 ▸ hge))
      · exact n.rnew b u q h
    · have := n.hkeep b k hk hnw
      rw [hget b (List.getElem?_eq_some_iff.1 this).1]
      exact this
    · obtain ⟨k', h1, h2⟩ := n.hver b k hk
      exact ⟨k', by rw [hget b (List.getElem?_eq_some_iff.1 h1).1]; exact h1, h2⟩

/-- What has been taken over, and what is left to take. -/
structure Took (c0 : Cx) (B : Nat) (H0 : Heap) (c : Cx) (H : Heap) (os : List Nat) : Prop where
  good : Good c B H
  nxt : Nxt c0 c H0 H
  lt : ∀ k, k ∈ os → k < c.w.heap.size ∧ c0.w.heap.size ≤ k ∧ ¬ c.D k ∧ ∀ b u q, c.ρ b u = some q → q.blk ≠ k
  nd : os.Nodup

/-- From one context to a later one of the same world. -/
structure Later (c c' : Cx) : Prop where
  w : c'.w = c.w
  D : c'.D = c.D
  n : ∀ b u, c.N b u → c'.N b u
  r : ∀ b u l, c.N b u → c'.ρ b u = some l → c.ρ b u = some l

theorem Later.refl (c : Cx) : Later c c := ⟨rfl, rfl, fun _ _ h => h, fun _ _ _ _ h => h⟩
theorem Later.trans {a b c : Cx} (h : Later a b) (k : Later b c) : Later a c := ⟨k.w.trans h.w, k.D.trans h.D, fun x u q => k.n x u (h.n x u q), fun x u l q p => h.r x u l q (k.r x u l (h.n x u q) p)⟩
theorem Later.rep {c c' : Cx} (h : Later c c') {a : AV} {v : Value} (r : Rep c a v) : Rep c' a v :=
  r.mono (fun k _ => by rw [h.w]) (fun k hk => by rw [h.D]; exact hk) h.n h.r

theorem takeAll_rep {c0 : Cx} {H0 : Heap} {f : Heap → AV → AV × Heap} (G : AV → Prop) (hf : ∀ (c : Cx) (H : Heap) (os rest : List Nat) (a : AV) (v : Value), G a → Took c0 B H0 c H (os ++ rest) → RepA c.w c.D a v os → (f H a).2.length ≤ B →
      ∃ c', Later c c' ∧ Took c0 B H0 c' (f H a).2 rest ∧ Rep c' (f H a).1 v) (hlen : ∀ H a, H.length ≤ (f H a).2.length) : ∀ (l : List AV) (c : Cx) (H : Heap) (oss : List (List Nat)) (rest : List Nat) (vs : List Value),
    (∀ a, a ∈ l → G a) → Took c0 B H0 c H (oss.flatten ++ rest) → (e : l.length = vs.length) → (ho : oss.length = l.length) → (∀ i (h : i < l.length), RepA c.w c.D l[i] (vs[i]'(e ▸ h)) (oss[i]'(ho ▸ h))) →
    (takeAll f H l).2.length ≤ B → ∃ c', Later c c' ∧ Took c0 B H0 c' (takeAll f H l).2 rest ∧ RepL c' (takeAll f H l).1 vs
  | [], c, H, oss, rest, vs, _, t, e, ho, hr, hB => by
    have : oss = [] := List.eq_nil_of_length_eq_zero (by simpa using ho)
    subst this
    have : vs = [] := List.eq_nil_of_length_eq_zero (by simpa using e.symm)
    subst this
    exact ⟨c, .refl c, by simpa [takeAll] using t, .nil _⟩
  | a :: l, c, H, [], rest, vs, _, t, e, ho, hr, hB => absurd ho (by simp)
  | a :: l, c, H, os :: oss, rest, [], _, t, e, ho, hr, hB => absurd e (by simp)
  | a :: l, c, H, os :: oss, rest, v :: vs, hG, t, e, ho, hr, hB => by
    simp only [takeAll] at hB ⊢
    have hmono : ∀ (l : List AV) (H : Heap), H.length ≤ (takeAll f H l).2.length := by
      intro l
      induction l with
      | nil => intro H; exact Nat.le_refl _
      | cons a l ih => intro H; simp only [takeAll]; exact Nat.le_trans (hlen H a) (ih _)
    have hB1 : (f H a).2.length ≤ B := Nat.le_trans (hmono l _) hB
    have t' : Took c0 B H0 c H (os ++ (oss.flatten ++ rest)) := by simpa [List.append_assoc] using t
    obtain ⟨c1, l1, t1, r1⟩ := hf c H os (oss.flatten ++ rest) a v (hG a (by simp)) t' (hr 0 (by simp)) hB1
    obtain ⟨c2, l2, t2, r2⟩ := takeAll_rep G hf hlen l c1 (f H a).2 oss rest vs (fun a h => hG a (by simp [h])) t1 (by simpa using e) (by simpa using ho) (fun i h => by
      rw [l1.w, l1.D]
      exact hr (i + 1) (by simpa using h)) hB
    exact ⟨c2, l1.trans l2, t2, .cons (l2.rep r1) r2⟩

theorem takeAll_len {f : Heap → AV → AV × Heap} (hlen : ∀ H a, H.length ≤ (f H a).2.length) : ∀ (l : List AV) (H : Heap), H.length ≤ (takeAll f H l).2.length
  | [], H => Nat.le_refl _
  | a :: l, H => by simp only [takeAll]; exact Nat.le_trans (hlen H a) (takeAll_len hlen l _)

theorem take_len : ∀ (d : Nat) (H : Heap) (a : AV), H.length ≤ (take d H a).2.length
  | 0, H, a => Nat.le_refl _
  | d + 1, H, a => by
    cases a with
    | own es => cases es <;> simp [take]
    | agg cs => simp only [take]; exact takeAll_len (take_len d) cs H
    | tuple cs => simp only [take]; exact takeAll_len (take_len d) cs H
    | iface t x => simp only [take]; exact take_len d H x
    | _ => exact Nat.le_refl _

/-- What has no own slice is handed on as it is. -/
theorem take_repI {w : World} {D : Nat → Prop} : ∀ (d : Nat) (H : Heap) {a : AV} {v : Value}, RepI w D a v → take d H a = (a, H)
  | 0, H, a, v, h => rfl
  | d + 1, H, a, v, h => by
    cases h with
    | agg cs vs hl h1 hr =>
      have : ∀ (l : List AV) (H : Heap), (∀ a, a ∈ l → ∃ v, RepI w D a v) → takeAll (take d) H l = (l, H) := by
        intro l
        induction l with
        | nil => intro H _; rfl
        | cons a l ih =>
          intro H h
          obtain ⟨v, hv⟩ := h a (by simp)
          simp only [takeAll, take_repI d H hv, ih H (fun a h' => h a (by simp [h']))]
      simp only [take, this cs H (fun a ha => by obtain ⟨i, hi, rfl⟩ := List.getElem_of_mem ha; exact ⟨_, hr i hi⟩)]
    | tuple cs vs hl hr =>
      have : ∀ (l : List AV) (H : Heap), (∀ a, a ∈ l → ∃ v, RepI w D a v) → takeAll (take d) H l = (l, H) := by
        intro l
        induction l with
        | nil => intro H _; rfl
        | cons a l ih =>
          intro H h
          obtain ⟨v, hv⟩ := h a (by simp)
          simp only [takeAll, take_repI d H hv, ih H (fun a h' => h a (by simp [h']))]
      simp only [take, this cs H (fun a ha => by obtain ⟨i, hi, rfl⟩ := List.getElem_of_mem ha; exact ⟨_, hr i hi⟩)]
    | iface t a v h => simp only [take, take_repI d H h]
    | _ => rfl

theorem take_give {c0 : Cx} {H0 H2 : Heap} : ∀ (d : Nat) (c : Cx) (H : Heap) (os rest : List Nat) (a' : AV) (v : Value), (∃ a, give d H2 a = some a') → Took c0 B H0 c H (os ++ rest) → RepA c.w c.D a' v os → Good c0 B H0 → (take d H a').2.length ≤ B →
    ∃ c', Later c c' ∧ Took c0 B H0 c' (take d H a').2 rest ∧ Rep c' (take d H a').1 v
  | 0, c, H, os, rest, a', v, ⟨a, h⟩, _, _, _, _ => by simp [give] at h
  | d + 1, c, H, os, rest, a', v, ⟨a, h⟩, t, ha, g0, hB => by
    have imm : ∀ {a' : AV}, RepI c.w c.D a' v → os = [] → (take (d + 1) H a').2.length ≤ B → ∃ c', Later c c' ∧ Took c0 B H0 c' (take (d + 1) H a').2 rest ∧ Rep c' (take (d + 1) H a').1 v := fun {a'} hi ho _ => by
      subst ho
      rw [take_repI (d + 1) H hi]
      exact ⟨c, .refl c, by simpa using t, .imm hi⟩
    cases a with
    | sl b u o n =>
      simp only [give, Option.bind_eq_some_iff] at h
      obtain ⟨rows, hrows, rows', hrows', e⟩ := h
      cases e
      cases ha with
      | imm h => cases h
      | own0 a cap => exact ⟨c, .refl c, by simpa [take] using t, .imm (.lst0 _ _ _ (fun h => by cases h))⟩
      | own es blk off cap sz cs el f hne h0 hc hfit hheap hsz hcell h1 hr =>
        obtain ⟨r, es, rfl⟩ : ∃ r es, rows' = r :: es := by
          cases rows' with
          | nil => exact absurd rfl hne
          | cons r es => exact ⟨r, es, rfl⟩
        simp only [take] at hB ⊢
        have hr0 : r.length = sz := hsz 0 (by simp)
        obtain ⟨hlt, hge, hnD, hnρ⟩ := t.lt blk (by simp)
        let l : Loc := ⟨blk, off, sz, cs.size, el⟩
        have hfl : off + (r :: es).length * sz ≤ cs.size := Nat.le_trans (Nat.add_le_add_left (Nat.mul_le_mul_right _ hc) _) hfit
        have mono : ∀ {x : AV} {y : Value}, RepI c.w c.D x y → Rep (c.adopt H.length l) x y := fun h => .imm h
        have hlB : H.length + 1 ≤ B := by simpa using hB
        obtain ⟨q1, q2⟩ := good_adopt g0 t.good t.nxt hlB l hlt hge hnD hnρ (.cells r.length (r :: es)) rfl (by
          refine ⟨hr0.symm, hr0.symm ▸ h0, by rw [hr0]; exact hfl, fun i h => by rw [hr0]; exact hsz i h, cs, f, hheap, rfl, fun i h j hj => ⟨by rw [hr0]; exact hcell i h j hj, h1 i h j hj, mono (hr i h j hj)⟩⟩)
        refine ⟨c.adopt H.length l, ⟨rfl, rfl, fun _ _ h => Or.inl h, fun b u l' hn h => ?_⟩, ⟨q1, q2, fun k hk => ?_, ?_⟩, ?_⟩
        · simp only [Cx.adopt] at h
          split at h
          · rename_i e
            exact absurd (e.1 ▸ hn) (fresh_name t.good hlB _)
          · exact h
        · obtain ⟨p1, p2, p3, p4⟩ := t.lt k (by simp [hk])
          refine ⟨p1, p2, p3, fun b u q hq => ?_⟩
          simp only [Cx.adopt] at hq
          split at hq
          · cases hq
            intro e
            have := t.nd
            simp only [List.singleton_append, List.nodup_cons] at this
            have e' : blk = k := e
            exact this.1 (e' ▸ hk)
          · exact p4 b u q hq
        · have := t.nd
          simp only [List.singleton_append, List.nodup_cons] at this
          exact this.2
        · refine Rep.sl _ _ _ _ (Or.inr ⟨rfl, rfl⟩) _ _ hc (fun q hq => ?_)
          simp [Cx.adopt] at hq
          subst hq
          simp [l, hfit]
    | agg cs =>
      simp only [give, Option.bind_eq_some_iff] at h
      obtain ⟨cs', hcs, e⟩ := h
      cases e
      cases ha with
      | imm h => exact imm h rfl hB
      | agg cs vs hl h1 oss ho2 hr =>
        obtain ⟨e, hg⟩ := frzAll_get hcs
        simp only [take] at hB ⊢
        obtain ⟨c', l', t', r'⟩ := takeAll_rep (f := take d) (fun a' => ∃ a, give d H2 a = some a') (fun c H os rest a v hG t ha hB => take_give d c H os rest a v hG t ha g0 hB) (take_len d) cs' c H oss rest vs.toList
          (fun a ha => by obtain ⟨i, hi, rfl⟩ := List.getElem_of_mem ha; exact ⟨_, hg i hi⟩) t (by simpa using hl) ho2 (fun i h => by simpa using hr i h) hB
        exact ⟨c', l', t', by
          have := RepL.agg (vs := vs) r' (fun x hx => by
            obtain ⟨i, hi, rfl⟩ := List.getElem_of_mem hx
            simpa using h1 i (by simpa using hi))
          exact this⟩
    | tuple cs =>
      simp only [give, Option.bind_eq_some_iff] at h
      obtain ⟨cs', hcs, e⟩ := h
      cases e
      cases ha with
      | imm h => exact imm h rfl hB
      | tuple cs vs hl oss ho2 hr =>
        obtain ⟨e, hg⟩ := frzAll_get hcs
        simp only [take] at hB ⊢
        obtain ⟨c', l', t', r'⟩ := takeAll_rep (f := take d) (fun a' => ∃ a, give d H2 a = some a') (fun c H os rest a v hG t ha hB => take_give d c H os rest a v hG t ha g0 hB) (take_len d) cs' c H oss rest vs.toList
          (fun a ha => by obtain ⟨i, hi, rfl⟩ := List.getElem_of_mem ha; exact ⟨_, hg i hi⟩) t (by simpa using hl) ho2 (fun i h => by simpa using hr i h) hB
        obtain ⟨e3, r3⟩ := r'
        exact ⟨c', l', t', .tuple _ vs (by simpa using e3) (fun i h => by simpa using r3 i h)⟩
    | iface t x =>
      simp only [give, Option.bind_eq_some_iff] at h
      obtain ⟨x', hx, e⟩ := h
      cases e
      cases ha with
      | imm h => exact imm h rfl hB
      | iface t a v os h =>
        simp only [take] at hB ⊢
        obtain ⟨c', l', t', r'⟩ := take_give d c H os rest x' v ⟨x, hx⟩ ‹Took c0 B H0 c H (os ++ rest)› h g0 hB
        exact ⟨c', l', t', .iface _ _ _ r'⟩
    | _ =>
      simp only [give] at h
      obtain ⟨q1, q2, q3, q4⟩ := frz_plain h (by simp) (by simp) (by simp)
      obtain ⟨hi, ho⟩ := ha.inner q1 q2 q3 q4
      exact imm hi ho hB

end Go.Abs
