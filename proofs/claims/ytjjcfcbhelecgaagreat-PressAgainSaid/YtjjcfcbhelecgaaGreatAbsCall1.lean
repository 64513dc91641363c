/- What is handed to a call of its own, and what it hands back. Conditions: those of each lemma. -/
import Derived.Test.YtjjcfcbhelecgaaGreatAbsVal
set_option linter.unusedVariables false
set_option linter.unusedSimpArgs false
namespace Go.Abs
variable {c : Cx} {B : Nat} {H : Heap}

/-! ### Lists -/
theorem frzAll_get {f : AV → Option AV} : ∀ {l l' : List AV}, frzAll f l = some l' → ∃ h : l'.length = l.length, ∀ i (hi : i < l'.length), f (l[i]'(h ▸ hi)) = some l'[i]
  | [], l', h => by cases h; exact ⟨rfl, fun i hi => absurd hi (by simp)⟩
  | a :: l, l', h => by
    simp only [frzAll, Option.bind_eq_some_iff] at h
    obtain ⟨x, hx, xs, hxs, e⟩ := h
    cases e
    obtain ⟨hl, ih⟩ := frzAll_get hxs
    refine ⟨by simp [hl], fun i hi => ?_⟩
    cases i with
    | zero => exact hx
    | succ i => exact ih i (by simpa using hi)

theorem frzRows_get {f : AV → Option AV} : ∀ {l l' : Rows}, frzRows f l = some l' → ∃ h : l'.length = l.length, ∀ i (hi : i < l'.length), frzAll f (l[i]'(h ▸ hi)) = some l'[i]
  | [], l', h => by cases h; exact ⟨rfl, fun i hi => absurd hi (by simp)⟩
  | a :: l, l', h => by
    simp only [frzRows, Option.bind_eq_some_iff] at h
    obtain ⟨x, hx, xs, hxs, e⟩ := h
    cases e
    obtain ⟨hl, ih⟩ := frzRows_get hxs
    refine ⟨by simp [hl], fun i hi => ?_⟩
    cases i with
    | zero => exact hx
    | succ i => exact ih i (by simpa using hi)

theorem metAll_mem {f : AV → List Nat} {b : Nat} : ∀ {l : List AV} {i : Nat} (hi : i < l.length), b ∈ f l[i] → b ∈ metAll f l
  | [], i, hi, _ => absurd hi (by simp)
  | a :: l, 0, hi, h => by simp [metAll]; exact .inl h
  | a :: l, i + 1, hi, h => by simp [metAll]; exact .inr (metAll_mem (by simpa using hi) h)

theorem metRows_mem {f : AV → List Nat} {b : Nat} : ∀ {l : Rows} {i : Nat} (hi : i < l.length), b ∈ metAll f l[i] → b ∈ metRows f l
  | [], i, hi, _ => absurd hi (by simp)
  | a :: l, 0, hi, h => by simp [metRows]; exact .inl h
  | a :: l, i + 1, hi, h => by simp [metRows]; exact .inr (metRows_mem (by simpa using hi) h)

theorem metAll_inv {f : AV → List Nat} {b : Nat} : ∀ {l : List AV}, b ∈ metAll f l → ∃ i, ∃ (hi : i < l.length), b ∈ f l[i]
  | [], h => by simp [metAll] at h
  | a :: l, h => by
    simp only [metAll, List.mem_append] at h
    rcases h with h | h
    · exact ⟨0, by simp, h⟩
    · obtain ⟨i, hi, h⟩ := metAll_inv h
      exact ⟨i + 1, by simpa using hi, h⟩

theorem metRows_inv {f : AV → List Nat} {b : Nat} : ∀ {l : Rows}, b ∈ metRows f l → ∃ i, ∃ (hi : i < l.length), b ∈ metAll f l[i]
  | [], h => by simp [metRows] at h
  | a :: l, h => by
    simp only [metRows, List.mem_append] at h
    rcases h with h | h
    · exact ⟨0, by simp, h⟩
    · obtain ⟨i, hi, h⟩ := metRows_inv h
      exact ⟨i + 1, by simpa using hi, h⟩

theorem rowsOf_eq {b u o n : Nat} {rows : Rows} (h : rowsOf H b u o n = some rows) : ∃ ro sz es, H[b]? = some ⟨u, ro, .cells sz es⟩ ∧ o + n ≤ es.length ∧ rows = (es.drop o).take n := by
  unfold rowsOf at h
  split at h
  · rename_i u' ro sz es hb
    cases hc : (Nat.beq u' u && Nat.ble (o + n) es.length) with
    | false => simp [hc] at h
    | true =>
      simp only [hc, cond_true] at h
      cases h
      simp only [Bool.and_eq_true] at hc
      have hu := Nat.eq_of_beq_eq_true hc.1
      subst hu
      exact ⟨ro, sz, es, hb, Nat.le_of_ble_eq_true hc.2, rfl⟩
  · cases h

/-- The rows of an own slice, in the machine's memory. -/
theorem own_rows {b u o n : Nat} {v : Value} {rows : Rows} (g : Good c B H) (ha : Rep c (.sl b u o n) v) (hr : rowsOf H b u o n = some rows) :
    ∃ l cap cs, v = .slice (some ⟨l.blk, l.off + o * l.sz, none⟩) n cap ∧ c.ρ b u = some l ∧ rows.length = n ∧ n ≤ cap ∧ 0 < l.sz ∧ l.off + (o + cap) * l.sz ≤ cs.size ∧ c.w.heap[l.blk]? = some (.cells cs l.el (0, 0)) ∧
      (∀ i (h : i < rows.length), rows[i].length = l.sz) ∧
      ∃ f : Nat → Nat → Value, ∀ i (h : i < rows.length) j (hj : j < rows[i].length), cs[l.off + o * l.sz + i * l.sz + j]? = some (f i j) ∧ (f i j).oneCell' = true ∧ Rep c rows[i][j] (f i j) := by
  obtain ⟨ro, sz, es, hb, hle, rfl⟩ := rowsOf_eq hr
  obtain ⟨ad, cap, rfl, hN, hcap, hl⟩ := ha.sl_eq
  obtain ⟨l, hl1, hss, hs0, hfit, hlen, cs, f, hheap, hcs, hcell⟩ := g.tot b _ hb rfl
  obtain ⟨e1, e2⟩ := hl l hl1
  subst e1
  subst hss
  have hget : ∀ i (h : i < ((es.drop o).take n).length), ((es.drop o).take n)[i] = es[o + i]'(by simp at h; omega) := fun i h => by simp
  refine ⟨l, cap, cs, rfl, hl1, by simp; omega, hcap, hs0, by omega, hheap, fun i h => by rw [hget i h]; exact hlen _ _, fun i j => f (o + i) j, fun i h j hj => ?_⟩
  have h1 := hcell (o + i) (by simp at h; omega) j (by rw [hget i h] at hj; exact hj)
  refine ⟨?_, h1.2.1, by simpa using h1.2.2⟩
  rw [← h1.1]
  congr 1
  rw [Nat.add_mul]; omega

theorem frz_rep {D2 : Nat → Prop} (g : Good c B H) (hD : ∀ k, c.D k → D2 k) : ∀ (d : Nat) {a a' : AV} {v : Value}, frz d H a = some a' → Rep c a v → (∀ b, b ∈ met d H a → ∀ u l, c.ρ b u = some l → D2 l.blk) → RepI c.w D2 a' v
  | 0, a, a', v, h, _, _ => by simp [frz] at h
  | d + 1, a, a', v, h, ha, hm => by
    have ih := fun {a a' : AV} {v : Value} => frz_rep g hD d (a := a) (a' := a') (v := v)
    have ihL : ∀ {l l' : List AV} {vs : List Value}, frzAll (frz d H) l = some l' → RepL c l vs → (∀ b, b ∈ metAll (met d H) l → ∀ u q, c.ρ b u = some q → D2 q.blk) →
        ∃ e : l'.length = vs.length, ∀ i (h : i < l'.length), RepI c.w D2 l'[i] (vs[i]'(e ▸ h)) := fun {l l' vs} hl hr hb => by
      obtain ⟨e, hg⟩ := frzAll_get hl
      obtain ⟨e2, hr⟩ := hr
      refine ⟨e.trans e2, fun i h => ?_⟩
      exact ih (hg i h) (hr i (e ▸ h)) (fun b hb' u q hq => hb b (metAll_mem (e ▸ h) hb') u q hq)
    cases a with
    | sl b u o n =>
      simp only [frz, Option.bind_eq_some_iff] at h
      obtain ⟨rows, hrows, rows', hrows', e⟩ := h
      cases e
      obtain ⟨l, cap, cs, rfl, hl, hn, hcap, h0, hfit, hheap, hsz, f, hcell⟩ := own_rows g ha hrows
      obtain ⟨e, hg⟩ := frzRows_get hrows'
      rcases Classical.em (rows' = []) with hz | hz
      · subst hz
        have hn0 : n = 0 := by simp at e; omega
        subst hn0
        exact .lst0 _ _ _ (fun h => by cases h)
      · have hlen : ∀ i (h : i < rows'.length), rows'[i].length = l.sz := fun i h => by
          obtain ⟨e2, _⟩ := frzAll_get (hg i h)
          rw [e2, hsz i (e ▸ h)]
        have hel : ∀ i (h : i < rows'.length) j (hj : j < rows'[i].length), ∃ (h2 : i < rows.length) (h3 : j < rows[i].length), frz d H rows[i][j] = some rows'[i][j] := fun i h j hj => by
          obtain ⟨e2, hg2⟩ := frzAll_get (hg i h)
          exact ⟨e ▸ h, e2 ▸ hj, hg2 j hj⟩
        have hr := RepI.lst (w := c.w) (D := D2) rows' false l.blk (l.off + o * l.sz) cap l.sz f hz
          (hm b (by simp [met]) u l hl) hlen (fun h => by cases h) (by rw [e, hn]; exact hcap)
          (fun i h j hj => by
            obtain ⟨h2, h3, _⟩ := hel i h j hj
            have := (hcell i h2 j h3).1
            simp only [World.cell?, hheap]
            simpa using this)
          (fun i h j hj => by
            obtain ⟨h2, h3, _⟩ := hel i h j hj
            exact (hcell i h2 j h3).2.1)
          (fun i h j hj => by
            obtain ⟨h2, h3, h4⟩ := hel i h j hj
            exact ih h4 (hcell i h2 j h3).2.2 (fun b' hb' u' q hq => hm b' (by
              simp only [met, List.mem_cons]
              right
              rw [hrows]
              exact metRows_mem h2 (metAll_mem h3 hb')) u' q hq))
        rw [e, hn] at hr
        exact hr
    | agg cs =>
      simp only [frz, Option.bind_eq_some_iff] at h
      obtain ⟨cs', hcs, e⟩ := h
      cases e
      obtain ⟨vs, hl, rfl, h1, hr⟩ := ha.agg_eq
      obtain ⟨e, hr'⟩ := ihL hcs (repL_of_array hl hr) (fun b hb => hm b (by simpa [met] using hb))
      exact .agg cs' vs (by simpa using e) h1 (fun i h => by simpa using hr' i h)
    | tuple cs =>
      simp only [frz, Option.bind_eq_some_iff] at h
      obtain ⟨cs', hcs, e⟩ := h
      cases e
      obtain ⟨vs, hl, rfl, hr⟩ := ha.tuple_eq
      obtain ⟨e, hr'⟩ := ihL hcs (repL_of_array hl hr) (fun b hb => hm b (by simpa [met] using hb))
      exact .tuple cs' vs (by simpa using e) (fun i h => by simpa using hr' i h)
    | iface t x =>
      simp only [frz, Option.bind_eq_some_iff] at h
      obtain ⟨x', hx, e⟩ := h
      cases e
      obtain ⟨u, rfl, hr⟩ := ha.iface_eq
      exact .iface t x' u (ih hx hr (fun b hb => hm b (by simpa [met] using hb)))
    | func f x y =>
      simp only [frz, Option.bind_eq_some_iff] at h
      obtain ⟨x', hx, y', hy, e⟩ := h
      cases e
      obtain ⟨X, Y, rfl, hrx, hry⟩ := ha.func_eq
      obtain ⟨ex, hx'⟩ := ihL hx hrx (fun b hb => hm b (by simp only [met, List.mem_append]; exact .inl hb))
      obtain ⟨ey, hy'⟩ := ihL hy hry (fun b hb => hm b (by simp only [met, List.mem_append]; exact .inr hb))
      exact .func f x' y' X Y (by simpa using ex) (by simpa using ey) (fun i h => by simpa using hx' i h) (fun i h => by simpa using hy' i h)
    | mref b =>
      simp only [frz] at h
      split at h
      · rename_i ro es hb
        simp only [Option.bind_eq_some_iff] at h
        obtain ⟨vs, hvs, e⟩ := h
        cases e
        obtain ⟨r, rfl, hN, hl⟩ := ha.mref_eq
        obtain ⟨l, hl1, ents, clock, hheap, hlen, hkeys, hvals⟩ := g.tot b _ hb rfl
        have hr := hl l hl1
        subst hr
        obtain ⟨e, hg⟩ := frzAll_get hvs
        have hzl : ((es.map (·.1)).zip vs).length = es.length := by simp at e ⊢; omega
        have hzi : ∀ i (h : i < ((es.map (·.1)).zip vs).length), ((es.map (·.1)).zip vs)[i].1 = (es[i]'(hzl ▸ h)).1 := fun i h => by simp
        refine .mp _ l.blk ents clock (hm b (by simp [met]) 0 l hl1) hheap (by rw [hzl, hlen]) (fun i h => ?_) (fun i h => ?_)
        · rw [hzi i h]; exact hkeys i (hzl ▸ h)
        · have hi : i < vs.length := by simp at h; omega
          have hie : i < es.length := hzl ▸ h
          have h2 : ((es.map (·.1)).zip vs)[i].2 = vs[i] := by simp
          rw [h2]
          refine ih (hg i hi) ?_ (fun b' hb' u' q hq => hm b' (by
              simp only [met, List.mem_cons, hb]
              exact .inr (metAll_mem (e ▸ hi) hb')) u' q hq)
          simpa using hvals i hie
      · cases h
    | ptr b u i o => simp [frz] at h
    | own es => simp [frz] at h
    | _ =>
      simp only [frz] at h
      cases h
      exact (ha.inner (by simp) (by simp) (by simp) (by simp) (by simp) (by simp) (by simp)).mono (fun _ _ => rfl) hD

end Go.Abs
