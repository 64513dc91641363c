/- append, copy, and a text out of bytes. Conditions: those of each lemma. -/
import Derived.Test.YtjjcfcbhelecgaaGreatAbsOps5
set_option linter.unusedVariables false
set_option linter.unusedSimpArgs false
namespace Go.Abs
variable {P : Program} {c : Cx} {B : Nat} {H : Heap} {e : Env} {act : Act}

theorem repL_flatten {rows : Rows} {f : Nat → Nat → Value} {sz : Nat} (hs : ∀ i (h : i < rows.length), rows[i].length = sz) (hr : ∀ i (h : i < rows.length) j (hj : j < rows[i].length), Rep c rows[i][j] (f i j)) :
    RepL c rows.flatten ((List.range (rows.length * sz)).map fun k => f (k / sz) (k % sz)) := by
  have hs' : ∀ r ∈ rows, r.length = sz := fun r hr => by
    obtain ⟨i, hi, rfl⟩ := List.getElem_of_mem hr
    exact hs i hi
  have hl := flatten_len rows hs'
  refine ⟨by simp [hl], fun k hk => ?_⟩
  rw [hl] at hk
  have h0 : 0 < sz := by
    rcases Nat.eq_zero_or_pos sz with h | h
    · rw [h] at hk; simp at hk
    · exact h
  have hi : k / sz < rows.length := Nat.div_lt_of_lt_mul (by rw [Nat.mul_comm]; exact hk)
  have hj : k % sz < rows[k / sz].length := by rw [hs _ hi]; exact Nat.mod_lt _ h0
  have hf := flatten_get rows hs' (k / sz) hi (k % sz) hj
  have e1 : k / sz * sz + k % sz = k := by rw [Nat.mul_comm]; exact Nat.div_add_mod k sz
  rw [e1] at hf
  obtain ⟨_, he⟩ := List.getElem?_eq_some_iff.1 hf
  rw [he]
  simp only [List.getElem_map, List.getElem_range]
  exact hr _ hi _ hj

/-- What can be read of any slice. -/
structure Reads (P : Program) (c : Cx) (sz : Nat) (v : Value) (rows : Rows) (base : Option Addr) (cap : Nat) (vs : List Value) : Prop where
  val : v = .slice base rows.length cap
  cap : rows.length ≤ cap
  rep : RepL c rows.flatten vs
  one : ∀ x ∈ vs, x.oneCell' = true
  len : vs.length = rows.length * sz
  at_ : rows ≠ [] → ∃ blk off, base = some ⟨blk, off, none⟩ ∧ (∀ (j : Nat) (x : Value), vs[j]? = some x → c.w.cell? ⟨blk, off + j, none⟩ = some x) ∧ ∃ cs el fr, c.w.heap[blk]? = some (.cells cs el fr) ∧ off + rows.length * sz ≤ cs.size

theorem cell_block {w : World} {b o : Nat} {x : Value} (h : w.cell? ⟨b, o, none⟩ = some x) : ∃ cs el fr, w.heap[b]? = some (.cells cs el fr) ∧ o < cs.size := by
  unfold World.cell? at h
  split at h
  · rename_i cs el fr hb
    simp at h
    exact ⟨cs, el, fr, hb, (Array.getElem?_eq_some_iff.1 h).1⟩
  · cases h

theorem reads_any {a : AV} {v : Value} {rows : Rows} {sz : Nat} (g : Good c B H) (ha : Rep c a v) (hr : rowsAny H a = some rows) (hs : szOk sz rows = true) (h0 : 0 < sz) : ∃ base cap vs, Reads P c sz v rows base cap vs := by
  have hsz := szOk_eq hs
  have hsz' : ∀ r ∈ rows, r.length = sz := fun r hr => by
    obtain ⟨i, hi, rfl⟩ := List.getElem_of_mem hr
    exact hsz i hi
  unfold rowsAny at hr
  split at hr
  · cases hr
    have hi := ha.lst_i
    cases hi with
    | lst0 full a cap h => exact ⟨a, cap, [], rfl, Nat.zero_le _, .nil _, by simp, by simp, fun h => absurd rfl h⟩
    | lst es full blk off cap sz' f hne hD hsz2 hf hc hcell h1 hrr =>
      have hpos : 0 < rows.length := List.length_pos_iff.2 hne
      have hss : sz' = sz := by rw [← hsz2 0 hpos, hsz 0 hpos]
      subst hss
      have hfl := flatten_len rows hsz'
      refine ⟨some ⟨blk, off, none⟩, cap, (List.range (rows.length * sz')).map fun k => f (k / sz') (k % sz'), rfl, hc, repL_flatten hsz (fun i h j hj => .imm (hrr i h j hj)), fun x hx => ?_, by simp, fun _ => ⟨blk, off, rfl, fun k x hx => ?_, ?_⟩⟩
      · simp only [List.mem_map, List.mem_range] at hx
        obtain ⟨k, hk, rfl⟩ := hx
        have hi : k / sz' < rows.length := Nat.div_lt_of_lt_mul (by rw [Nat.mul_comm]; exact hk)
        exact h1 _ hi _ (by rw [hsz _ hi]; exact Nat.mod_lt _ h0)
      · have hk : k < rows.length * sz' := by have := (List.getElem?_eq_some_iff.1 hx).1; simpa using this
        simp [hk] at hx
        subst hx
        have hi : k / sz' < rows.length := Nat.div_lt_of_lt_mul (by rw [Nat.mul_comm]; exact hk)
        have := hcell (k / sz') hi (k % sz') (by rw [hsz _ hi]; exact Nat.mod_lt _ h0)
        have e1 : k / sz' * sz' + k % sz' = k := by rw [Nat.mul_comm]; exact Nat.div_add_mod k sz'
        rw [Nat.add_assoc, e1] at this
        exact this
      · have hi : rows.length - 1 < rows.length := by omega
        have := hcell (rows.length - 1) hi (sz' - 1) (by rw [hsz _ hi]; omega)
        obtain ⟨cs, el, fr, hb, hlt⟩ := cell_block this
        refine ⟨cs, el, fr, hb, ?_⟩
        have e1 : rows.length * sz' = (rows.length - 1) * sz' + sz' := by
          rw [← Nat.succ_mul]; congr 1; omega
        omega
  · rename_i b u o n
    unfold rowsOf at hr
    split at hr
    · rename_i u' ro s es hb
      obtain ⟨hc, rfl⟩ := bif_some hr
      simp only [Bool.and_eq_true] at hc
      have hu := beq_len hc.1
      subst hu
      have hle := Nat.le_of_ble_eq_true hc.2
      obtain ⟨ad, cap, rfl, hN, hcap, hl⟩ := ha.sl_eq
      obtain ⟨l, hl1, hss, hs0, hfit, hlen, cs, f, hheap, hcs, hcell⟩ := g.tot b _ hb rfl
      obtain ⟨e1, e2⟩ := hl l hl1
      subst e1
      have hrl : ((es.drop o).take n).length = n := by simp; omega
      have hget : ∀ i (h : i < ((es.drop o).take n).length), ((es.drop o).take n)[i] = es[o + i]'(by simp at h; omega) := fun i h => by simp
      rcases Nat.eq_zero_or_pos n with hn | hn
      · subst hn
        refine ⟨some ⟨l.blk, l.off + o * l.sz, none⟩, cap, [], by simp, by simp, ?_, by simp, by simp, fun h => absurd (by simp) h⟩
        simp
        exact .nil _
      · have hss2 : s = sz := by
          have h1 := hsz 0 (by rw [hrl]; exact hn)
          rw [hget 0 (by rw [hrl]; exact hn), hlen] at h1
          exact h1
        subst hss2
        refine ⟨_, cap, (List.range (n * s)).map fun k => f (o + k / s) (k % s), by rw [hrl], by rw [hrl]; exact hcap, ?_, fun x hx => ?_, by simp [hrl], fun _ => ⟨l.blk, l.off + o * l.sz, rfl, fun k x hx => ?_, cs, l.el, (0, 0), hheap, ?_⟩⟩
        · have := repL_flatten (c := c) (rows := (es.drop o).take n) (f := fun i j => f (o + i) j) hsz (fun i h j hj => by
            have := (hcell (o + i) (by simp at h; omega) j (by rw [hget i h] at hj; exact hj)).2.2
            simpa using this)
          rw [hrl] at this
          exact this
        · simp only [List.mem_map, List.mem_range] at hx
          obtain ⟨k, hk, rfl⟩ := hx
          have hi : k / s < n := Nat.div_lt_of_lt_mul (by rw [Nat.mul_comm]; exact hk)
          exact (hcell (o + k / s) (by omega) (k % s) (by rw [hlen]; exact Nat.mod_lt _ h0)).2.1
        · have hk : k < n * s := by have := (List.getElem?_eq_some_iff.1 hx).1; simpa using this
          simp [hk] at hx
          subst hx
          have hi : k / s < n := Nat.div_lt_of_lt_mul (by rw [Nat.mul_comm]; exact hk)
          have := (hcell (o + k / s) (by omega) (k % s) (by rw [hlen]; exact Nat.mod_lt _ h0)).1
          have e1 : k / s * s + k % s = k := by rw [Nat.mul_comm]; exact Nat.div_add_mod k s
          simp only [World.cell?, hheap, Option.isSome_none, Bool.false_eq_true, if_false]
          rw [← this, hss]
          congr 1
          rw [Nat.add_mul]; omega
        · rw [hrl, hcs, hss]
          have : (o + n) * s ≤ es.length * s := Nat.mul_le_mul_right _ hle
          rw [Nat.add_mul] at this
          omega
    · cases hr
  · cases hr

theorem Reads.src {sz : Nat} {v : Value} {rows : Rows} {base : Option Addr} {cap : Nat} {vs : List Value} (h : Reads P c sz v rows base cap vs) {tx e' : TypeId} (hk : P.underlying tx = some (.slice e')) : Src P sz tx v rows.length vs c.w := by
  rcases Classical.em (rows = []) with hz | hz
  · have hl := h.len
    rw [hz] at hl
    simp at hl
    rw [h.val, hz, hl]
    refine ⟨.inl ⟨e', hk⟩, fun _ => rfl, ?_, ?_, by simp, by simp⟩ <;> cases base <;> simp [Builtin.firstCells, loadCells, loadCellsFrom]
  · obtain ⟨blk, off, rfl, hc, _⟩ := h.at_ hz
    rw [h.val]
    exact Src.ofSlice c.w hk _ _ _ vs h.len (fun j u hj => by rw [Addr.add_lit]; exact hc j u hj) h.one

theorem Reads.olds {sz : Nat} {v : Value} {rows : Rows} {base : Option Addr} {cap : Nat} {vs : List Value} (h : Reads P c sz v rows base cap vs) : (Builtin.firstCells sz rows.length v).run P c.w.drew = .ok vs.toArray c.w.drew := by
  rcases Classical.em (rows = []) with hz | hz
  · have hl := h.len
    rw [hz] at hl
    simp at hl
    rw [h.val, hz, hl]
    cases base <;> simp [Builtin.firstCells, loadCells, loadCellsFrom]
  · obtain ⟨blk, off, rfl, hc, _⟩ := h.at_ hz
    rw [h.val]
    exact run_firstCells_some c.w.drew sz _ _ _ _ vs h.len (by simpa [Addr.add_lit] using hc)

theorem Reads.holds {sz : Nat} {v : Value} {rows : Rows} {base : Option Addr} {cap : Nat} {vs : List Value} (h : Reads P c sz v rows base cap vs) (hz : rows ≠ []) : ∃ blk off, base = some ⟨blk, off, none⟩ ∧ Room.holdsV c.w ⟨blk, off, none⟩ (rows.length * sz) = true := by
  obtain ⟨blk, off, rfl, hc, cs, el, fr, hb, hle⟩ := h.at_ hz
  exact ⟨blk, off, rfl, by simp [Room.holdsV, World.shape?, hb, hle]⟩

end Go.Abs
