/- Operations on memory: reading and writing. Conditions: those of each lemma. -/
import Derived.Test.YtjjcfcbhelecgaaGreatAbsOps
import Derived.Room.AppendAny
set_option linter.unusedVariables false
set_option linter.unusedSimpArgs false
namespace Go.Abs
variable {P : Program} {c : Cx} {B : Nat} {H : Heap} {e : Env} {act : Act}

theorem RepL.take {as : List AV} {vs : List Value} (h : RepL c as vs) (n : Nat) : RepL c (as.take n) (vs.take n) := by
  obtain ⟨e, h⟩ := h
  refine ⟨by simp [e], fun i hi => ?_⟩
  simp only [List.getElem_take]
  exact h i (by simp at hi; omega)
theorem RepL.drop {as : List AV} {vs : List Value} (h : RepL c as vs) (n : Nat) : RepL c (as.drop n) (vs.drop n) := by
  obtain ⟨e, h⟩ := h
  refine ⟨by simp [e], fun i hi => ?_⟩
  simp only [List.getElem_drop]
  exact h (n + i) (by simp at hi; omega)
theorem RepL.get {as : List AV} {vs : List Value} (h : RepL c as vs) {i : Nat} (hi : i < as.length) : ∃ v, vs[i]? = some v ∧ Rep c as[i] v :=
  ⟨vs[i]'(h.1 ▸ hi), List.getElem?_eq_getElem _, h.2 i hi⟩

/-- Cells of memory that hold a row. -/
structure AtRow (c : Cx) (ad : Addr) (r : Row) (vs : List Value) : Prop where
  rep : RepL c r vs
  one : ∀ x ∈ vs, x.oneCell' = true
  cell : ∀ j x, vs[j]? = some x → c.w.cell? (ad.add j) = some x

theorem beq_len {a b : Nat} (h : Nat.beq a b = true) : a = b := Nat.eq_of_beq_eq_true h

theorem loadRow_at {a : AV} {v : Value} {sz : Nat} {r : Row} (g : Good c B H) (ha : Rep c a v) (h : loadRow H a sz = some r) :
    ∃ (ad : Addr) (vs : List Value), v = .pointer (some ad) ∧ r.length = sz ∧ AtRow c ad r vs := by
  unfold loadRow at h
  split at h
  · rename_i b u i o
    split at h
    · rename_i u' ro s es hb
      split at h
      · rename_i row hrow
        cases hc : (Nat.beq u' u && Nat.ble (o + sz) row.length) with
        | false => simp [hc] at h
        | true =>
          simp [hc] at h
          subst h
          simp only [Bool.and_eq_true] at hc
          have hu := beq_len hc.1
          have hle := Nat.le_of_ble_eq_true hc.2
          subst hu
          obtain ⟨ad, rfl, hn, hl⟩ := ha.ptr_eq
          obtain ⟨l, h1, h2⟩ := g.tot b _ hb rfl
          obtain ⟨hs, hs0, hfit, hlen, cs, f, hheap, hcs, hcell⟩ := h2
          obtain ⟨hi, rfl⟩ := List.getElem?_eq_some_iff.1 hrow
          have had := hl l h1
          refine ⟨ad, (List.range sz).map fun j => f i (o + j), rfl, by simp; omega, ⟨⟨by simp; omega, fun j hj => ?_⟩, fun x hx => ?_, fun j x hx => ?_⟩⟩
          · simp only [List.getElem_take, List.getElem_drop, List.getElem_map, List.getElem_range]
            simp at hj
            exact (hcell i hi (o + j) (by omega)).2.2
          · simp only [List.mem_map, List.mem_range] at hx
            obtain ⟨j, hj, rfl⟩ := hx
            exact (hcell i hi (o + j) (by omega)).2.1
          · have hj : j < sz := by
              have := (List.getElem?_eq_some_iff.1 hx).1
              simpa using this
            simp [hj] at hx
            subst hx
            have := (hcell i hi (o + j) (by omega)).1
            rw [had, Addr.add_lit]
            simp only [World.cell?, hheap, Option.isSome_none, Bool.false_eq_true, if_false]
            rw [← this]
            congr 1
            rw [hs]; omega
      · cases h
    · cases h
  · rename_i r0 o
    cases hc : Nat.ble (o + sz) r0.length with
    | false => simp [hc] at h
    | true =>
      simp [hc] at h
      subst h
      have hle := Nat.le_of_ble_eq_true hc
      have hi := ha.vptr_i
      cases hi with
      | vptr r o blk off f hD hcell h1 hr =>
        refine ⟨_, (List.range sz).map fun j => f (o + j), rfl, by simp; omega, ⟨⟨by simp; omega, fun j hj => ?_⟩, fun x hx => ?_, fun j x hx => ?_⟩⟩
        · simp only [List.getElem_take, List.getElem_drop, List.getElem_map, List.getElem_range]
          simp at hj
          exact .imm (hr (o + j) (by omega))
        · simp only [List.mem_map, List.mem_range] at hx
          obtain ⟨j, hj, rfl⟩ := hx
          exact h1 (o + j) (by omega)
        · have hj : j < sz := by
            have := (List.getElem?_eq_some_iff.1 hx).1
            simpa using this
          simp [hj] at hx
          subst hx
          have := hcell (o + j) (by omega)
          rw [Addr.add_lit, ← this]
          congr 1
          simp; omega
  · cases h

theorem loadVar_run {t : TypeId} {g : Bool} {sz : Nat} (hg : aggOf P t = some g) (hs : sizeOf1 P t = some sz) (hgs : g = true ∨ sz = 1) {ad : Addr} {r : Row} {vs : List Value} (hr : r.length = sz) (h : AtRow c ad r vs) {a : AV}
    (hu : unrow g r = some a) : ∃ v, (loadVar t ad).run P c.w = .ok v c.w ∧ Rep c a v := by
  obtain ⟨u1, u2⟩ := unrow_rep hu h.rep h.one
  have hl : vs.length = sz := h.rep.1 ▸ hr
  cases g with
  | true =>
    refine ⟨.agg vs.toArray, ?_, u1 rfl⟩
    have := run_loadCells_list (P := P) c.w ad vs h.cell
    rw [hl] at this
    simp [loadVar, agg_run hg, size_run hs, this]
  | false =>
    obtain ⟨v, rfl, hv⟩ := u2 rfl
    refine ⟨v, ?_, hv⟩
    have := h.cell 0 v (by simp)
    have e : ad.add 0 = ad := by simp [Addr.add]
    rw [e] at this
    simp [loadVar, agg_run hg, this]

theorem sim_load {t : TypeId} {k : Bool} {s : Nat} {x : Operand} {x1 : Opd} {a : AV} {H' : Heap} {call : CallT} (hx : opd1 x = some x1)
    (hv : ev1 call e H (.load k s x1) = some (a, H')) (g : Good c B H) (he : RepE c e act.tmps) (o : Oper)
    (ho : o.op = .load t x) (hk : aggOf P t = some k) (hs : sizeOf1 P t = some s) (hks : k = true ∨ s = 1) : RunOk c B H a H' ((execOp act.eval o).run P c.w) := by
  simp only [ev1, Option.bind_eq_some_iff] at hv
  obtain ⟨p, hp, r, hr, b, hb, h⟩ := hv
  cases h
  obtain ⟨ad, vs, hpv, hl, hat⟩ := loadRow_at g (opd_rep (act := act) hx hp he) hr
  obtain ⟨v, h1, h2⟩ := loadVar_run hk hs hks hl hat hb
  exact .same g (v := v) (by simp [execOp, ho, hpv, Instr.loadAt, Instr.sureAddr, h1]) h2

/-! ### New blocks -/
theorem new_cells {sz : Nat} {rows : Rows} {vs : List Value} (g : Good c B H) (hB : H.length + 1 ≤ B) (h0 : 0 < sz) (hsz : ∀ r ∈ rows, r.length = sz)
    (hr : RepL c rows.flatten vs) (h1 : ∀ x ∈ vs, x.oneCell' = true) {cells : Array Value} (t : TypeId) (hc : ∀ (j : Nat) (x : Value), vs[j]? = some x → cells[j]? = some x) {w' : World}
    (hw : Grew c.w w' (.cells cells t (0, 0))) (hfit : rows.length * sz ≤ cells.size) :
    Good (c.new H.length ⟨c.w.heap.size, 0, sz, cells.size, t⟩ w') B (H ++ [⟨0, false, .cells sz rows⟩]) ∧ Nxt c (c.new H.length ⟨c.w.heap.size, 0, sz, cells.size, t⟩ w') H (H ++ [⟨0, false, .cells sz rows⟩]) := by
  obtain ⟨m1, m2, m3, m4⟩ := new_mono g hB _ ⟨c.w.heap.size, 0, sz, cells.size, t⟩ hw
  have hr' := hr.mono m1 m2 m3 m4
  refine good_new g hB _ _ rfl hw _ rfl ⟨rfl, h0, by simpa using hfit, fun i h => hsz _ (List.getElem_mem h), cells, fun i j => vs.getD (i * sz + j) default, hw.at_, rfl, fun i hi j hj => ?_⟩
  have hlen := hsz _ (List.getElem_mem hi)
  have hflat : rows.flatten[i * sz + j]? = some rows[i][j] := by
    have key : ∀ (rows : Rows), (∀ r ∈ rows, r.length = sz) → ∀ i (hi : i < rows.length) j (hj : j < rows[i].length), rows.flatten[i * sz + j]? = some rows[i][j] := by
      intro rows
      induction rows with
      | nil => intro _ i hi; simp at hi
      | cons r rows ih =>
        intro hs i hi j hj
        have hr := hs r (by simp)
        cases i with
        | zero =>
          simp at hj ⊢
          rw [List.getElem?_append_left hj, List.getElem?_eq_getElem hj]
        | succ i =>
          simp only [List.flatten_cons, List.getElem_cons_succ] at hj ⊢
          rw [List.getElem?_append_right (by rw [hr, Nat.succ_mul]; omega)]
          have := ih (fun r h => hs r (by simp [h])) i (by simpa using hi) j hj
          rw [← this]
          congr 1
          rw [hr, Nat.succ_mul]; omega
    exact key rows hsz i hi j hj
  obtain ⟨hlt, he⟩ := List.getElem?_eq_some_iff.1 hflat
  obtain ⟨v, hv1, hv2⟩ := hr'.get hlt
  have hd : vs.getD (i * sz + j) default = v := by simp [List.getD, hv1]
  simp only [hd, Nat.zero_add]
  exact ⟨hc _ _ hv1, h1 v (List.mem_of_getElem? hv1), he ▸ hv2⟩

theorem newVar_run (t : TypeId) (v : Value) (w : World) : (newVar t v).run P w = .ok ⟨w.heap.size, 0, none⟩ { w with heap := w.heap.push (.cells v.cells t) } := by
  simp [newVar, newRow]

theorem box_core {sz : Nat} {a : AV} {v : Value} (g : Good c B H) (hB : H.length + 1 ≤ B) (h0 : 0 < sz) (ha : Rep c a v) (hl : (rowOf a).length = sz) (t : TypeId) {w' : World}
    (hw : Grew c.w w' (.cells v.cells t (0, 0))) :
    ∃ c' : Cx, c'.w = w' ∧ Good c' B (H ++ [⟨0, false, .cells sz [rowOf a]⟩]) ∧ Rep c' (.ptr H.length 0 0 0) (.pointer (some ⟨c.w.heap.size, 0, none⟩)) ∧ Nxt c c' H (H ++ [⟨0, false, .cells sz [rowOf a]⟩]) := by
  obtain ⟨hr, h1⟩ := row_rep ha (hl ▸ h0)
  have hlv : v.cells.size = sz := by have := hr.1; simp at this; omega
  obtain ⟨q1, q2⟩ := new_cells g hB h0 (rows := [rowOf a]) (by simpa using hl) (by simpa using hr) h1 (cells := v.cells) t (by simp) hw (by simp [hlv])
  refine ⟨c.new H.length _ w', rfl, q1, Rep.ptr _ _ _ _ (Or.inr ⟨rfl, rfl⟩) _ (fun l hl => ?_), q2⟩
  simp [Cx.new] at hl
  subst hl
  simp

theorem sim_box {t : TypeId} {s : Nat} {x : Operand} {x1 : Opd} {a : AV} {H' : Heap} {call : CallT} (hx : opd1 x = some x1)
    (hv : ev1 call e H (.box s x1) = some (a, H')) (g : Good c B H) (hB : H'.length ≤ B) (he : RepE c e act.tmps) (o : Oper)
    (ho : o.op = .box t x) (h0 : 0 < s) : RunOk c B H a H' ((execOp act.eval o).run P c.w) := by
  simp only [ev1, Option.bind_eq_some_iff] at hv
  obtain ⟨p, hp, h⟩ := hv
  cases hl : Nat.beq (rowOf p).length s with
  | false => simp [hl] at h
  | true =>
    simp [hl] at h
    obtain ⟨rfl, rfl⟩ := h
    obtain ⟨c', hw, g', r', n'⟩ := box_core g (by simpa using hB) h0 (opd_rep (act := act) hx hp he) (beq_len hl) t (Grew.alloc c.w _)
    exact ⟨c', _, .inl (by simp [execOp, ho, Instr.box, newVar_run, hw]), g', r', n'⟩

theorem sim_alloc {t : TypeId} {s : Nat} {z a : AV} {H' : Heap} {call : CallT} (hz : zeroOf P t = some z)
    (hv : ev1 call e H (.box s (.const z)) = some (a, H')) (g : Good c B H) (hB : H'.length ≤ B) (o : Oper)
    (ho : o.op = .alloc t) (h0 : 0 < s) : RunOk c B H a H' ((execOp act.eval o).run P c.w) := by
  simp only [ev1, opd, Option.bind_some] at hv
  cases hl : Nat.beq (rowOf z).length s with
  | false => simp [hl] at hv
  | true =>
    simp [hl] at hv
    obtain ⟨rfl, rfl⟩ := hv
    obtain ⟨zv, hz1, hz2⟩ := zero_run (P := P) hz c.w
    obtain ⟨c', hw, g', r', n'⟩ := box_core g (by simpa using hB) h0 (.imm (ofZero_rep hz2)) (beq_len hl) t (Grew.alloc c.w _)
    exact ⟨c', _, .inl (by simp [execOp, ho, Instr.alloc, hz1, newVar_run, hw]), g', r', n'⟩

/-! ### Stores -/
theorem putRow_length (r : Row) (o : Nat) (new : Row) (h : o + new.length ≤ r.length) : (putRow r o new).length = r.length := by
  simp [putRow]; omega

theorem seg_get {α : Type} (cur vs : List α) (o : Nat) (h : o + vs.length ≤ cur.length) (j : Nat) :
    (cur.take o ++ vs ++ cur.drop (o + vs.length))[j]? = if o ≤ j ∧ j < o + vs.length then vs[j - o]? else cur[j]? := by
  by_cases h' : o ≤ j ∧ j < o + vs.length
  · rw [if_pos h', List.append_assoc, List.getElem?_append_right (by simp; omega), List.getElem?_append_left (by simp; omega)]
    congr 1; simp; omega
  · rw [if_neg h']
    rcases Nat.lt_or_ge j o with hlt | hge
    · rw [List.append_assoc, List.getElem?_append_left (by simp; omega), List.getElem?_take_of_lt hlt]
    · rw [List.getElem?_append_right (by simp; omega), List.getElem?_drop]
      congr 1; simp; omega

theorem putRow_get (r : Row) (o : Nat) (new : Row) (h : o + new.length ≤ r.length) (j : Nat) :
    (putRow r o new)[j]? = if o ≤ j ∧ j < o + new.length then new[j - o]? else r[j]? := seg_get r new o h j

theorem wrote_setRow (w : World) (g : Nat) (cs : Array Value) : Wrote w (w.setRow g cs) g :=
  ⟨rfl, rfl, rfl, by simp, fun i _ hi => setRow_other w g i cs hi⟩

theorem storeVar_run {t : TypeId} {s : Nat} (hs : sizeOf1 P t = some s) (ad : Addr) (v : Value) (hl : v.cells.size = s) (w : World) : (storeVar t ad v).run P w = (storeCells ad v.cells.toList).run P w := by
  simp [storeVar, size_run hs, hl]

/-- A run of cells of a block of the call's own is written over. -/
theorem store_core {b u sz : Nat} {es es' : Rows} {l : Loc} (g : Good c B H) (hb : H[b]? = some ⟨u, false, .cells sz es⟩) (hl : c.ρ b u = some l) {vs : List Value} (off : Nat)
    (h1 : ∀ x ∈ vs, x.oneCell' = true) (hfit : off + vs.length ≤ l.csz) (hlen' : es'.length = es.length) (hsz' : ∀ i (h : i < es'.length), es'[i].length = sz)
    (hnew : ∀ i (hi : i < es'.length) j (hj : j < es'[i].length), (off ≤ l.off + i * sz + j ∧ l.off + i * sz + j < off + vs.length → ∃ x, vs[l.off + i * sz + j - off]? = some x ∧ Rep c es'[i][j] x) ∧
      (¬ (off ≤ l.off + i * sz + j ∧ l.off + i * sz + j < off + vs.length) → ∃ (h2 : i < es.length) (h3 : j < es[i].length), es'[i][j] = es[i][j])) :
    ∃ w', (storeCells ⟨l.blk, off, none⟩ vs).run P c.w = .ok () w' ∧ Good { c with w := w' } B (H.set b ⟨u, false, .cells sz es'⟩) ∧ Nxt c { c with w := w' } H (H.set b ⟨u, false, .cells sz es'⟩) := by
  obtain ⟨l', hl', hblk⟩ := g.tot b _ hb rfl
  rw [hl] at hl'; cases hl'
  obtain ⟨hs, hs0, hfit0, hlen, cs, f, hheap, hcs, hcell⟩ := hblk
  have hrun := run_storeCells_at P l.blk off l.el vs 0 cs c.w hheap (by simpa [hcs] using hfit) h1
  refine ⟨_, hrun, ?_⟩
  have hwr : writable H b := ⟨_, hb, rfl, rfl⟩
  have hD : ∀ k, c.D k → (c.w.setRow l.blk ((cs.toList.take (off + 0) ++ vs ++ cs.toList.drop (off + 0 + vs.length)).toArray)).heap[k]? = c.w.heap[k]? := fun k hk =>
    setRow_other _ _ _ _ (fun e => g.disj k b u l hk hl hwr e.symm)
  refine good_set g hb rfl hl (wrote_setRow _ _ _) _ rfl ⟨hs, hs0, by rw [hlen']; exact hfit0, hsz', _, fun i j => if off ≤ l.off + i * sz + j ∧ l.off + i * sz + j < off + vs.length then vs.getD (l.off + i * sz + j - off) default else f i j, setRow_heap _ _ _ _ _ _ hheap, ?_, fun i hi j hj => ?_⟩
  · simp; omega
  · simp only [Nat.add_zero, List.getElem?_toArray]
    rw [seg_get _ _ _ (by simpa [hcs] using hfit)]
    obtain ⟨n1, n2⟩ := hnew i hi j hj
    split
    · rename_i h'
      obtain ⟨x, hx1, hx2⟩ := n1 h'
      have hd : vs.getD (l.off + i * sz + j - off) default = x := by simp [List.getD, hx1]
      rw [hd]
      exact ⟨hx1, h1 x (List.mem_of_getElem? hx1), hx2.mono (c' := { c with w := _ }) hD (fun _ h => h) (fun _ _ h => h) (fun _ _ _ _ h => h)⟩
    · rename_i h'
      obtain ⟨h2, h3, e⟩ := n2 h'
      obtain ⟨p1, p2, p3⟩ := hcell i h2 j h3
      refine ⟨by simpa using p1, p2, ?_⟩
      rw [e]
      exact p3.mono (c' := { c with w := _ }) hD (fun _ h => h) (fun _ _ h => h) (fun _ _ _ _ h => h)

theorem sim_store {t : TypeId} {s : Nat} {x y : Operand} {x1 y1 : Opd} {a : AV} {H' : Heap} {call : CallT} (hx : opd1 x = some x1) (hy : opd1 y = some y1)
    (hv : ev1 call e H (.store s x1 y1) = some (a, H')) (g : Good c B H) (he : RepE c e act.tmps) (o : Oper)
    (ho : o.op = .store t x y) (hs : sizeOf1 P t = some s) (h0 : 0 < s) : RunOk c B H a H' ((execOp act.eval o).run P c.w) := by
  simp only [ev1, Option.bind_eq_some_iff] at hv
  obtain ⟨p, hp, q, hq, Hn, hst, h⟩ := hv
  cases h
  have rp := opd_rep (act := act) hx hp he
  have rq := opd_rep (act := act) hy hq he
  unfold storeRow at hst
  split at hst
  · rename_i b u i o'
    split at hst
    · rename_i u' ro sz es hb
      split at hst
      · rename_i row hrow
        cases hc : (Nat.beq u' u && !ro && Nat.ble (o' + s) row.length && Nat.beq (rowOf q).length s) with
        | false => simp [hc] at hst
        | true =>
          simp [hc] at hst
          subst hst
          simp only [Bool.and_eq_true, Bool.not_eq_true'] at hc
          obtain ⟨⟨⟨hu, rfl⟩, hle⟩, hl⟩ := hc
          have hu := beq_len hu
          subst hu
          have hl := beq_len hl
          have hle := Nat.le_of_ble_eq_true hle
          obtain ⟨ad, hpv, hn, had⟩ := rp.ptr_eq
          obtain ⟨l, hlr, hblk⟩ := g.tot b _ hb rfl
          obtain ⟨hi, hrw⟩ := List.getElem?_eq_some_iff.1 hrow
          subst hrw
          obtain ⟨hlsz, hs0, hfit0, hlen, _⟩ := hblk
          obtain ⟨rr, r1⟩ := row_rep rq (hl ▸ h0)
          have hlv : (act.eval y).cells.size = s := by have := rr.1; simp at this; omega
          have hsub : (i + 1) * sz ≤ es.length * sz := Nat.mul_le_mul_right _ hi
          rw [Nat.succ_mul] at hsub
          have hlen_i := hlen i hi
          have hpl := putRow_length es[i] o' (rowOf q) (by omega)
          obtain ⟨w', hr, g', n'⟩ := store_core (P := P) g hb hlr (es' := es.set i (putRow es[i] o' (rowOf q))) (vs := (act.eval y).cells.toList) (l.off + i * sz + o') r1 (by simp; omega) (by simp)
            (fun j hj => by
              by_cases hji : j = i
              · subst hji; simp [hpl, hlen_i]
              · simp [List.getElem_set_ne (Ne.symm hji)]; exact hlen j (by simpa using hj))
            (fun i' hi' j hj => by
              have hi2 : i' < es.length := by simpa using hi'
              by_cases hji : i' = i
              · subst hji
                simp only [List.getElem_set_self] at hj ⊢
                have hj' : j < sz := by omega
                constructor
                · rintro ⟨q1, q2⟩
                  simp at q2
                  obtain ⟨x, hx1, hx2⟩ := rr.get (i := j - o') (by omega)
                  refine ⟨x, ?_, ?_⟩
                  · rw [← hx1]; congr 1; omega
                  · have := putRow_get es[i'] o' (rowOf q) (by omega) j
                    rw [if_pos (by omega), List.getElem?_eq_getElem hj, List.getElem?_eq_getElem (by omega)] at this
                    rw [Option.some.inj this]; exact hx2
                · intro hno
                  simp at hno
                  refine ⟨hi2, by omega, ?_⟩
                  have := putRow_get es[i'] o' (rowOf q) (by omega) j
                  rw [if_neg (by omega), List.getElem?_eq_getElem hj, List.getElem?_eq_getElem (by omega)] at this
                  exact Option.some.inj this
              · rw [List.getElem_set_ne (Ne.symm hji)] at hj
                have hj' : j < sz := by have := hlen i' hi2; omega
                constructor
                · rintro ⟨q1, q2⟩
                  exfalso
                  simp at q2
                  rcases Nat.lt_or_ge i' i with hlt | hge
                  · have : (i' + 1) * sz ≤ i * sz := Nat.mul_le_mul_right _ hlt
                    rw [Nat.succ_mul] at this; omega
                  · have : (i + 1) * sz ≤ i' * sz := Nat.mul_le_mul_right _ (by omega)
                    rw [Nat.succ_mul] at this; omega
                · intro _
                  exact ⟨hi2, hj, by simp [List.getElem_set_ne (Ne.symm hji)]⟩)
          refine ⟨_, undef, .inr ⟨?_, rfl⟩, g', .imm (.tuple [] #[] rfl (fun i h => absurd h (by simp))), n'⟩
          have : ad = ⟨l.blk, l.off + i * sz + o', none⟩ := by rw [had l hlr, hlsz]
          simp [execOp, ho, hpv, Instr.storeAt, Instr.sureAddr, storeVar_run hs _ _ hlv, this, hr]
      · cases hst
    · cases hst
  · cases hst

/-! ### Addresses -/
theorem sim_fieldAddr {t : TypeId} {i : Nat} {fs : Array Field} {f : Field} {s : Nat} {x : Operand} {x1 : Opd} {a : AV} {H' : Heap} {call : CallT} (hx : opd1 x = some x1)
    (hv : ev1 call e H (.fieldAddr f.offset x1) = some (a, H')) (g : Good c B H) (he : RepE c e act.tmps) (o : Oper)
    (ho : o.op = .fieldAddr t x i) (ht : P.underlying t = some (.struct fs)) (hf : fs[i]? = some f) (hs : sizeOf1 P f.type = some s) (h0 : 0 < s) : RunOk c B H a H' ((execOp act.eval o).run P c.w) := by
  simp only [ev1, Option.bind_eq_some_iff] at hv
  obtain ⟨p, hp, h⟩ := hv
  have rp := opd_rep (act := act) hx hp he
  have hs0 : s ≠ 0 := by omega
  split at h
  · cases h
    obtain ⟨ad, hpv, hn, had⟩ := rp.ptr_eq
    refine .same g (v := .pointer (some (ad.add f.offset))) (by simp [execOp, ho, hpv, Instr.fieldAt, Instr.sureAddr, run_underlying ht, hf, fieldPlace, size_run hs, hs0]) (.ptr _ _ _ _ hn _ fun l hl => ?_)
    rw [had l hl, Addr.add_lit]
    simp; omega
  · rename_i r0 o0
    cases h
    have hi := rp.vptr_i
    generalize hz : act.eval x = z at hi rp
    cases hi with
    | vptr r o blk off f' hD hcell h1 hr =>
      refine .same g (v := .pointer (some ⟨blk, off + (o0 + f.offset), none⟩)) ?_ (.imm (.vptr r0 _ blk off f' hD hcell h1 hr))
      simp [execOp, ho, hz, Instr.fieldAt, Instr.sureAddr, run_underlying ht, hf, fieldPlace, size_run hs, hs0, Addr.add_lit]
      omega
  · cases h

theorem sim_field {t : TypeId} {i : Nat} {fs : Array Field} {f : Field} {k : Bool} {s : Nat} {x : Operand} {x1 : Opd} {a : AV} {H' : Heap} {call : CallT} (hx : opd1 x = some x1)
    (hv : ev1 call e H (.field k f.offset s x1) = some (a, H')) (g : Good c B H) (he : RepE c e act.tmps) (o : Oper)
    (ho : o.op = .field t x i) (ht : P.underlying t = some (.struct fs)) (hf : fs[i]? = some f) (hk : aggOf P f.type = some k) (hs : sizeOf1 P f.type = some s) (hks : k = true ∨ s = 1) (h0 : 0 < s) : RunOk c B H a H' ((execOp act.eval o).run P c.w) := by
  simp only [ev1, Option.bind_eq_some_iff] at hv
  obtain ⟨p, hp, h⟩ := hv
  have rp := opd_rep (act := act) hx hp he
  split at h
  · rename_i cs
    cases hc : Nat.ble (f.offset + s) cs.length with
    | false => simp [hc] at h
    | true =>
      simp only [hc, cond_true, Option.bind_eq_some_iff] at h
      obtain ⟨b, hb, h⟩ := h
      cases h
      have hle := Nat.le_of_ble_eq_true hc
      obtain ⟨vs, hl, hpv, h1, hr⟩ := rp.agg_eq
      have hrl := ((repL_of_array hl hr).drop f.offset).take s
      have h1l : ∀ x ∈ (vs.toList.drop f.offset).take s, x.oneCell' = true := fun x hx => by
        have hm : x ∈ vs.toList := List.mem_of_mem_drop (List.mem_of_mem_take hx)
        obtain ⟨i, hi, rfl⟩ := List.getElem_of_mem hm
        have := h1 i (by simpa using hi)
        simpa using this
      obtain ⟨u1, u2⟩ := unrow_rep hb hrl h1l
      cases k with
      | true =>
        refine .same g (v := .agg (vs.extract f.offset (f.offset + s))) (by simp [execOp, ho, hpv, Instr.field, run_underlying ht, hf, asAgg, part, agg_run hk, size_run hs]) ?_
        have := u1 rfl
        have e : ((vs.toList.drop f.offset).take s).toArray = vs.extract f.offset (f.offset + s) := by
          apply Array.ext'
          simp [List.extract_eq_take_drop]
        rw [← e]; exact this
      | false =>
        obtain ⟨v, hv1, hv2⟩ := u2 rfl
        have hs1 : s = 1 := hks.resolve_left (by simp)
        have hlt : f.offset < vs.size := by omega
        have hvs : vs[f.offset]? = some v := by
          have := congrArg (·[0]?) hv1
          simpa [hs1] using this
        exact .same g (v := v) (by simp [execOp, ho, hpv, Instr.field, run_underlying ht, hf, asAgg, part, agg_run hk, hvs]) hv2
  · cases h

theorem natOf_eq {a : AV} {n : Nat} (h : natOf a = some n) : ∃ k m, a = .int k m ∧ 0 ≤ m ∧ m.toNat = n := by
  unfold natOf at h
  split at h
  · split at h
    · cases h; exact ⟨_, _, rfl, by assumption, rfl⟩
    · cases h
  · cases h

theorem hdr_eq {b u sz : Nat} (h : hdr H b u sz = true) : ∃ ro es, H[b]? = some ⟨u, ro, .cells sz es⟩ := by
  unfold hdr at h
  split at h
  · rename_i u' ro s es hb
    simp only [Bool.and_eq_true] at h
    have h1 := beq_len h.1
    have h2 := beq_len h.2
    subst h1 h2
    exact ⟨ro, es, hb⟩
  · cases h

theorem szOk_eq {sz : Nat} {es : Rows} (h : szOk sz es = true) : ∀ i (hi : i < es.length), es[i].length = sz := by
  unfold szOk at h
  rw [List.all_eq_true] at h
  exact fun i hi => beq_len (h _ (List.getElem_mem hi))

theorem sim_indexAddr {t el : TypeId} {s : Nat} {x y : Operand} {x1 y1 : Opd} {a : AV} {H' : Heap} {call : CallT} (hx : opd1 x = some x1) (hy : opd1 y = some y1)
    (hv : ev1 call e H (.indexAddr s x1 y1) = some (a, H')) (g : Good c B H) (he : RepE c e act.tmps) (o : Oper)
    (ho : o.op = .indexAddr t x y) (ht : P.underlying t = some (.slice el)) (hs : sizeOf1 P el = some s) : RunOk c B H a H' ((execOp act.eval o).run P c.w) := by
  simp only [ev1, Option.bind_eq_some_iff] at hv
  obtain ⟨p, hp, i, ⟨q, hq, hi⟩, h⟩ := hv
  have rp := opd_rep (act := act) hx hp he
  have rq := opd_rep (act := act) hy hq he
  obtain ⟨k, m, rfl, hm0, rfl⟩ := natOf_eq hi
  have hyv := rq.int_eq
  split at h
  · rename_i b u o' n
    cases hc : (hdr H b u s && Nat.blt m.toNat n) with
    | false => simp [hc] at h
    | true =>
      simp [hc] at h
      obtain ⟨rfl, rfl⟩ := h
      simp only [Bool.and_eq_true] at hc
      obtain ⟨ro, es, hb⟩ := hdr_eq hc.1
      have hlt : m.toNat < n := Nat.le_of_ble_eq_true hc.2
      obtain ⟨ad, cap, hpv, hn, hcap, hl⟩ := rp.sl_eq
      have hmn : m < (n : Int) := by omega
      refine .same g (v := .pointer (some (ad.add (m.toNat * s)))) (by simp [execOp, ho, hpv, hyv, Instr.indexAt, asIntOf, run_underlying ht, size_run hs, hm0, hmn]) (.ptr _ _ _ _ hn _ fun l hl' => ?_)
      obtain ⟨l2, h1, h2⟩ := g.tot b _ hb rfl
      have : l2 = l := by rw [hl'] at h1; cases h1; rfl
      subst this
      rw [(hl _ hl').1, Addr.add_lit, h2.1]
      simp [Nat.add_mul]; omega
  · rename_i es full
    simp only [Option.bind_eq_some_iff] at h
    obtain ⟨r, hr, h⟩ := h
    cases hc : Nat.beq r.length s with
    | false => simp [hc] at h
    | true =>
      simp [hc] at h
      obtain ⟨rfl, rfl⟩ := h
      have hrs := beq_len hc
      obtain ⟨hlt, hre⟩ := List.getElem?_eq_some_iff.1 hr
      subst hre
      have hi := rp.lst_i
      generalize hz : act.eval x = z at hi rp
      cases hi with
      | lst0 full a cap h => simp at hlt
      | lst es full blk off cap sz f hne hD hsz hf hc' hcell h1 hrr =>
        have hss : sz = s := by rw [← hsz _ hlt]; exact hrs
        subst hss
        have hmn : m < (es.length : Int) := by omega
        refine .same g (v := .pointer (some ⟨blk, off + m.toNat * sz + 0, none⟩)) (by simp [execOp, ho, hz, hyv, Instr.indexAt, asIntOf, run_underlying ht, size_run hs, hm0, hmn, Addr.add_lit])
          (.imm (.vptr _ 0 blk (off + m.toNat * sz) (f m.toNat) hD (fun j hj => hcell _ hlt j hj) (fun j hj => h1 _ hlt j hj) (fun j hj => hrr _ hlt j hj)))
  · cases h

theorem sim_indexArr {t el : TypeId} {s n : Nat} {x y : Operand} {x1 y1 : Opd} {a : AV} {H' : Heap} {call : CallT} (hx : opd1 x = some x1) (hy : opd1 y = some y1)
    (hv : ev1 call e H (.indexArr s n x1 y1) = some (a, H')) (g : Good c B H) (he : RepE c e act.tmps) (o : Oper)
    (ho : o.op = .indexAddr t x y) (ht : P.underlying t = some (.array n el)) (hs : sizeOf1 P el = some s) : RunOk c B H a H' ((execOp act.eval o).run P c.w) := by
  simp only [ev1, Option.bind_eq_some_iff] at hv
  obtain ⟨p, hp, i, ⟨q, hq, hi⟩, h⟩ := hv
  have rp := opd_rep (act := act) hx hp he
  have rq := opd_rep (act := act) hy hq he
  obtain ⟨k, m, rfl, hm0, rfl⟩ := natOf_eq hi
  have hyv := rq.int_eq
  cases hc : Nat.blt m.toNat n with
  | false => simp [hc] at h
  | true =>
    simp only [hc, Bool.not_true, cond_false] at h
    have hlt : m.toNat < n := Nat.le_of_ble_eq_true hc
    have hmn : m < (n : Int) := by omega
    split at h
    · cases h
      obtain ⟨ad, hpv, hn, had⟩ := rp.ptr_eq
      refine .same g (v := .pointer (some (ad.add (m.toNat * s)))) (by simp [execOp, ho, hpv, hyv, Instr.indexAt, Instr.sureAddr, asIntOf, run_underlying ht, size_run hs, hm0, hmn]) (.ptr _ _ _ _ hn _ fun l hl' => ?_)
      rw [had _ hl', Addr.add_lit]
      simp; omega
    · rename_i r0 o0
      cases h
      have hi := rp.vptr_i
      generalize hz : act.eval x = z at hi rp
      cases hi with
      | vptr r o blk off f' hD hcell h1 hr =>
        refine .same g (v := .pointer (some ⟨blk, off + (o0 + m.toNat * s), none⟩)) ?_ (.imm (.vptr r0 _ blk off f' hD hcell h1 hr))
        simp [execOp, ho, hz, hyv, Instr.indexAt, Instr.sureAddr, asIntOf, run_underlying ht, size_run hs, hm0, hmn, Addr.add_lit]
        omega
    · cases h

theorem sim_strIndex {t : TypeId} {x y : Operand} {x1 y1 : Opd} {a : AV} {H' : Heap} {call : CallT} (hx : opd1 x = some x1) (hy : opd1 y = some y1)
    (hv : ev1 call e H (.strIndex x1 y1) = some (a, H')) (g : Good c B H) (he : RepE c e act.tmps) (o : Oper)
    (ho : o.op = .index t x y) (ht : P.underlying t = some .string) : RunOk c B H a H' ((execOp act.eval o).run P c.w) := by
  simp only [ev1, Option.bind_eq_some_iff] at hv
  obtain ⟨p, hp, i, ⟨q, hq, hi⟩, h⟩ := hv
  have rp := opd_rep (act := act) hx hp he
  have rq := opd_rep (act := act) hy hq he
  obtain ⟨k, m, rfl, hm0, rfl⟩ := natOf_eq hi
  split at h
  · simp only [Option.bind_eq_some_iff] at h
    obtain ⟨ch, hch, h⟩ := h
    cases h
    exact .same g (by simp [execOp, ho, rp.str_eq, rq.int_eq, Instr.index, asIntOf, run_underlying ht, hm0, hch]) (.imm (.int _ _))
  · cases h

theorem sim_len {x : Operand} {x1 : Opd} {a : AV} {H' : Heap} {call : CallT} {t el : TypeId} (hx : opd1 x = some x1)
    (hv : ev1 call e H (.len x1) = some (a, H')) (g : Good c B H) (he : RepE c e act.tmps) (o : Oper)
    (ho : o.op = .call { callee := .builtin .len, args := #[x], argTypes := #[t] }) (ht : P.underlying t = some (.slice el)) : RunOk c B H a H' ((execOp act.eval o).run P c.w) := by
  simp only [ev1, Option.bind_eq_some_iff] at hv
  obtain ⟨p, hp, n, hn, h⟩ := hv
  cases h
  have rp := opd_rep (act := act) hx hp he
  refine .same g (v := .int .i64 n) ?_ (.imm (.int _ _))
  unfold lenOf1 at hn
  split at hn
  · cases hn
    have hi := rp.lst_i
    generalize hz : act.eval x = z at hi rp
    cases hi <;> simp [execOp, ho, resolve, invoke, builtin, Builtin.len_, hz, run_underlying ht, goInt]
  · cases hn
    obtain ⟨ad, cap, hpv, _⟩ := rp.sl_eq
    simp [execOp, ho, resolve, invoke, builtin, Builtin.len_, hpv, run_underlying ht, goInt]
  · cases hn

theorem sim_strLen {x : Operand} {x1 : Opd} {a : AV} {H' : Heap} {call : CallT} {t : TypeId} (hx : opd1 x = some x1)
    (hv : ev1 call e H (.strLen x1) = some (a, H')) (g : Good c B H) (he : RepE c e act.tmps) (o : Oper)
    (ho : o.op = .call { callee := .builtin .len, args := #[x], argTypes := #[t] }) (ht : P.underlying t = some .string) : RunOk c B H a H' ((execOp act.eval o).run P c.w) := by
  simp only [ev1, Option.bind_eq_some_iff] at hv
  obtain ⟨p, hp, h⟩ := hv
  have rp := opd_rep (act := act) hx hp he
  split at h
  · cases h
    exact .same g (by simp [execOp, ho, resolve, invoke, builtin, Builtin.len_, rp.str_eq, run_underlying ht, goInt]) (.imm (.int _ _))
  · cases h

theorem equalIn_slice_nil {t el : TypeId} (ht : P.underlying t = some (.slice el)) (a : Addr) (n k : Nat) (d : Nat) (w : World) : (Op.equalIn (d + 1) t (.slice (some a) n k) (.slice none 0 0)).run P w = .ok false w := by
  simp only [Op.equalIn, Sem.run_bind, run_underlying ht, Result.andThen_ok]
  rfl
theorem equal_slice_nil {t el : TypeId} (ht : P.underlying t = some (.slice el)) (a : Addr) (n k : Nat) (w : World) : (Op.equal t (.slice (some a) n k) (.slice none 0 0)).run P w = .ok false w :=
  equalIn_slice_nil ht a n k 9999 w

theorem sim_isNil {neg : Bool} {t u : TypeId} {x y : Operand} {x1 : Opd} {a : AV} {H' : Heap} {call : CallT} (hx : opd1 x = some x1) (hy : y = .const (.slice none 0 0))
    (hv : ev1 call e H (.isNil neg x1) = some (a, H')) (g : Good c B H) (he : RepE c e act.tmps) (o : Oper)
    (ho : o.op = .binOp (if neg then .neq else .eql) t x y u) {el : TypeId} (ht : P.underlying t = some (.slice el)) : RunOk c B H a H' ((execOp act.eval o).run P c.w) := by
  simp only [ev1, Option.bind_eq_some_iff] at hv
  obtain ⟨p, hp, hv⟩ := hv
  have rp := opd_rep (act := act) hx hp he
  subst hy
  have key : ∃ ad n k, act.eval x = .slice (some ad) n k ∧ a = .bool neg ∧ H' = H := by
    split at hv
    · cases hv
      have hi := rp.lst_i
      generalize hz : act.eval x = z at hi rp
      cases hi
      exact ⟨_, _, _, rfl, rfl, rfl⟩
    · cases hv
      obtain ⟨ad, cap, hpv, _⟩ := rp.sl_eq
      exact ⟨_, _, _, hpv, rfl, rfl⟩
    · cases hv
  obtain ⟨ad, n, k, hz, rfl, rfl⟩ := key
  refine .same g (guarded ho (by simp [hz]) (by simp [hz]) ?_) (.imm (.bool _))
  rw [hz]
  have hc : act.eval (.const (.slice none 0 0)) = .slice none 0 0 := rfl
  rw [hc]
  cases neg
  · simp only [Bool.false_eq_true, if_false, binOp, Sem.run_bind, equal_slice_nil ht, Result.andThen_ok]
    rfl
  · simp only [if_true, binOp, Sem.run_bind, equal_slice_nil ht, Result.andThen_ok]
    rfl

end Go.Abs
