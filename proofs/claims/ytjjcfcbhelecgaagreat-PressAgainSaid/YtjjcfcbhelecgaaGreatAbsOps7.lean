/- append, copy, and a text out of bytes: the operations. Conditions: those of each lemma. -/
import Derived.Test.YtjjcfcbhelecgaaGreatAbsOps6
set_option linter.unusedVariables false
set_option linter.unusedSimpArgs false
namespace Go.Abs
variable {P : Program} {c : Cx} {B : Nat} {H : Heap} {e : Env} {act : Act}

/-- Rows that lie one behind another in a block. -/
theorem cells_hasBlk {c' : Cx} {l : Loc} {sz : Nat} {rows : Rows} {vs : List Value} {cs : Array Value} (hs : l.sz = sz) (h0 : 0 < sz) (hfit : l.off + rows.length * sz ≤ l.csz) (hsz : ∀ r ∈ rows, r.length = sz)
    (hr : RepL c' rows.flatten vs) (h1 : ∀ x ∈ vs, x.oneCell' = true) (hh : c'.w.heap[l.blk]? = some (.cells cs l.el (0, 0))) (hcs : cs.size = l.csz)
    (hc : ∀ (j : Nat) (x : Value), vs[j]? = some x → cs[l.off + j]? = some x) : HasBlk c' l (.cells sz rows) := by
  refine ⟨hs, h0, hfit, fun i h => hsz _ (List.getElem_mem h), cs, fun i j => vs.getD (i * sz + j) default, hh, hcs, fun i hi j hj => ?_⟩
  have hflat := flatten_get rows hsz i hi j hj
  obtain ⟨hlt, he⟩ := List.getElem?_eq_some_iff.1 hflat
  obtain ⟨v, hv1, hv2⟩ := hr.get hlt
  have hd : vs.getD (i * sz + j) default = v := by simp [List.getD, hv1]
  simp only [hd]
  refine ⟨?_, h1 v (List.mem_of_getElem? hv1), he ▸ hv2⟩
  rw [Nat.add_assoc]
  exact hc _ _ hv1

theorem szOk_all {sz : Nat} {es : Rows} (h : szOk sz es = true) : ∀ r ∈ es, r.length = sz := fun r hr => by
  obtain ⟨i, hi, rfl⟩ := List.getElem_of_mem hr
  exact szOk_eq h i hi

/-- Growing: into a new row, or beyond all bounds. -/
theorem grow_run {t tx el el2 : TypeId} {i : TypeInfo} {z : Value} {s x : Operand} (ht : P.underlying t = some (.slice el)) (htx : P.underlying tx = some (.slice el2)) (hi : P.info? el = some i) (hz : i.zero = some z)
    (hb0 : 0 < i.bytes) {rs rx : Rows} {bs bx : Option Addr} {cs cx : Nat} {us vs : List Value} (h1 : Reads P c i.size (act.eval s) rs bs cs us) (h2 : Reads P c i.size (act.eval x) rx bx cx vs) (hg : cs < rs.length + rx.length) (o : Oper)
    (ho : o.op = .call { callee := .builtin .append, args := #[s, x], argTypes := #[t, tx] })
    (hp : Builtin.nextslicecap (rs.length + rx.length) cs * i.bytes ≤ 281474976710656) :
    (execOp act.eval o).run P c.w = .ok (.value (.slice (some ⟨c.w.heap.size, 0, none⟩) (rs.length + rx.length) (grownCap c.w (rs.length + rx.length) cs el)))
      (c.w.drew.alloc (.cells ((us ++ vs).toArray ++ Builtin.zeroCells z.cells (grownCap c.w (rs.length + rx.length) cs el - (rs.length + rx.length))) el)) := by
  · skip
    have hnb : (rs.length + rx.length) * i.bytes ≤ 281474976710656 := Nat.le_trans (Nat.mul_le_mul_right _ (le_nextslicecap hg)) hp
    have h63 : ((rs.length + rx.length : Nat) : Int) ≤ 9223372036854775807 := by
      have : rs.length + rx.length ≤ (rs.length + rx.length) * i.bytes := Nat.le_mul_of_pos_right _ hb0
      omega
    have hold := h1.olds
    rw [h1.val] at hold
    have hr := run_append_grow_src (P := P) c.w t tx o.type el i z ht hi hz bs rs.length cs us hold (act.eval x) rx.length vs (h2.src htx) hg h63 hp
    rw [← h1.val] at hr
    unfold execOp
    simp only [ho, resolve, invoke, builtin, Sem.run_bind, Sem.run_pure, Result.andThen_ok, List.map_toArray, List.map_cons, List.map_nil, hr]

theorem share_apart (w : World) (size n m : Nat) (a ad : Addr) (k : Nat) (h1 : Room.holdsV w a (n * size) = true) (h2 : w.frozen? (a.add (n / 2 * size)) = false)
    (h3 : Room.holdsV w ad (m * size) = true) (hne : a.block ≠ ad.block) :
    (Builtin.mayShare size n m (some a) (.slice (some ad) m k)).runT P w #[] = (.ok false w, #[]) := by
  simp [-Sem.runT_eq, Builtin.mayShare, Room.Sem.bind_def, frozen, Sem.bind, Sem.runT, Room.Sem.runT_bind, Room.runT_holdsCells', Room.Sem.runT_pure', h1, h2, h3, hne]

theorem zeros_size (z : Array Value) (n : Nat) : (Builtin.zeroCells z n).size = n * z.size := by simp [Builtin.zeroCells]

theorem take_pre {α : Type} {l m : List α} {j : Nat} {x : α} (h : l[j]? = some x) : (l ++ m)[j]? = some x := by
  rw [List.getElem?_append_left (List.getElem?_eq_some_iff.1 h).1]; exact h

theorem sim_append {t tx el el2 : TypeId} {i : TypeInfo} {z : Value} {s x : Operand} {s1 x1 : Opd} {a : AV} {H' : Heap} {call : CallT} (hs : opd1 s = some s1) (hx : opd1 x = some x1)
    (ht : P.underlying t = some (.slice el)) (htx : P.underlying tx = some (.slice el2)) (hi : P.info? el = some i) (hz : i.zero = some z) (hzs : z.cells.size = i.size) (h0 : 0 < i.size) (hb0 : 0 < i.bytes)
    (hv : ev1 call e H (.append i.size i.bytes s1 x1) = some (a, H')) (g : Good c B H) (hB : H'.length ≤ B) (he : RepE c e act.tmps) (o : Oper)
    (ho : o.op = .call { callee := .builtin .append, args := #[s, x], argTypes := #[t, tx] }) : RunOk c B H a H' ((execOp act.eval o).run P c.w) := by
  simp only [ev1, Option.bind_eq_some_iff] at hv
  obtain ⟨sa, hsa, xa, hxa, hv⟩ := hv
  have rs := opd_rep (act := act) hs hsa he
  have rx := opd_rep (act := act) hx hxa he
  simp only [append1, Option.bind_eq_some_iff] at hv
  obtain ⟨new, hnew, hv⟩ := hv
  cases hsz : szOk i.size new with
  | false => simp [hsz] at hv
  | true =>
  simp only [hsz, Bool.not_true, cond_false] at hv
  obtain ⟨bx, cx, vs, hrx⟩ := reads_any (P := P) g rx hnew hsz h0
  split at hv
  · -- a literal one that is full
    rename_i es
    split at hv
    · -- nothing is appended
      cases hv
      refine .same g (v := act.eval s) ?_ rs
      have hsv : ∃ b n cap, act.eval s = .slice b n cap ∧ n ≤ cap := by
        have hi := rs.lst_i
        generalize hzz : act.eval s = mm at hi
        cases hi with
        | lst0 full a cap h => exact ⟨_, _, _, rfl, Nat.zero_le _⟩
        | lst es full blk off cap sz' f hne hD hsz2 hf hc hcell h1 hrr => exact ⟨_, _, _, rfl, hc⟩
      obtain ⟨b, n, cap, hsv, hle⟩ := hsv
      have hvl : vs = [] := List.eq_nil_of_length_eq_zero (by simpa using hrx.len)
      have hsrc := hrx.src htx
      subst hvl
      have hcl : (Builtin.firstCells i.size 0 (act.eval x)).run P c.w = .ok #[] c.w := hsrc.cells
      have hln : ∀ w', (Builtin.lenOf (act.eval x)).run P w' = .ok 0 w' := hsrc.len
      unfold execOp
      have : (Builtin.append_ #[t, tx] o.type #[act.eval s, act.eval x]).run P c.w = .ok (act.eval s) c.w := by
        rw [hsv]
        cases b with
        | none => simp [Builtin.append_, run_underlying ht, run_underlying htx, sizeOf, typeInfo, hi, hln, hle, hcl]
        | some b => simp [Builtin.append_, run_underlying ht, run_underlying htx, sizeOf, typeInfo, hi, hln, hle, hcl, storeCells]
      simp only [ho, resolve, invoke, builtin, Sem.run_bind, Sem.run_pure, Result.andThen_ok, List.map_toArray, List.map_cons, List.map_nil, this]
    · rename_i hne
      have hne : new ≠ [] := fun e => hne e
      have hpos : 0 < new.length := List.length_pos_iff.2 hne
      cases hc : (szOk i.size es && Nat.ble ((es.length + new.length) * i.bytes) 1099511627776) with
      | false => simp [hc] at hv
      | true =>
        simp only [hc, Bool.not_true, cond_false] at hv
        cases hv
        simp only [Bool.and_eq_true] at hc
        obtain ⟨bs, cs, us, hrs⟩ := reads_any (P := P) g rs (rows := es) rfl hc.1 h0
        have hcap : cs = es.length := by
          have hi := rs.lst_i
          rw [hrs.val] at hi
          cases hi with
          | lst0 full a cap h => exact h rfl
          | lst es full blk off cap sz' f hne hD hsz2 hf hc hcell h1 hrr => exact (hf rfl).1
        subst hcap
        have hgr := grow_run (P := P) (act := act) ht htx hi hz hb0 hrs hrx (by omega) o ho (by
          have := growslice_fits (need := es.length + new.length) (old := es.length) (bytes := i.bytes) (by omega) (by have := Nat.le_of_ble_eq_true hc.2; omega)
          omega)
        · skip
          obtain ⟨c', hw', g', r', n'⟩ := freshRows_rep (sz := i.size) (rows := es ++ new) (vs := us ++ vs) g hB h0 (fun r hr => by
              simp only [List.mem_append] at hr
              rcases hr with h | h
              · exact szOk_all hc.1 r h
              · exact szOk_all hsz r h) (by rw [List.flatten_append]; exact hrs.rep.append hrx.rep) (fun y hy => by
              simp only [List.mem_append] at hy
              rcases hy with h | h
              · exact hrs.one y h
              · exact hrx.one y h) (cells := (us ++ vs).toArray ++ Builtin.zeroCells z.cells (grownCap c.w (es.length + new.length) es.length el - (es.length + new.length))) (fun j y hj => by
                rw [← Array.getElem?_toList]
                simp only [Array.toList_append]
                exact take_pre hj) el (w' := c.w.drew.alloc _) ⟨rfl, rfl, rfl, rfl⟩ (grownCap c.w (es.length + new.length) es.length el) (by simpa using grownCap_ge _ _ _ _) (by
                have hge := grownCap_ge c.w (es.length + new.length) es.length el
                have hl : (us ++ vs).length = (es.length + new.length) * i.size := by rw [List.length_append, hrs.len, hrx.len, Nat.add_mul]
                rw [Array.size_append, zeros_size, hzs, List.size_toArray, hl, ← Nat.add_mul]
                exact Nat.mul_le_mul_right _ (by omega))
          simp only [freshRows, List.length_append] at g' r' n'
          refine ⟨c', _, .inl ?_, g', r', n'⟩
          rw [hgr, hw']
  · -- an own one
    rename_i b u ofs n
    have key : ∀ (ro : Bool) (sz : Nat) (es : Rows) (u' : Nat), H[b]? = some ⟨u', ro, .cells sz es⟩ → (Nat.beq u' u && !ro && Nat.ble (ofs + n) es.length && Nat.beq sz i.size && Nat.ble ((n + new.length) * i.bytes) 1099511627776) = true →
        (∀ blk off, bx = some ⟨blk, off, none⟩ → new ≠ [] → ∀ l, c.ρ b u' = some l → l.blk ≠ blk) →
        a = .sl b (u + 1) 0 (n + new.length) → H' = H.set b ⟨u + 1, ro, .cells sz ((es.drop ofs).take n ++ new)⟩ →
        RunOk c B H a H' ((execOp act.eval o).run P c.w) := by
      intro ro sz es u' hH hc hap ea eH
      simp only [Bool.and_eq_true] at hc
      obtain ⟨⟨⟨⟨hc1, hc2⟩, hc3⟩, hc4⟩, hc5⟩ := hc
      have hbd := Nat.le_of_ble_eq_true hc5
      have hu := beq_len hc1
      subst hu
      have hss := beq_len hc4
      subst hss
      have hle := Nat.le_of_ble_eq_true hc3
      have hro : ro = false := by simpa using hc2
      subst hro
      obtain ⟨l, hl1, hblk⟩ := g.tot b _ hH rfl
      obtain ⟨hls, _, hfit, hlen, cur, f, hheap, hcs, hcell⟩ := hblk
      obtain ⟨ad, cap, hsv, hN, hcap, hl⟩ := rs.sl_eq
      obtain ⟨e1, e2⟩ := hl l hl1
      subst e1
      have hrl : ((es.drop ofs).take n).length = n := by simp; omega
      have hszr : szOk i.size ((es.drop ofs).take n) = true := by
        simp only [szOk, List.all_eq_true]
        intro r hr
        have hm : r ∈ es := List.mem_of_mem_drop (List.mem_of_mem_take hr)
        obtain ⟨k, hk, rfl⟩ := List.getElem_of_mem hm
        rw [hlen k hk]
        exact Nat.beq_refl _
      obtain ⟨bs, cs, us, hrs⟩ := reads_any (P := P) g rs (rows := (es.drop ofs).take n) (by simp [rowsAny, rowsOf, hH, hc3]) hszr h0
      have hvv := hrs.val
      rw [hsv] at hvv
      injection hvv with v1 v2 v3
      subst v3
      have hbs : bs = some ⟨l.blk, l.off + ofs * l.sz, none⟩ := v1.symm
      subst hbs
      have hul : us.length = n * i.size := by rw [hrs.len, hrl]
      have hmem : ∀ r ∈ (es.drop ofs).take n ++ new, r.length = i.size := fun r hr => by
        simp only [List.mem_append] at hr
        rcases hr with h | h
        · exact szOk_all hszr r h
        · exact szOk_all hsz r h
      have hone : ∀ y ∈ us ++ vs, y.oneCell' = true := fun y hy => by
        simp only [List.mem_append] at hy
        rcases hy with h | h
        · exact hrs.one y h
        · exact hrx.one y h
      have hus : ∀ (j : Nat) (y : Value), us[j]? = some y → cur[l.off + ofs * l.sz + j]? = some y := fun j y hj => by
        have hn0 : (es.drop ofs).take n ≠ [] := fun e0 => by
          have h3 := hrs.len
          rw [e0, List.length_nil, Nat.zero_mul] at h3
          have h4 := (List.getElem?_eq_some_iff.1 hj).1
          omega
        obtain ⟨blk, off, hb2, hc2, _⟩ := hrs.at_ hn0
        injection hb2 with hb2
        injection hb2 with q1 q2
        have := hc2 j y hj
        rw [← q1, ← q2] at this
        simpa [World.cell?, hheap] using this
      have hlt : l.blk < c.w.heap.size := (Array.getElem?_eq_some_iff.1 hheap).1
      by_cases hroom : n + new.length ≤ cap
      · -- there is room
        have hst := run_storeCells_at P l.blk (l.off + ofs * l.sz + n * i.size) l.el vs 0 cur c.w hheap (by
          have : (ofs + (n + new.length)) * l.sz ≤ (ofs + cap) * l.sz := Nat.mul_le_mul_right _ (by omega)
          rw [Nat.add_zero, hrx.len, hcs, ← hls]
          simp only [Nat.add_mul] at this e2 ⊢
          omega) hrx.one
        simp only [Nat.add_zero] at hst
        have hsrc := hrx.src htx
        have hrun : (execOp act.eval o).run P c.w = .ok (.value (.slice (some ⟨l.blk, l.off + ofs * l.sz, none⟩) (n + new.length) cap)) (c.w.setRow l.blk ((cur.toList.take (l.off + ofs * l.sz + n * i.size) ++ vs ++ cur.toList.drop (l.off + ofs * l.sz + n * i.size + vs.length)).toArray)) := by
          have : (Builtin.append_ #[t, tx] o.type #[act.eval s, act.eval x]).run P c.w = .ok (.slice (some ⟨l.blk, l.off + ofs * l.sz, none⟩) (n + new.length) cap) (c.w.setRow l.blk ((cur.toList.take (l.off + ofs * l.sz + n * i.size) ++ vs ++ cur.toList.drop (l.off + ofs * l.sz + n * i.size + vs.length)).toArray)) := by
            rw [hsv]
            simp [Builtin.append_, run_underlying ht, run_underlying htx, sizeOf, typeInfo, hi, hsrc.len, hroom, hsrc.cells, Addr.add_lit, hst]
          unfold execOp
          simp only [ho, resolve, invoke, builtin, Sem.run_bind, Sem.run_pure, Result.andThen_ok, List.map_toArray, List.map_cons, List.map_nil, this]
        let l' : Loc := ⟨l.blk, l.off + ofs * l.sz, l.sz, l.csz, l.el⟩
        have hfl : vs.length = new.length * l.sz := by rw [hrx.len, hls]
        have hfits : l.off + ofs * l.sz + n * l.sz + vs.length ≤ l.csz := by
          have : (ofs + (n + new.length)) * l.sz ≤ (ofs + cap) * l.sz := Nat.mul_le_mul_right _ (by omega)
          rw [hfl]
          simp only [Nat.add_mul] at this e2 ⊢
          omega
        obtain ⟨m1, m2, m3, m4⟩ := bump_mono g hH rfl hl1 (wrote_setRow c.w l.blk ((cur.toList.take (l.off + ofs * l.sz + n * i.size) ++ vs ++ cur.toList.drop (l.off + ofs * l.sz + n * i.size + vs.length)).toArray)) l'
        obtain ⟨q1, q2⟩ := good_bump g hH rfl hl1 (wrote_setRow c.w l.blk ((cur.toList.take (l.off + ofs * l.sz + n * i.size) ++ vs ++ cur.toList.drop (l.off + ofs * l.sz + n * i.size + vs.length)).toArray)) l' (.inl rfl)
          (.cells i.size ((es.drop ofs).take n ++ new)) rfl (by
            refine cells_hasBlk (vs := us ++ vs) (cs := (cur.toList.take (l.off + ofs * l.sz + n * i.size) ++ vs ++ cur.toList.drop (l.off + ofs * l.sz + n * i.size + vs.length)).toArray) hls h0 ?_ hmem ?_ hone ?_ ?_ ?_
            · simp only [l', List.length_append, hrl]
              rw [← hls, Nat.add_mul]
              omega
            · rw [List.flatten_append]
              exact (hrs.rep.append hrx.rep).mono m1 m2 m3 m4
            · exact setRow_heap _ _ _ _ _ _ hheap
            · simp only [l', List.size_toArray, List.length_append, List.length_take, List.length_drop, Array.length_toList, hcs, ← hls]
              omega
            · intro j y hj
              simp only [l', List.getElem?_toArray]
              have hfits' : l.off + ofs * l.sz + n * i.size + vs.length ≤ cur.toList.length := by
                have : cur.toList.length = l.csz := by simpa using hcs
                rw [← hls, this]; exact hfits
              have hsg := seg_get cur.toList vs (l.off + ofs * l.sz + n * i.size) hfits' (l.off + ofs * l.sz + j)
              refine hsg.trans ?_
              rcases Nat.lt_or_ge j us.length with hju | hju
              · rw [List.getElem?_append_left hju] at hj
                rw [if_neg (by rw [← hul]; omega)]
                simpa using hus j y hj
              · rw [List.getElem?_append_right hju] at hj
                have hlt2 := (List.getElem?_eq_some_iff.1 hj).1
                rw [if_pos (by rw [← hul]; omega)]
                rw [← hj]
                congr 1
                rw [← hul]; omega)
        subst ea eH
        refine ⟨_, _, .inl hrun, q1, Rep.sl _ _ _ _ (Or.inr ⟨rfl, rfl⟩) _ _ hroom (fun q hq => ?_), q2⟩
        simp only [Cx.bump, if_true] at hq
        cases hq
        simp only [l', Nat.zero_mul, Nat.add_zero, Nat.zero_add, true_and]
        rw [Nat.add_mul] at e2
        omega
      · -- it grows
        have hne : new ≠ [] := fun e0 => by rw [e0] at hroom; simp at hroom; omega
        have hgr := grow_run (P := P) (act := act) ht htx hi hz hb0 hrs hrx (by rw [hrl]; omega) o ho (by
          rw [hrl]
          have := growslice_fits (need := n + new.length) (old := cap) (bytes := i.bytes) (by omega) (by omega)
          omega)
        rw [hrl] at hgr
        · skip
          have hge := grownCap_ge c.w (n + new.length) cap el
          let cells' := (us ++ vs).toArray ++ Builtin.zeroCells z.cells (grownCap c.w (n + new.length) cap el - (n + new.length))
          have hl2 : (us ++ vs).length = (n + new.length) * i.size := by rw [List.length_append, hul, hrx.len, Nat.add_mul]
          have hcells : cells'.size = grownCap c.w (n + new.length) cap el * i.size := by
            simp only [cells']
            rw [Array.size_append, zeros_size, hzs, List.size_toArray, hl2, ← Nat.add_mul]
            congr 1; omega
          have hw : Wrote c.w (c.w.drew.alloc (.cells cells' el)) l.blk := ⟨rfl, rfl, rfl, by simp, fun k hk _ => heap_alloc_old c.w.drew _ k hk⟩
          let l' : Loc := ⟨c.w.heap.size, 0, i.size, cells'.size, el⟩
          obtain ⟨m1, m2, m3, m4⟩ := bump_mono g hH rfl hl1 hw l'
          obtain ⟨q1, q2⟩ := good_bump g hH rfl hl1 hw l' (.inr ⟨rfl, by simp⟩) (.cells i.size ((es.drop ofs).take n ++ new)) rfl (by
            refine cells_hasBlk (vs := us ++ vs) (cs := cells') rfl h0 ?_ hmem ?_ hone ?_ rfl ?_
            · simp only [l', List.length_append, hrl, Nat.zero_add]
              rw [hcells]
              exact Nat.mul_le_mul_right _ hge
            · rw [List.flatten_append]
              exact (hrs.rep.append hrx.rep).mono m1 m2 m3 m4
            · exact heap_alloc_new c.w.drew _
            · intro j y hj
              simp only [l', Nat.zero_add, cells']
              rw [← Array.getElem?_toList]
              simp only [Array.toList_append]
              exact take_pre hj)
          subst ea eH
          refine ⟨_, _, .inl hgr, q1, Rep.sl _ _ _ _ (Or.inr ⟨rfl, rfl⟩) _ _ hge (fun q hq => ?_), q2⟩
          simp only [Cx.bump, if_true] at hq
          cases hq
          simp [l', hcells]
    split at hv
    · rename_i ro sz es es0 full hH
      obtain ⟨hc, e1⟩ := bif_some hv
      cases e1
      refine key ro sz es _ hH hc (fun blk off hb hne l hl => ?_) rfl rfl
      have hi := rx.lst_i
      simp only [rowsAny] at hnew
      cases hnew
      rw [hrx.val] at hi
      simp only [Bool.and_eq_true] at hc
      have hro : ro = false := by simpa using hc.1.1.1.2
      subst hro
      subst hb
      cases hi with
      | lst0 full a cap h => exact absurd rfl hne
      | lst es full blk off cap sz' f hne hD hsz2 hf hc hcell h1 hrr =>
        exact g.disj _ _ _ _ hD hl ⟨_, hH, rfl, rfl⟩
    · rename_i ro sz es b' u2 o2 n2 hH
      obtain ⟨hc, e1⟩ := bif_some hv
      cases e1
      rw [Bool.and_eq_true] at hc
      refine key ro sz es _ hH hc.1 (fun blk off hb hne l hl e0 => ?_) rfl rfl
      obtain ⟨ad, cap, hxv, hN, hcap, hl2⟩ := rx.sl_eq
      have hvv := hrx.val
      rw [hxv, hb] at hvv
      injection hvv with v1 _ _
      injection v1 with v1
      simp only [rowsAny, rowsOf] at hnew
      split at hnew
      · rename_i u3 ro3 sz3 es3 hH3
        obtain ⟨hc3, _⟩ := bif_some hnew
        simp only [Bool.and_eq_true] at hc3
        have hu3 := beq_len hc3.1
        subst hu3
        obtain ⟨l3, hl3, _⟩ := g.tot b' _ hH3 rfl
        obtain ⟨e3, _⟩ := hl2 l3 hl3
        rw [v1] at e3
        injection e3 with e3 _ _
        have := (g.inj _ _ _ _ _ _ hl hl3 (e0.trans e3)).1
        subst this
        simp at hc
      · cases hnew
    · cases hv
  · cases hv

/-! ### copy -/
theorem sim_copy {t tx el el2 : TypeId} {sz : Nat} {d x : Operand} {d1 x1 : Opd} {a : AV} {H' : Heap} {call : CallT} (hd : opd1 d = some d1) (hx : opd1 x = some x1)
    (ht : P.underlying t = some (.slice el)) (htx : P.underlying tx = some (.slice el2)) (hi : sizeOf1 P el = some sz) (h0 : 0 < sz)
    (hv : ev1 call e H (.copy sz d1 x1) = some (a, H')) (g : Good c B H) (he : RepE c e act.tmps) (o : Oper)
    (ho : o.op = .call { callee := .builtin .copy, args := #[d, x], argTypes := #[t, tx] }) : RunOk c B H a H' ((execOp act.eval o).run P c.w) := by
  simp only [ev1, Option.bind_eq_some_iff] at hv
  obtain ⟨da, hda, xa, hxa, hv⟩ := hv
  have rd := opd_rep (act := act) hd hda he
  have rx := opd_rep (act := act) hx hxa he
  simp only [copy1, Option.bind_eq_some_iff] at hv
  obtain ⟨new, hnew, hv⟩ := hv
  cases hsz : szOk sz new with
  | false => simp [hsz] at hv
  | true =>
  simp only [hsz, Bool.not_true, cond_false] at hv
  obtain ⟨bx, cx, vs, hrx⟩ := reads_any (P := P) g rx hnew hsz h0
  have hopn : ∀ r : Result Value, (Builtin.copy_ #[t, tx] o.type #[act.eval d, act.eval x]).run P c.w = r → (execOp act.eval o).run P c.w = r.andThen fun v w' => .ok (.value v) w' := fun r hr => by
    unfold execOp
    simp only [ho, resolve, invoke, builtin, Sem.run_bind, Sem.run_pure, Result.andThen_ok, List.map_toArray, List.map_cons, List.map_nil, hr]
  -- the first k elements of the source
  have hfirst : ∀ k, k ≤ new.length → (Builtin.firstCells sz k (act.eval x)).run P c.w = .ok (vs.take (k * sz)).toArray c.w := fun k hk => by
    rcases Nat.eq_zero_or_pos k with rfl | hk0
    · rw [hrx.val]
      cases bx <;> simp [Builtin.firstCells, loadCells, loadCellsFrom]
    · obtain ⟨blk, off, rfl, hc, _⟩ := hrx.at_ (fun e0 => by rw [e0] at hk; simp at hk; omega)
      rw [hrx.val]
      refine run_firstCells_some c.w sz k _ _ _ (vs.take (k * sz)) ?_ ?_
      · have : k * sz ≤ new.length * sz := Nat.mul_le_mul_right _ hk
        have := hrx.len
        simp; omega
      · intro j y hj
        rw [List.getElem?_take] at hj
        split at hj
        · simpa [Addr.add_lit] using hc j y hj
        · cases hj
  split at hv
  · -- into nothing
    cases hv
    have hdv : ∃ b cap, act.eval d = .slice b 0 cap := by
      have hi := rd.lst_i
      generalize act.eval d = mm at hi
      cases hi with
      | lst0 full a cap h => exact ⟨_, _, rfl⟩
      | lst es full blk off cap sz' f hne => exact absurd rfl hne
    obtain ⟨b, cap, hdv⟩ := hdv
    have hr : (Builtin.copy_ #[t, tx] o.type #[act.eval d, act.eval x]).run P c.w = .ok (goInt 0) c.w := by
      have hf : (Builtin.firstCells sz 0 (act.eval x)).run P c.w = .ok #[] c.w := by simpa using hfirst 0 (Nat.zero_le _)
      have hln := (hrx.src htx).len
      rw [hdv]
      cases b <;> simp [Builtin.copy_, run_underlying ht, size_run hi, hln, hf, storeCells]
    exact .same g (hopn _ hr) (.imm (.int _ _))
  · rename_i b u ofs n
    split at hv
    · rename_i u' ro s2 es hb hap
      obtain ⟨hc, e1⟩ := bif_some hv
      cases e1
      simp only [Bool.and_eq_true] at hc
      obtain ⟨⟨⟨hc1, hc2⟩, hc3⟩, hc4⟩ := hc
      have hu := beq_len hc1
      subst hu
      have hss := beq_len hc4
      subst hss
      have hle := Nat.le_of_ble_eq_true hc3
      have hro : ro = false := by simpa using hc2
      subst hro
      obtain ⟨ad, cap, hdv, hN, hcap, hl⟩ := rd.sl_eq
      obtain ⟨l, hl1, hblk⟩ := g.tot b _ hb rfl
      have hblk0 := hblk
      obtain ⟨hls, _, hfit, hlen, cur, f, hheap, hcs, hcell⟩ := hblk0
      obtain ⟨e1, e2⟩ := hl l hl1
      subst e1
      let k := Nat.min new.length n
      have hk1 : k ≤ new.length := Nat.min_le_left _ _
      have hk2 : k ≤ n := Nat.min_le_right _ _
      have hvk : (vs.take (k * s2)).length = k * s2 := by
        have : k * s2 ≤ new.length * s2 := Nat.mul_le_mul_right _ hk1
        have := hrx.len
        simp; omega
      have hnk : (new.take k).length = k := by simp; omega
      have hszn := szOk_all hsz
      have hes : ∀ i (h : i < (es.take ofs ++ new.take k ++ es.drop (ofs + k)).length), (es.take ofs ++ new.take k ++ es.drop (ofs + k))[i].length = s2 := fun i h => by
        have hm := List.getElem_mem h
        simp only [List.mem_append] at hm
        rcases hm with (hm | hm) | hm
        · have hm := List.mem_of_mem_take hm
          obtain ⟨j, hj, e0⟩ := List.getElem_of_mem hm
          rw [← e0]; exact hlen j hj
        · exact hszn _ (List.mem_of_mem_take hm)
        · have hm := List.mem_of_mem_drop hm
          obtain ⟨j, hj, e0⟩ := List.getElem_of_mem hm
          rw [← e0]; exact hlen j hj
      have hlen2 : (es.take ofs ++ new.take k ++ es.drop (ofs + k)).length = es.length := by simp; omega
      have hmulk : ofs * s2 + k * s2 ≤ es.length * s2 := by rw [← Nat.add_mul]; exact Nat.mul_le_mul_right _ (by omega)
      obtain ⟨w', hst, q1, q2⟩ := store_core (P := P) g hb hl1 (vs := vs.take (k * s2)) (l.off + ofs * l.sz) (fun y hy => hrx.one y (List.mem_of_mem_take hy)) (by rw [hvk, hls]; omega)
        (es' := es.take ofs ++ new.take k ++ es.drop (ofs + k)) hlen2 hes (fun i hi j hj => by
          have hjs : j < s2 := by rw [hes i hi] at hj; exact hj
          have hget := seg_get es (new.take k) ofs (by rw [hnk]; omega) i
          rw [hnk] at hget
          have hx0 : (es.take ofs ++ new.take k ++ es.drop (ofs + k))[i]? = some (es.take ofs ++ new.take k ++ es.drop (ofs + k))[i] := List.getElem?_eq_getElem hi
          rw [hx0] at hget
          rw [hls, hvk]
          constructor
          · intro ⟨p1, p2⟩
            have hio : ofs ≤ i := by
              rcases Nat.lt_or_ge i ofs with h | h
              · have : (i + 1) * s2 ≤ ofs * s2 := Nat.mul_le_mul_right _ h
                rw [Nat.succ_mul] at this; omega
              · exact h
            have hik : i < ofs + k := by
              rcases Nat.lt_or_ge i (ofs + k) with h | h
              · exact h
              · have : (ofs + k) * s2 ≤ i * s2 := Nat.mul_le_mul_right _ h
                rw [Nat.add_mul] at this; omega
            rw [if_pos ⟨hio, hik⟩, List.getElem?_take_of_lt (by omega)] at hget
            have hin : i - ofs < new.length := by omega
            rw [List.getElem?_eq_getElem hin] at hget
            injection hget with hget
            have hjj : j < new[i - ofs].length := by rw [hszn _ (List.getElem_mem hin)]; exact hjs
            have hfl := flatten_get new hszn (i - ofs) hin j hjj
            obtain ⟨hlt, he0⟩ := List.getElem?_eq_some_iff.1 hfl
            obtain ⟨v, hv1, hv2⟩ := hrx.rep.get hlt
            have hidx : l.off + i * s2 + j - (l.off + ofs * s2) = (i - ofs) * s2 + j := by
              have : i * s2 = (i - ofs) * s2 + ofs * s2 := by rw [← Nat.add_mul]; congr 1; omega
              omega
            refine ⟨v, ?_, ?_⟩
            · rw [hidx, List.getElem?_take_of_lt]
              · exact hv1
              · have : (i - ofs + 1) * s2 ≤ k * s2 := Nat.mul_le_mul_right _ (by omega)
                rw [Nat.succ_mul] at this; omega
            · rw [he0] at hv2
              simp only [hget]
              exact hv2
          · intro hno
            have hno' : ¬ (ofs ≤ i ∧ i < ofs + k) := fun ⟨h1, h2⟩ => hno (by
              have h3 : ofs * s2 ≤ i * s2 := Nat.mul_le_mul_right _ h1
              have h4 : (i + 1) * s2 ≤ (ofs + k) * s2 := Nat.mul_le_mul_right _ h2
              rw [Nat.succ_mul, Nat.add_mul] at h4
              omega)
            rw [if_neg hno'] at hget
            obtain ⟨h2, h3⟩ := List.getElem?_eq_some_iff.1 hget.symm
            exact ⟨h2, by rw [h3]; exact hj, by simp only [h3]⟩)
      have hr : (Builtin.copy_ #[t, tx] o.type #[act.eval d, act.eval x]).run P c.w = .ok (goInt k) w' := by
        have hf := hfirst k hk1
        have hln := (hrx.src htx).len
        rw [hdv]
        have hkk : Nat.min new.length n = k := rfl
        simp [Builtin.copy_, hkk, hf, hst, size_run hi, hln, run_underlying ht]
      exact ⟨{ c with w := w' }, goInt k, .inl (hopn _ hr), q1, .imm (.int _ _), q2⟩
    · cases hv
  · cases hv

end Go.Abs
