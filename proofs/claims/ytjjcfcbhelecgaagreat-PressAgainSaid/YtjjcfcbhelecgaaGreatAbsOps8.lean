/- A text out of bytes. Conditions: those of each lemma. -/
import Derived.Test.YtjjcfcbhelecgaaGreatAbsOps7
import Derived.Laws.BytesString
set_option linter.unusedVariables false
set_option linter.unusedSimpArgs false
namespace Go.Abs
variable {P : Program} {c : Cx} {B : Nat} {H : Heap} {e : Env} {act : Act}

theorem bytes1_rows : ∀ {rows : Rows} {l : List UInt8}, bytes1 rows = some l → szOk 1 rows = true ∧ ∃ ns : List Int, rows.flatten = ns.map (AV.int .u8) ∧ l = ns.map fun n => UInt8.ofNat n.toNat
  | [], l, h => by
    simp [bytes1] at h
    subst h
    exact ⟨rfl, [], rfl, rfl⟩
  | r :: rows, l, h => by
    unfold bytes1 at h
    split at h
    · rename_i h0; cases h0
    · rename_i n l' h0
      cases h0
      simp only [Option.bind_eq_some_iff] at h
      obtain ⟨q, hq, h⟩ := h
      cases h
      obtain ⟨i1, ns, i2, i3⟩ := bytes1_rows hq
      refine ⟨?_, n :: ns, by simp [i2], by simp [i3]⟩
      simp only [szOk, List.all_cons] at i1 ⊢
      simp [i1]
    · cases h

theorem repL_bytes : ∀ {ns : List Int} {vs : List Value}, RepL c (ns.map (AV.int .u8)) vs → vs = ns.map (Value.int .u8)
  | [], [], _ => rfl
  | [], _ :: _, h => absurd h.1 (by simp)
  | _ :: _, [], h => absurd h.1 (by simp)
  | n :: ns, v :: vs, h => by
    simp only [List.map_cons] at h ⊢
    rw [h.head.int_eq, repL_bytes h.tail]

theorem foldl_push (ns : List Int) : ∀ (s : ByteArray), ns.foldl (fun r n => r.push (UInt8.ofNat n.toNat)) s = ⟨s.data ++ (ns.map fun n => UInt8.ofNat n.toNat).toArray⟩ := by
  induction ns with
  | nil => intro s; simp
  | cons n ns ih =>
    intro s
    simp only [List.foldl_cons, ih]
    congr 1
    apply Array.ext'
    simp [ByteArray.push]

theorem sim_bytesStr {s d el : TypeId} {x : Operand} {x1 : Opd} {a : AV} {H' : Heap} {call : CallT} (hx : opd1 x = some x1)
    (hs : P.underlying s = some (.slice el)) (hd : P.underlying d = some .string) (hel : P.underlying el = some (.int .u8))
    (hv : ev1 call e H (.bytesStr x1) = some (a, H')) (g : Good c B H) (he : RepE c e act.tmps) (o : Oper)
    (ho : o.op = .convert s d x) : RunOk c B H a H' ((execOp act.eval o).run P c.w) := by
  simp only [ev1, Option.bind_eq_some_iff] at hv
  obtain ⟨xa, hxa, rows, hrows, l, hl, hv⟩ := hv
  cases hv
  have rx := opd_rep (act := act) hx hxa he
  obtain ⟨hsz, ns, hns, rfl⟩ := bytes1_rows hl
  obtain ⟨bx, cx, vs, hrx⟩ := reads_any (P := P) g rx hrows hsz (by omega)
  have hvs := repL_bytes (hns ▸ hrx.rep)
  have hlen := hrx.len
  rw [hvs] at hlen
  simp at hlen
  have hrun : (convert s d (act.eval x)).run P c.w = .ok (.string ⟨(ns.map fun n => UInt8.ofNat n.toNat).toArray⟩) c.w := by
    rw [hrx.val, run_convert_bytes_string c.w s d el _ _ _ hs hel hd]
    cases bx with
    | none =>
      have : rows = [] := by
        rcases Classical.em (rows = []) with h | h
        · exact h
        · obtain ⟨_, _, h, _⟩ := hrx.at_ h; cases h
      subst this
      simp at hlen
      subst hlen
      simp [Conv.bytesToString]
      rfl
    | some ad =>
      have hload : (loadCells ad rows.length).run P c.w = .ok (ns.map (Value.int .u8)).toArray c.w := by
        rcases Classical.em (rows = []) with h | h
        · subst h
          simp at hlen
          subst hlen
          simp [loadCells, loadCellsFrom]
        · obtain ⟨blk, off, hb, hc, _⟩ := hrx.at_ h
          cases hb
          have := run_loadCells_list (P := P) c.w ⟨blk, off, none⟩ vs (by simpa [Addr.add_lit] using hc)
          rw [hvs] at this
          simpa [hlen] using this
      rw [run_bytesToString c.w ad rows.length cx ns hload, foldl_push]
      simp
  refine .same g (v := .string ⟨(ns.map fun n => UInt8.ofNat n.toNat).toArray⟩) ?_ (.imm (.str _))
  simp [execOp, ho, hrun]

end Go.Abs
