/- From a statement's arguments to the interpreter's values. Conditions: those of each lemma. -/
import Derived.Test.YtjjcfcbhelecgaaGreatAbsInf
import Derived.JoinedOf
import Derived.SizedLaws
set_option linter.unusedVariables false
set_option linter.unusedSimpArgs false
namespace Go.Abs

/-- What a cell of plain data is. -/
inductive Cell where
  | int (k : IntKind)
  | bool
  | str
  | sl (row : List Cell)
  deriving Inhabited

/-- A value of plain data. -/
inductive Has : Cell → AV → Prop
  | int (k : IntKind) (n : Int) (h : (Lit.int k n).wf = true) : Has (.int k) (.int k n)
  | bool (b : Bool) : Has .bool (.bool b)
  | str (s : ByteArray) (h : s.size ≤ maxLen) : Has .str (.str s)
  | sl (row : List Cell) (es : Rows) (full : Bool) (hl : ∀ r ∈ es, r.length = row.length) (hm : es.length ≤ maxLen) (h : ∀ r ∈ es, ∀ i (h1 : i < r.length) (h2 : i < row.length), Has row[i] r[i]) : Has (.sl row) (.lst es full)

/-- The cells of a struct's fields, one behind another. -/
def fieldsTy (P : Program) (f : TypeId → Option (List Cell)) : Nat → List Field → Option (List Cell)
  | _, [] => some []
  | off, fd :: l => (f fd.type).bind fun r => bif Nat.beq fd.offset off && Nat.beq r.length (P.cellsOf fd.type) then (fieldsTy P f (off + r.length) l).bind fun rs => some (r ++ rs) else none

/-- The cells of a type. -/
def cellsTy (P : Program) : Nat → TypeId → Option (List Cell)
  | 0, _ => none
  | n + 1, t => match P.underlying t with
    | some (.int k) => some [.int k]
    | some .bool => some [.bool]
    | some .string => some [.str]
    | some (.slice e) => (cellsTy P n e).bind fun r => bif Nat.beq r.length (P.cellsOf e) && Nat.blt 0 r.length then some [.sl r] else none
    | some (.struct fs) => (fieldsTy P (cellsTy P n) 0 fs.toList).bind fun r => bif Nat.beq r.length (P.cellsOf t) then some r else none
    | _ => none

/-- Cells that hold such data. -/
structure Holds (w : World) (tys : List Cell) (cs : List Value) (row : Row) : Prop where
  lr : row.length = tys.length
  lc : cs.length = tys.length
  ty : ∀ i (h1 : i < row.length) (h2 : i < tys.length), Has tys[i] row[i]
  rep : ∀ i (h1 : i < row.length) (h2 : i < cs.length), RepI w (fun k => k < w.heap.size) row[i] cs[i] ∧ cs[i].oneCell' = true

theorem Holds.one {w : World} {t : Cell} {v : Value} {a : AV} (h : Has t a) (hr : RepI w (fun k => k < w.heap.size) a v) (h1 : v.oneCell' = true) : Holds w [t] [v] [a] := by
  refine ⟨rfl, rfl, fun i q1 q2 => ?_, fun i q1 q2 => ?_⟩
  · have e : i = 0 := by simpa using q1
    subst e
    exact h
  · have e : i = 0 := by simpa using q1
    subst e
    exact ⟨hr, h1⟩

theorem Holds.append {w : World} {t t' : List Cell} {c c' : List Value} {r r' : Row} (h : Holds w t c r) (h' : Holds w t' c' r') : Holds w (t ++ t') (c ++ c') (r ++ r') := by
  refine ⟨by simp [h.lr, h'.lr], by simp [h.lc, h'.lc], fun i h1 h2 => ?_, fun i h1 h2 => ?_⟩
  · rcases Nat.lt_or_ge i r.length with hi | hi
    · have hi2 : i < t.length := by rw [← h.lr]; exact hi
      rw [List.getElem_append_left hi, List.getElem_append_left hi2]
      exact h.ty i hi hi2
    · have hi2 : t.length ≤ i := by rw [← h.lr]; exact hi
      rw [List.getElem_append_right hi, List.getElem_append_right hi2]
      have e : i - t.length = i - r.length := by rw [h.lr]
      simp only [e]
      exact h'.ty _ _ _
  · rcases Nat.lt_or_ge i r.length with hi | hi
    · have hi2 : i < c.length := by rw [h.lc, ← h.lr]; exact hi
      rw [List.getElem_append_left hi, List.getElem_append_left hi2]
      exact h.rep i hi hi2
    · have hi2 : c.length ≤ i := by rw [h.lc, ← h.lr]; exact hi
      rw [List.getElem_append_right hi, List.getElem_append_right hi2]
      have e : i - c.length = i - r.length := by rw [h.lc, h.lr]
      simp only [e]
      exact h'.rep _ _ _

theorem take_split {α : Type} (l : List α) (o a b : Nat) : (l.drop o).take (a + b) = (l.drop o).take a ++ (l.drop (o + a)).take b := by
  rw [List.take_add, List.drop_drop]

theorem fields_rep {H : Type} {P : Program} {w : World} {f : TypeId → Option (List Cell)} {g : TypeId → List Value → Option (DataW H × List MemPlace)}
    (hf : ∀ t tys cs d, f t = some tys → g t cs = some d → ∃ row, Holds w tys cs row) (cs : List Value) : ∀ (l : List Field) (off : Nat) (rs : List Cell) (xs : List (DataW H × List MemPlace)), fieldsTy P f off l = some rs →
    l.mapM (fun fd => g fd.type ((cs.drop fd.offset).take (P.cellsOf fd.type))) = some xs → ∃ row, Holds w rs ((cs.drop off).take rs.length) row
  | [], off, rs, xs, h, _ => by
    cases h
    exact ⟨[], ⟨rfl, by simp, fun i h => absurd h (by simp), fun i h => absurd h (by simp)⟩⟩
  | fd :: l, off, rs, xs, h, hm => by
    simp only [fieldsTy, Option.bind_eq_some_iff] at h
    obtain ⟨r, hr, h⟩ := h
    cases hc : (Nat.beq fd.offset off && Nat.beq r.length (P.cellsOf fd.type)) with
    | false => simp [hc] at h
    | true =>
      simp only [hc, cond_true, Option.bind_eq_some_iff, Option.some.injEq] at h
      obtain ⟨rs', hrs, rfl⟩ := h
      simp only [Bool.and_eq_true] at hc
      have e1 := Nat.eq_of_beq_eq_true hc.1
      have e2 := Nat.eq_of_beq_eq_true hc.2
      simp only [List.mapM_cons, Option.bind_eq_bind, Option.pure_def, Option.bind_eq_some_iff] at hm
      obtain ⟨d, hd, ds, hds, _⟩ := hm
      rw [e1, ← e2] at hd
      obtain ⟨row, hrow⟩ := hf _ _ _ _ hr hd
      obtain ⟨row', hrow'⟩ := fields_rep hf cs l (off + r.length) rs' ds hrs hds
      exact ⟨row ++ row', by rw [List.length_append, take_split]; exact hrow.append hrow'⟩

theorem mapM_each {α β : Type} {f : α → Option β} : ∀ {l : List α} {ys : List β}, l.mapM f = some ys → ∀ x ∈ l, ∃ y, f x = some y
  | [], _, _, x, hx => absurd hx (by simp)
  | a :: l, ys, h, x, hx => by
    simp only [List.mapM_cons, Option.bind_eq_bind, Option.pure_def, Option.bind_eq_some_iff] at h
    obtain ⟨y, hy, zs, hz, _⟩ := h
    rcases List.mem_cons.1 hx with rfl | hx
    · exact ⟨y, hy⟩
    · exact mapM_each hz x hx

/-- WHAT IS READ AS PLAIN DATA IS A ROW OF ABSTRACT VALUES. -/
theorem trod_rep {H : Type} {enc : TypeId × Value → H} {P : Program} {w : World} {base : Nat} {spare : Nat → Bool} {held : Bool} : ∀ (fuel n : Nat) (t : TypeId) (tys : List Cell) (cs : List Value) (d : DataW H × List MemPlace),
    cellsTy P n t = some tys → DataW.trod enc P w base spare held fuel t cs = some d → ∃ row, Holds w tys cs row
  | 0, n, t, tys, cs, d, _, h => by simp [DataW.trod] at h
  | fuel + 1, 0, t, tys, cs, d, hc, _ => by cases hc
  | fuel + 1, n + 1, t, tys, cs, d, hc, h => by
    have ih := fun t tys cs d => trod_rep (H := H) (enc := enc) (P := P) (w := w) (base := base) (spare := spare) (held := held) fuel n t tys cs d
    unfold DataW.trod at h
    unfold cellsTy at hc
    cases hu : P.underlying t with
    | none => rw [hu] at hc; cases hc
    | some ty =>
      rw [hu] at h hc
      cases ty
      case int k =>
        cases hc
        simp only at h
        split at h <;> first | (cases h; done) | skip
        all_goals (try (rename_i heq; cases heq; done))
        rename_i k0 k1 m heq
        cases heq
        split at h
        · rename_i hk
          obtain ⟨rfl, hwf⟩ := hk
          exact ⟨_, Holds.one (.int _ _ hwf) (.int _ _) rfl⟩
        · cases h
      case bool =>
        cases hc
        simp only at h
        split at h <;> first | (cases h; done) | skip
        all_goals (try (rename_i heq; cases heq; done))
        exact ⟨_, Holds.one (.bool _) (.bool _) rfl⟩
      case string =>
        cases hc
        simp only at h
        split at h <;> first | (cases h; done) | skip
        all_goals (try (rename_i heq; cases heq; done))
        split at h
        · rename_i hs
          exact ⟨_, Holds.one (.str _ hs) (.str _) rfl⟩
        · cases h
      case struct fs =>
        simp only [Option.bind_eq_some_iff] at hc
        obtain ⟨r, hr, hc⟩ := hc
        cases hb : Nat.beq r.length (P.cellsOf t) with
        | false => simp [hb] at hc
        | true =>
          simp only [hb, cond_true, Option.some.injEq] at hc
          subst hc
          have hl := Nat.eq_of_beq_eq_true hb
          simp only at h
          split at h
          · rename_i hcs
            simp only [Option.map_eq_some_iff] at h
            obtain ⟨xs, hxs, _⟩ := h
            obtain ⟨row, hrow⟩ := fields_rep (fun t tys cs d h1 h2 => ih t tys cs d h1 h2) _ fs.toList 0 r xs hr hxs
            refine ⟨row, ?_⟩
            rw [List.drop_zero, List.take_of_length_le (by omega)] at hrow
            exact hrow
          · cases h
      case slice e =>
        simp only [Option.bind_eq_some_iff] at hc
        obtain ⟨r, hr, hc⟩ := hc
        cases hb : (Nat.beq r.length (P.cellsOf e) && Nat.blt 0 r.length) with
        | false => simp [hb] at hc
        | true =>
          simp only [hb, cond_true, Option.some.injEq] at hc
          subst hc
          simp only [Bool.and_eq_true] at hb
          have hsz := Nat.eq_of_beq_eq_true hb.1
          have hpos : 0 < r.length := by simpa [Nat.blt_eq] using hb.2
          simp only at h
          split at h <;> first | (cases h; done) | skip
          all_goals (try (rename_i heq; cases heq; done))
          · exact ⟨_, Holds.one (.sl _ [] true (by simp) (by simp [maxLen]) (by simp)) (.lst0 _ _ _ (fun _ => rfl)) rfl⟩
          · rename_i e' a len cap heq
            cases heq
            split at h
            · rename_i hcond
              obtain ⟨_, hlc, hcm⟩ := hcond
              simp only [Option.bind_eq_some_iff] at h
              obtain ⟨elems, hel, _⟩ := h
              have each : ∀ i, ∃ vr : List Value × Row, i < len → w.cells? base (a.add (i * P.cellsOf e)) (P.cellsOf e) = some vr.1 ∧ Holds w r vr.1 vr.2 := fun i => by
                by_cases hi : i < len
                · obtain ⟨y, hy⟩ := mapM_each hel i (by simpa using hi)
                  simp only [Option.bind_eq_some_iff] at hy
                  obtain ⟨vs, hv1, hv2⟩ := hy
                  obtain ⟨row, hrow⟩ := ih e r vs y hr hv2
                  exact ⟨(vs, row), fun _ => ⟨hv1, hrow⟩⟩
                · exact ⟨([], []), fun h => absurd h hi⟩
              obtain ⟨g, hg⟩ := Classical.axiomOfChoice each
              rcases Nat.eq_zero_or_pos len with h0 | hlen
              · subst h0
                exact ⟨_, Holds.one (.sl _ [] false (by simp) (by simp [maxLen]) (by simp)) (.lst0 _ _ _ (fun h => by cases h)) rfl⟩
              · have hspot : a.spot = none := by
                  obtain ⟨h1, h2⟩ := hg 0 hlen
                  obtain ⟨_, _, h3⟩ := World.cells?_some h1
                  have h4 := h3 0 (by omega)
                  have h5 : ((g 0).1)[0]? ≠ none := by
                    have := h2.lc
                    rw [ne_eq, List.getElem?_eq_none_iff]
                    omega
                  have e1 : (a.add (0 * P.cellsOf e)).add 0 = a := by simp [Addr.add]
                  rw [e1] at h4
                  rw [← h4] at h5
                  unfold World.cell? at h5
                  split at h5
                  · cases hs : a.spot with
                    | none => rfl
                    | some x => simp [hs] at h5
                  · exact absurd rfl h5
                obtain ⟨ab, ao, asp⟩ := a
                simp only at hspot
                subst hspot
                have hblk : ab < w.heap.size := by
                  obtain ⟨h1, h2⟩ := hg 0 hlen
                  obtain ⟨_, _, h3⟩ := World.cells?_some h1
                  have h4 := h3 0 (by omega)
                  have h5 : ((g 0).1)[0]? ≠ none := by
                    have := h2.lc
                    rw [ne_eq, List.getElem?_eq_none_iff]
                    omega
                  have e1 : ((⟨ab, ao, none⟩ : Addr).add (0 * P.cellsOf e)).add 0 = ⟨ab, ao, none⟩ := by simp [Addr.add]
                  rw [e1] at h4
                  rw [← h4] at h5
                  unfold World.cell? at h5
                  split at h5
                  · rename_i hh
                    exact (Array.getElem?_eq_some_iff.1 hh).1
                  · exact absurd rfl h5
                have hcell : ∀ i, i < len → ∀ j, j < r.length → w.cell? ⟨ab, ao + i * r.length + j, none⟩ = ((g i).1)[j]? := fun i hi j hj => by
                  obtain ⟨h1, h2⟩ := hg i hi
                  obtain ⟨_, _, h3⟩ := World.cells?_some h1
                  have h4 := h3 j (by omega)
                  rw [← h4, hsz]
                  congr 1
                  simp only [Addr.add]
                  split <;> split <;> simp_all <;> omega
                have hrl : ∀ i, i < len → ((g i).2).length = r.length := fun i hi => (hg i hi).2.lr
                have hcl : ∀ i, i < len → ((g i).1).length = r.length := fun i hi => (hg i hi).2.lc
                let es : Rows := (List.range len).map fun i => (g i).2
                have hesl : es.length = len := by simp [es]
                have hget : ∀ i (h : i < es.length), es[i] = (g i).2 := fun i h => by simp [es]
                have hes : es ≠ [] := fun h => by rw [h] at hesl; simp at hesl; omega
                refine ⟨[.lst es false], Holds.one (.sl r es false ?_ (by omega) ?_) ?_ rfl⟩
                · intro x hx
                  obtain ⟨i, hi, rfl⟩ := List.mem_map.1 hx
                  exact hrl i (by simpa using hi)
                · intro x hx i h1 h2
                  obtain ⟨q, hq, rfl⟩ := List.mem_map.1 hx
                  exact (hg q (by simpa using hq)).2.ty i h1 h2
                · have := RepI.lst (w := w) (D := fun k => k < w.heap.size) es false ab ao cap r.length (fun i j => ((g i).1).getD j undef) hes hblk
                    (fun i h => by rw [hget i h]; exact hrl i (by omega)) (fun h => by cases h) (by omega)
                    (fun i h j hj => by
                      rw [hget i h] at hj
                      have hi : i < len := by omega
                      have hj' : j < r.length := by rw [← hrl i hi]; exact hj
                      have hj2 : j < ((g i).1).length := by rw [hcl i hi]; exact hj'
                      rw [hcell i hi j hj']
                      simp [hj2])
                    (fun i h j hj => by
                      rw [hget i h] at hj
                      have hi : i < len := by omega
                      have hj' : j < r.length := by rw [← hrl i hi]; exact hj
                      have hj2 : j < ((g i).1).length := by rw [hcl i hi]; exact hj'
                      have := ((hg i hi).2.rep j hj hj2).2
                      simpa [hj2] using this)
                    (fun i h j hj => by
                      have hi : i < len := by omega
                      simp only [hget i h] at hj ⊢
                      have hj' : j < r.length := by rw [← hrl i hi]; exact hj
                      have hj2 : j < ((g i).1).length := by rw [hcl i hi]; exact hj'
                      have := ((hg i hi).2.rep j hj hj2).1
                      simpa [hj2] using this)
                  rw [hesl] at this
                  exact this
            · cases h
      all_goals (cases hc; done)

end Go.Abs
