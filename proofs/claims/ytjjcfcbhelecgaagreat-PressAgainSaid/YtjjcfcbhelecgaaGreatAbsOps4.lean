/- Operations on slices and maps. Conditions: those of each lemma. -/
import Derived.Test.YtjjcfcbhelecgaaGreatAbsOps3
import Derived.Laws.BytesString
set_option linter.unusedVariables false
set_option linter.unusedSimpArgs false
namespace Go.Abs
variable {P : Program} {c : Cx} {B : Nat} {H : Heap} {e : Env} {act : Act}

/-! ### Closed values -/
theorem cloAll_get {f : AV → Bool} : ∀ {l : List AV}, cloAll f l = true → ∀ i (h : i < l.length), f l[i] = true
  | [], _, i, h => absurd h (by simp)
  | a :: l, hc, i, h => by
    simp only [cloAll, Bool.and_eq_true] at hc
    cases i with
    | zero => exact hc.1
    | succ i => exact cloAll_get hc.2 i (by simpa using h)
theorem cloRows_get {f : AV → Bool} : ∀ {l : Rows}, cloRows f l = true → ∀ i (h : i < l.length), cloAll f l[i] = true
  | [], _, i, h => absurd h (by simp)
  | a :: l, hc, i, h => by
    simp only [cloRows, Bool.and_eq_true] at hc
    cases i with
    | zero => exact hc.1
    | succ i => exact cloRows_get hc.2 i (by simpa using h)

theorem clo_rep : ∀ (d : Nat) {a : AV} {v : Value}, clo d a = true → Rep c a v → RepI c.w c.D a v
  | 0, a, v, h, _ => by simp [clo] at h
  | d + 1, a, v, h, hr => by
    cases hr with
    | imm h => exact h
    | ptr => simp [clo] at h
    | sl => simp [clo] at h
    | mref => simp [clo] at h
    | func fn x y X Y hx hy rx ry =>
      simp only [clo, Bool.and_eq_true] at h
      exact .func fn x y X Y hx hy (fun i hi => clo_rep d (cloAll_get h.1 i hi) (rx i hi)) (fun i hi => clo_rep d (cloAll_get h.2 i hi) (ry i hi))
    | iface t a v hv =>
      simp only [clo] at h
      exact .iface t a v (clo_rep d h hv)
    | agg cs vs hl h1 hr =>
      simp only [clo] at h
      exact .agg cs vs hl h1 (fun i hi => clo_rep d (cloAll_get h i hi) (hr i hi))
    | tuple => simp [clo] at h

/-! ### Literal slices -/
theorem flatten_get {α : Type} {sz : Nat} : ∀ (rows : List (List α)), (∀ r ∈ rows, r.length = sz) → ∀ i (hi : i < rows.length) j (hj : j < rows[i].length), rows.flatten[i * sz + j]? = some rows[i][j] := by
  intro rows
  induction rows with
  | nil => intro _ i hi; simp at hi
  | cons r rows ih =>
    intro hs i hi j hj
    have hr := hs r (by simp)
    cases i with
    | zero =>
      simp at hj ⊢
      rw [List.getElem?_append_left hj, List.getElem?_eq_getElem hj]
    | succ i =>
      simp only [List.flatten_cons, List.getElem_cons_succ] at hj ⊢
      rw [List.getElem?_append_right (by rw [hr, Nat.succ_mul]; omega)]
      have := ih (fun r h => hs r (by simp [h])) i (by simpa using hi) j hj
      rw [← this]
      congr 1
      rw [hr, Nat.succ_mul]; omega

theorem flatten_len {α : Type} {sz : Nat} : ∀ (rows : List (List α)), (∀ r ∈ rows, r.length = sz) → rows.flatten.length = rows.length * sz
  | [], _ => by simp
  | r :: rows, h => by
    have := flatten_len rows (fun r hr => h r (by simp [hr]))
    simp only [List.flatten_cons, List.length_append, List.length_cons, this, h r (by simp), Nat.succ_mul]
    omega

theorem flatten_set {sz : Nat} : ∀ (rows : Rows) (i : Nat) (new : Row), (∀ r ∈ rows, r.length = sz) → i < rows.length → new.length = sz → (rows.set i new).flatten = putRow rows.flatten (i * sz) new
  | [], i, new, _, hi, _ => absurd hi (by simp)
  | r :: rows, 0, new, hs, hi, hn => by
    have hr := hs r (by simp)
    simp [putRow, hn, ← hr, List.drop_append]
  | r :: rows, i + 1, new, hs, hi, hn => by
    have hr := hs r (by simp)
    have ih := flatten_set rows i new (fun r h => hs r (by simp [h])) (by simpa using hi) hn
    simp only [List.set_cons_succ, List.flatten_cons, ih]
    have e : (i + 1) * sz = r.length + i * sz := by rw [hr, Nat.succ_mul]; omega
    simp only [putRow, e, Nat.add_assoc, List.take_length_add_append, List.drop_length_add_append, List.append_assoc]

theorem setRows_rep {sz : Nat} (h0 : 0 < sz) (he : RepE c e act.tmps) : ∀ {parts : List (Nat × Operand)} {ps : List (Nat × Opd)} {rows rows' : Rows} {cells : Array Value},
    rparts1 parts = some ps → setRows rows sz e ps = some rows' → (∀ r ∈ rows, r.length = sz) → RepL c rows.flatten cells.toList → (∀ x ∈ cells.toList, x.oneCell' = true) →
    ∃ cells', Instr.fill (fun i => some (i * sz, sz)) cells (parts.map fun (i, x) => (i, act.eval x)) = some cells' ∧ RepL c rows'.flatten cells'.toList ∧ (∀ x ∈ cells'.toList, x.oneCell' = true) ∧ (∀ r ∈ rows', r.length = sz) ∧ rows'.length = rows.length
  | [], ps, rows, rows', cells, hp, hs, hl, hr, h1 => by
    cases hp; cases hs
    exact ⟨cells, rfl, hr, h1, hl, rfl⟩
  | (i, x) :: parts, ps, rows, rows', cells, hp, hs, hl, hr, h1 => by
    simp only [rparts1, Option.bind_eq_some_iff] at hp
    obtain ⟨x1, hx, ps', hps, h⟩ := hp
    cases h
    simp only [setRows, Option.bind_eq_some_iff] at hs
    obtain ⟨a, ha, hs⟩ := hs
    cases hc : (Nat.beq (rowOf a).length sz && Nat.blt i rows.length) with
    | false => simp [hc] at hs
    | true =>
      simp only [hc, cond_true] at hs
      simp only [Bool.and_eq_true] at hc
      have hla := beq_len hc.1
      have hlt : i < rows.length := Nat.le_of_ble_eq_true hc.2
      have ra := opd_rep (act := act) hx ha he
      obtain ⟨rr, r1⟩ := row_rep ra (hla ▸ h0)
      have hlv : (act.eval x).cells.size = sz := by have := rr.1; simp at this; omega
      have hfl := flatten_len rows hl
      have hzl : rows.flatten.length = cells.size := by have := hr.1; simpa using this
      have hmul : (i + 1) * sz ≤ rows.length * sz := Nat.mul_le_mul_right _ hlt
      rw [Nat.succ_mul] at hmul
      obtain ⟨cells', hf, hcl⟩ := fill_one (fun i => some (i * sz, sz)) i (i * sz) sz (act.eval x) cells (parts.map fun (i, x) => (i, act.eval x)) rfl hlv (by omega)
      simp only [List.map_cons]
      rw [hf]
      obtain ⟨cells'', q1, q2, q3, q4, q5⟩ := setRows_rep h0 he hps hs (by
          intro r hr'
          rcases List.mem_or_eq_of_mem_set hr' with h | h
          · exact hl r h
          · rw [h]; exact hla) (cells := cells') (by rw [flatten_set rows i _ hl hlt hla, hcl]; exact hr.put rr _ (by omega)) (by
          rw [hcl]
          intro y hy
          simp only [List.mem_append] at hy
          rcases hy with (hy | hy) | hy
          · exact h1 y (List.mem_of_mem_take hy)
          · exact r1 y hy
          · exact h1 y (List.mem_of_mem_drop hy))
      exact ⟨cells'', q1, q2, q3, q4, by simpa using q5⟩

/-- Rows of closed values in a block that has just been laid. -/
theorem lit_rows {sz : Nat} {rows : Rows} {cells : Array Value} (g : Good c B H) (h0 : 0 < sz) (hne : rows ≠ []) (hs : ∀ r ∈ rows, r.length = sz) (hr : RepL c rows.flatten cells.toList) (h1 : ∀ x ∈ cells.toList, x.oneCell' = true)
    (hc : cloRows (clo deep) rows = true) (t : TypeId) {w' : World} (hw : Grew c.w w' (.cells cells t (0, 0))) : Rep (c.lit w') (.lst rows true) (.slice (some ⟨c.w.heap.size, 0, none⟩) rows.length rows.length) := by
  obtain ⟨m1, m2, m3, m4⟩ := lit_mono g hw
  have hcell : ∀ i (h : i < rows.length) j (hj : j < rows[i].length), ∃ v, cells[i * sz + j]? = some v ∧ Rep c rows[i][j] v := fun i h j hj => by
    have hf := flatten_get rows hs i h j hj
    obtain ⟨hlt, he⟩ := List.getElem?_eq_some_iff.1 hf
    obtain ⟨v, hv1, hv2⟩ := hr.get hlt
    exact ⟨v, by simpa using hv1, he ▸ hv2⟩
  have hd : ∀ i (h : i < rows.length) j (hj : j < rows[i].length), cells[i * sz + j]? = some (cells.getD (i * sz + j) default) := fun i h j hj => by
    obtain ⟨v, hv, _⟩ := hcell i h j hj
    simp [Array.getD_eq_getD_getElem?, hv]
  refine .imm (.lst rows true c.w.heap.size 0 rows.length sz (fun i j => cells.getD (i * sz + j) default) hne (.inr rfl) (fun i h => hs _ (List.getElem_mem h)) (fun _ => ⟨rfl, cells, t, hw.at_⟩) (Nat.le_refl _) (fun i h j hj => ?_) (fun i h j hj => ?_) (fun i h j hj => ?_))
  · have := hd i h j hj
    simp only [World.cell?, Cx.lit, hw.at_, Nat.zero_add]
    simpa using this
  · obtain ⟨v, hv, _⟩ := hcell i h j hj
    have e := hd i h j hj
    rw [hv] at e
    have hv' : cells.toList[i * sz + j]? = some v := by simpa using hv
    rw [← Option.some.inj e]
    exact h1 v (List.mem_of_getElem? hv')
  · obtain ⟨v, hv, hrep⟩ := hcell i h j hj
    have e := hd i h j hj
    rw [hv] at e
    rw [← Option.some.inj e]
    exact (clo_rep deep (cloAll_get (cloRows_get hc i h) j hj) hrep).mono m1 m2

theorem freshRows_rep {sz : Nat} {rows : Rows} {vs : List Value} (g : Good c B H) (hB : (freshRows H sz rows).2.length ≤ B) (h0 : 0 < sz) (hs : ∀ r ∈ rows, r.length = sz) (hr : RepL c rows.flatten vs) (h1 : ∀ x ∈ vs, x.oneCell' = true)
    {cells : Array Value} (hc : ∀ (j : Nat) (x : Value), vs[j]? = some x → cells[j]? = some x) (t : TypeId) {w' : World} (hw : Grew c.w w' (.cells cells t (0, 0))) (cap : Nat) (hcap : rows.length ≤ cap) (hfit : cap * sz ≤ cells.size) :
    ∃ c' : Cx, c'.w = w' ∧ Good c' B (freshRows H sz rows).2 ∧ Rep c' (freshRows H sz rows).1 (.slice (some ⟨c.w.heap.size, 0, none⟩) rows.length cap) ∧ Nxt c c' H (freshRows H sz rows).2 := by
  have hB' : H.length + 1 ≤ B := by simpa [freshRows] using hB
  obtain ⟨q1, q2⟩ := new_cells g hB' h0 hs hr h1 (cells := cells) t hc hw (Nat.le_trans (Nat.mul_le_mul_right _ hcap) hfit)
  refine ⟨c.new H.length ⟨c.w.heap.size, 0, sz, cells.size, t⟩ w', rfl, q1, Rep.sl _ _ _ _ (Or.inr ⟨rfl, rfl⟩) _ _ hcap (fun l hl => ?_), q2⟩
  simp [Cx.new] at hl
  subst hl
  simp [hfit]

theorem replicate_flat {α : Type} (n : Nat) (l : List α) : ∀ (j : Nat), (List.replicate n l).flatten[j]? = if j < n * l.length then l[j % l.length]? else none := by
  induction n with
  | zero => intro j; simp
  | succ n ih =>
    intro j
    simp only [List.replicate_succ, List.flatten_cons]
    rcases Nat.lt_or_ge j l.length with h | h
    · rw [List.getElem?_append_left h, if_pos (by rw [Nat.succ_mul]; omega), Nat.mod_eq_of_lt h]
    · rw [List.getElem?_append_right h, ih]
      have e : j % l.length = (j - l.length) % l.length := by rw [Nat.mod_eq_sub_mod h]
      rw [e]
      by_cases h2 : j - l.length < n * l.length
      · rw [if_pos h2, if_pos (by rw [Nat.succ_mul]; omega)]
      · rw [if_neg h2, if_neg (by rw [Nat.succ_mul]; omega)]

/-- The zero cells that a make lays. -/
theorem zeros_get (zero : Array Value) (n : Nat) (h0 : 0 < zero.size) (j : Nat) : ((Array.range n).map (zero[· % zero.size]!))[j]? = if j < n then zero[j % zero.size]? else none := by
  by_cases hj : j < n
  · have hlt : j % zero.size < zero.size := Nat.mod_lt _ h0
    simp [hj, hlt]
  · simp [hj]

theorem sim_buildSlice {t el : TypeId} {n s : Nat} {parts : Array (Nat × Operand)} {z : AV} {ps : List (Nat × Opd)} {a : AV} {H' : Heap} {call : CallT} (ht : P.underlying t = some (.slice el)) (hsz : sizeOf1 P el = some s) (hz : zeroOf P el = some z)
    (hp : rparts1 parts.toList = some ps) (hv : ev1 call e H (.buildSlice s (List.replicate n (rowOf z)) ps) = some (a, H')) (g : Good c B H) (hB : H'.length ≤ B) (he : RepE c e act.tmps) (o : Oper)
    (ho : o.op = .buildSlice t n parts) (h0 : 0 < s) (h1k : n * s ≤ 1000) (hzl : (rowOf z).length = s) (hn0 : 0 < n ∨ ps = []) :
    RunOk c B H a H' ((execOp act.eval o).run P c.w) := by
  have hnb : ¬ (n * s > 2 ^ 24) := by omega
  have hnb' : ¬ (16777216 < n * s) := by omega
  obtain ⟨i, zv, hi, hzv, hzr, hz1⟩ := zero_cells (P := P) (c := c) hz (by omega)
  have hzs : zv.cells.size = s := by have := hzr.1; simp at this; omega
  cases n with
  | zero =>
    simp only [List.replicate_zero, ev1] at hv
    cases hv
    have hps : parts = #[] := by
      have : ps = [] := hn0.resolve_left (by simp)
      subst this
      apply Array.ext'
      cases hpl : parts.toList with
      | nil => rfl
      | cons x l => rw [hpl] at hp; simp [rparts1, Option.bind_eq_some_iff] at hp
    subst hps
    have hr0 : ∀ f : Nat → Value, Array.map f (Array.range 0) = #[] := fun f => Array.ext' (by simp)
    obtain ⟨c', hw', g', r', n'⟩ := freshRows_rep (sz := s) (rows := []) (vs := []) g hB h0 (fun r hr => absurd hr (by simp)) (.nil _) (fun x hx => absurd hx (by simp)) (cells := #[]) (fun j x hj => absurd hj (by simp)) el (Grew.alloc c.w (.cells #[] el (0, 0))) 0 (Nat.le_refl _) (by simp)
    refine ⟨c', _, .inl ?_, g', r', n'⟩
    rw [hw']
    simp [execOp, ho, Instr.buildSlice, run_underlying ht, size_run hsz, Instr.fill, newRow, hr0]
  | succ n =>
    have hne : (n + 1) * s ≠ 0 := by have := Nat.mul_pos (show 0 < n + 1 by omega) h0; omega
    have hzrun : (zeroValue el).run P c.w = .ok zv c.w := by simp [zeroValue, typeInfo, hi, hzv]
    simp only [ev1, List.replicate_succ] at hv
    rw [← List.replicate_succ] at hv
    simp only [Option.bind_eq_some_iff] at hv
    obtain ⟨rows', hrows, h⟩ := hv
    have hcells : ∀ (j : Nat), ((Array.range ((n + 1) * s)).map (zv.cells[· % zv.cells.size]!)).toList[j]? = (List.replicate (n + 1) zv.cells.toList).flatten[j]? := fun j => by
      rw [replicate_flat]
      have := zeros_get zv.cells ((n + 1) * s) (by omega) j
      rw [hzs] at this
      simp only [Array.getElem?_toList, Array.length_toList, hzs, this]
    have hcl : ((Array.range ((n + 1) * s)).map (zv.cells[· % zv.cells.size]!)).toList = (List.replicate (n + 1) zv.cells.toList).flatten := List.ext_getElem? hcells
    have hrep : ∀ m, RepL c (List.replicate m (rowOf z)).flatten (List.replicate m zv.cells.toList).flatten := fun m => by
      induction m with
      | zero => exact .nil _
      | succ m ih => simp only [List.replicate_succ, List.flatten_cons]; exact hzr.append ih
    obtain ⟨cells', q1, q2, q3, q4, q5⟩ := setRows_rep (act := act) h0 he hp hrows (cells := (Array.range ((n + 1) * s)).map (zv.cells[· % zv.cells.size]!)) (fun r hr => by rw [List.eq_of_mem_replicate hr]; exact hzl) (by rw [hcl]; exact hrep _) (fun x hx => by
      rw [hcl] at hx
      simp only [List.mem_flatten] at hx
      obtain ⟨l, hl, hx⟩ := hx
      rw [List.eq_of_mem_replicate hl] at hx
      exact hz1 x hx)
    have hlen : rows'.length = n + 1 := by rw [q5]; simp
    have hrun : (execOp act.eval o).run P c.w = .ok (.value (.slice (some ⟨c.w.heap.size, 0, none⟩) (n + 1) (n + 1))) { c.w with heap := c.w.heap.push (.cells cells' el (0, 0)) } := by
      simp only [execOp, ho, Instr.buildSlice, Sem.run_bind, run_underlying ht, Result.andThen_ok, size_run hsz, if_neg hnb, if_neg hne, hzrun, Sem.run_pure]
      have : (Array.map (fun x => (x.fst, act.eval x.snd)) parts).toList = parts.toList.map fun x => (x.1, act.eval x.2) := by simp
      simp only [this]
      simp only [q1]
      simp [newRow]
    cases hc : cloRows (clo deep) rows' with
    | true =>
      simp [hc] at h
      obtain ⟨rfl, rfl⟩ := h
      obtain ⟨g', n'⟩ := good_lit g (Grew.alloc c.w (.cells cells' el (0, 0)))
      have := lit_rows g h0 (by intro h; rw [h] at hlen; simp at hlen) q4 q2 q3 hc el (Grew.alloc c.w (.cells cells' el (0, 0)))
      rw [hlen] at this
      exact ⟨_, _, .inl hrun, g', this, n'⟩
    | false =>
      simp [hc] at h
      obtain ⟨rfl, rfl⟩ := h
      have hfl := flatten_len rows' q4
      have hsz' : cells'.size = rows'.length * s := by have := q2.1; rw [hfl] at this; simpa using this.symm
      obtain ⟨c', hw', g', r', n'⟩ := freshRows_rep g hB h0 q4 q2 q3 (cells := cells') (by simp) el (Grew.alloc c.w (.cells cells' el (0, 0))) rows'.length (Nat.le_refl _) (by omega)
      rw [hlen] at r'
      exact ⟨c', _, .inl (by rw [hw']; exact hrun), g', r', n'⟩

end Go.Abs
