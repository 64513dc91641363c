/- Maps, makes, slices of slices, texts. Conditions: those of each lemma. -/
import Derived.Test.YtjjcfcbhelecgaaGreatAbsOps4
set_option linter.unusedVariables false
set_option linter.unusedSimpArgs false
namespace Go.Abs
variable {P : Program} {c : Cx} {B : Nat} {H : Heap} {e : Env} {act : Act}

/-! ### Maps -/
theorem checkKey_int {t : TypeId} {k0 : IntKind} (ht : P.underlying t = some (.int k0)) (em : Bool) (k : IntKind) (x : Int) (w : World) : ∀ n, (Instr.checkKey em (n + 1) t (.int k x)).run P w = .ok () w := fun n => by
  simp only [Instr.checkKey, Sem.run_bind, run_underlying ht, Result.andThen_ok]
  rfl

theorem findNow_int (k0 : IntKind) (k : Int) : ∀ (es : List (Int × AV)) (l : List MapEntry) (i : Nat) (hl : es.length = l.length), (∀ j (h : j < es.length), (l[j]'(hl ▸ h)).key = .int .i64 es[j].1) →
    (findInt k es = none → Instr.findNow (.int k0) (.int .i64 k) l i = some none) ∧
    (∀ a, findInt k es = some a → ∃ j, ∃ (h : j < es.length), es[j].2 = a ∧ Instr.findNow (.int k0) (.int .i64 k) l i = some (some (i + j, (l[j]'(hl ▸ h)).val)))
  | [], [], i, hl, hk => ⟨fun _ => rfl, fun a h => by cases h⟩
  | [], _ :: _, i, hl, hk => absurd hl (by simp)
  | _ :: _, [], i, hl, hk => absurd hl (by simp)
  | (j0, a0) :: es, e0 :: l, i, hl, hk => by
    have hk0 := hk 0 (by simp)
    simp at hk0
    obtain ⟨ih1, ih2⟩ := findNow_int k0 k es l (i + 1) (by simpa using hl) (fun j h => by have := hk (j + 1) (by simpa using h); simpa using this)
    by_cases hkj : k = j0
    · subst hkj
      refine ⟨fun h => by simp [findInt] at h, fun a h => ?_⟩
      simp [findInt] at h
      subst h
      exact ⟨0, by simp, rfl, by simp [Instr.findNow, Instr.sameNow, hk0]⟩
    · have hb : (k == j0) = false := by simpa using hkj
      refine ⟨fun h => ?_, fun a h => ?_⟩
      · simp [findInt, hkj] at h
        simp [Instr.findNow, Instr.sameNow, hk0, hb, ih1 h]
      · simp [findInt, hkj] at h
        obtain ⟨j, hj, h1, h2⟩ := ih2 a h
        refine ⟨j + 1, by simpa using hj, h1, ?_⟩
        simp [Instr.findNow, Instr.sameNow, hk0, hb, h2]
        omega

theorem findKey_int {kt : TypeId} {k0 : IntKind} (ht : P.underlying kt = some (.int k0)) (k : Int) (l : List MapEntry) {r : Option (Nat × Value)} (h : Instr.findNow (.int k0) (.int .i64 k) l 0 = some r) (w : World) :
    (Instr.findKey kt (.int .i64 k) l).run P w = .ok r w := by
  simp [Instr.findKey, run_underlying ht, h]

theorem run_getObj (r : Nat) (o : Obj) (w : World) (h : w.heap[r]? = some o) (hc : ∀ a b d, o ≠ .cells a b d) : (getObj r).run P w = .ok o w := by
  cases o <;> first | (exact absurd rfl (hc _ _ _)) | simp [getObj, Sem.run, h]

theorem run_setObj (r : Nat) (o o' : Obj) (w : World) (h : w.heap[r]? = some o) (hc : ∀ a b d, o ≠ .cells a b d) : (setObj r o').run P w = .ok () { w with heap := w.heap.setIfInBounds r o' } := by
  cases o <;> first | (exact absurd rfl (hc _ _ _)) | simp [setObj, Sem.run, h]

theorem sim_mkMap {t : TypeId} {a : AV} {H' : Heap} {call : CallT} (hv : ev1 call e H .mkMap = some (a, H')) (g : Good c B H) (hB : H'.length ≤ B) (o : Oper)
    (ho : o.op = .makeMap t none) : RunOk c B H a H' ((execOp act.eval o).run P c.w) := by
  simp only [ev1] at hv
  cases hv
  obtain ⟨q1, q2⟩ := good_new g (by simpa using hB) (.map #[] 0) ⟨c.w.heap.size, 0, 0, 0, 0⟩ rfl (Grew.alloc c.w _) (.mp []) rfl
    ⟨#[], 0, (Grew.alloc c.w _).at_, rfl, fun i h => absurd h (by simp), fun i h => absurd h (by simp)⟩
  refine ⟨_, .map (some c.w.heap.size), .inl ?_, q1, .mref _ (Or.inr ⟨rfl, rfl⟩) _ (fun l hl => ?_), q2⟩
  · simp [execOp, ho, Instr.makeMap, Cx.new]
  · simp [Cx.new] at hl
    subst hl; rfl

theorem wrote_obj (w : World) (r : Nat) (o : Obj) : Wrote w { w with heap := w.heap.setIfInBounds r o } r :=
  ⟨rfl, rfl, rfl, by simp, fun i _ hi => Array.getElem?_setIfInBounds_ne (Ne.symm hi)⟩

theorem sim_insert {t kt et : TypeId} {k0 : IntKind} {m k v : Operand} {m1 k1 v1 : Opd} {a : AV} {H' : Heap} {call : CallT} (hm : opd1 m = some m1) (hk : opd1 k = some k1) (hvv : opd1 v = some v1)
    (hv : ev1 call e H (.insert m1 k1 v1) = some (a, H')) (g : Good c B H) (he : RepE c e act.tmps) (o : Oper)
    (ho : o.op = .insert t m k v) (ht : P.underlying t = some (.map kt et)) (hkt : P.underlying kt = some (.int k0)) : RunOk c B H a H' ((execOp act.eval o).run P c.w) := by
  simp only [ev1, Option.bind_eq_some_iff] at hv
  obtain ⟨ma, hma, ka, hka, va, hva, hv⟩ := hv
  have rm := opd_rep (act := act) hm hma he
  have rk := opd_rep (act := act) hk hka he
  have rv := opd_rep (act := act) hvv hva he
  split at hv
  · rename_i b kk
    split at hv
    · rename_i es hb
      split at hv
      · rename_i hf
        cases hv
        obtain ⟨r, hmv, hn, hl⟩ := rm.mref_eq
        have hkv := rk.int_eq
        obtain ⟨l, hl1, ents, clock, hheap, hlen, hkeys, hvals⟩ := g.tot b _ hb rfl
        have hr := hl l hl1
        subst hr
        obtain ⟨f1, _⟩ := findNow_int k0 kk es ents.toList 0 (by simpa using hlen) (fun j h => by simpa using hkeys j h)
        have hfk := findKey_int (P := P) hkt kk ents.toList (f1 hf) c.w
        have hwr : writable H b := ⟨_, hb, rfl, rfl⟩
        let ents' := ents.push { key := .int .i64 kk, val := act.eval v, born := clock }
        have hrun : (execOp act.eval o).run P c.w = .ok .skip { c.w with heap := c.w.heap.setIfInBounds l.blk (.map ents' (clock + 1)) } := by
          simp only [execOp, ho, hmv, hkv, Instr.mapUpdate, Sem.run_bind, run_underlying ht, Result.andThen_ok, run_getObj _ _ _ hheap (by simp), checkKey_int hkt _ _ _ _ 9999, hfk]
          rw [run_setObj _ _ _ _ hheap (by simp)]
          rfl
        have hlt : l.blk < c.w.heap.size := (Array.getElem?_eq_some_iff.1 hheap).1
        have hD : ∀ q, c.D q → ({ c.w with heap := c.w.heap.setIfInBounds l.blk (.map ents' (clock + 1)) } : World).heap[q]? = c.w.heap[q]? := fun q hq =>
          Array.getElem?_setIfInBounds_ne (g.disj q b 0 l hq hl1 hwr)
        have mono : ∀ {x : AV} {y : Value}, Rep c x y → Rep { c with w := { c.w with heap := c.w.heap.setIfInBounds l.blk (.map ents' (clock + 1)) } } x y := fun h =>
          h.mono (c' := { c with w := _ }) hD (fun _ h => h) (fun _ _ h => h) (fun _ _ _ _ h => h)
        obtain ⟨q1, q2⟩ := good_set g hb rfl hl1 (wrote_obj c.w l.blk (.map ents' (clock + 1))) (.mp (es ++ [(kk, va)])) rfl (by
          refine ⟨ents', clock + 1, by simp [hlt], by simp [ents', hlen], fun i h => ?_, fun i h => ?_⟩
          · rcases Nat.lt_or_ge i es.length with hi | hi
            · simp only [ents']
              rw [Array.getElem_push_lt (by omega)]
              simpa [List.getElem_append_left hi] using hkeys i hi
            · have : i = es.length := by simp at h; omega
              subst this
              simp [ents', hlen]
          · rcases Nat.lt_or_ge i es.length with hi | hi
            · simp only [ents']
              have e1 : (ents.push { key := .int .i64 kk, val := act.eval v, born := clock })[i]'(by simp; omega) = ents[i]'(by omega) := Array.getElem_push_lt (by omega)
              rw [e1]
              have := mono (hvals i hi)
              simpa [List.getElem_append_left hi] using this
            · have : i = es.length := by simp at h; omega
              subst this
              have := mono rv
              simpa [ents', hlen] using this)
        exact ⟨_, undef, .inr ⟨hrun, rfl⟩, q1, .imm (.tuple [] #[] rfl (fun i h => absurd h (by simp))), q2⟩
      · cases hv
    · cases hv
  · cases hv

theorem sim_lookup {t kt et : TypeId} {k0 : IntKind} {ok : Bool} {z : AV} {m k : Operand} {m1 k1 : Opd} {a : AV} {H' : Heap} {call : CallT} (hm : opd1 m = some m1) (hk : opd1 k = some k1) (hz : zeroOf P et = some z)
    (hv : ev1 call e H (.lookup z ok m1 k1) = some (a, H')) (g : Good c B H) (he : RepE c e act.tmps) (o : Oper)
    (ho : o.op = .lookup t m k ok) (ht : P.underlying t = some (.map kt et)) (hkt : P.underlying kt = some (.int k0)) : RunOk c B H a H' ((execOp act.eval o).run P c.w) := by
  simp only [ev1, Option.bind_eq_some_iff] at hv
  obtain ⟨ma, hma, ka, hka, hv⟩ := hv
  have rm := opd_rep (act := act) hm hma he
  have rk := opd_rep (act := act) hk hka he
  obtain ⟨zv, hz1, hz2⟩ := zero_run (P := P) hz c.w
  have hzr : Rep c z zv := .imm (ofZero_rep hz2)
  split at hv
  · rename_i kk
    simp only [Option.bind_eq_some_iff] at hv
    obtain ⟨es, hes, hv⟩ := hv
    have hkv := rk.int_eq
    -- the entries, as they lie
    have hents : (∃ (ents : Array MapEntry) (r clock : Nat) (hlen : es.length = ents.size), act.eval m = .map (some r) ∧ c.w.heap[r]? = some (.map ents clock) ∧
        (∀ i (h : i < es.length), (ents[i]'(hlen ▸ h)).key = .int .i64 es[i].1) ∧ ∀ i (h : i < es.length), Rep c es[i].2 (ents[i]'(hlen ▸ h)).val) ∨ (es = [] ∧ act.eval m = .map none) := by
      split at hes
      · rename_i b
        split at hes
        · rename_i ro es' hb
          cases hes
          obtain ⟨r, hmv, hn, hl⟩ := rm.mref_eq
          obtain ⟨l, hl1, ents, clock, hheap, hlen, hkeys, hvals⟩ := g.tot b _ hb rfl
          have hr := hl l hl1
          subst hr
          exact .inl ⟨ents, _, clock, hlen, hmv, hheap, hkeys, hvals⟩
        · cases hes
      · cases hes
        have hi := rm.mp_i
        generalize hzz : act.eval m = mm at hi rm
        cases hi with
        | mp es r ents clock hD hb hl hk hr => exact .inl ⟨ents, r, clock, hl, rfl, hb, hk, fun i h => .imm (hr i h)⟩
        | mp0 => exact .inr ⟨rfl, rfl⟩
      · cases hes
    have fin : ∀ (v : Value) (x : AV) (b : Bool), Rep c x v → (execOp act.eval o).run P c.w = .ok (.value (if ok then .tuple #[v, .bool b] else v)) c.w →
        RunOk c B H (bif ok then .tuple [x, .bool b] else x) H ((execOp act.eval o).run P c.w) := fun v x b hr hrun => by
      refine .same g hrun ?_
      cases ok
      · exact hr
      · exact .tuple [x, .bool b] #[v, .bool b] rfl (fun i h => by
          match i, h with
          | 0, _ => exact hr
          | 1, _ => exact .imm (.bool b))
    rcases hents with ⟨ents, r, clock, hlen, hmv, hheap, hkeys, hvals⟩ | ⟨rfl, hmv⟩
    · obtain ⟨f1, f2⟩ := findNow_int k0 kk es ents.toList 0 (by simpa using hlen) (fun j h => by simpa using hkeys j h)
      split at hv
      · rename_i v hf
        cases hv
        obtain ⟨j, hj, e1, e2⟩ := f2 _ hf
        have hfk := findKey_int (P := P) hkt kk ents.toList e2 c.w
        refine fin _ _ true (e1 ▸ hvals j hj) ?_
        simp only [execOp, ho, hmv, hkv, Instr.lookup, Sem.run_bind, run_underlying ht, Result.andThen_ok, run_getObj _ _ _ hheap (by simp), Sem.run_pure, checkKey_int hkt _ _ _ _ 9999, hfk]
        simp
      · rename_i hf
        cases hv
        have hfk := findKey_int (P := P) hkt kk ents.toList (f1 hf) c.w
        refine fin _ _ false hzr ?_
        simp only [execOp, ho, hmv, hkv, Instr.lookup, Sem.run_bind, run_underlying ht, Result.andThen_ok, run_getObj _ _ _ hheap (by simp), Sem.run_pure, checkKey_int hkt _ _ _ _ 9999, hfk, hz1]
    · simp only [findInt] at hv
      cases hv
      have hfk := findKey_int (P := P) hkt kk [] (r := none) rfl c.w
      refine fin _ _ false hzr ?_
      simp only [execOp, ho, hmv, hkv, Instr.lookup, Sem.run_bind, run_underlying ht, Result.andThen_ok, Sem.run_pure, checkKey_int hkt _ _ _ _ 9999, hfk, hz1]
  · cases hv

/-! ### Makes -/
theorem sim_mkSlice {t el : TypeId} {i : TypeInfo} {z : AV} {x y : Operand} {x1 y1 : Opd} {a : AV} {H' : Heap} {call : CallT} (hx : opd1 x = some x1) (hy : opd1 y = some y1) (ht : P.underlying t = some (.slice el))
    (hi : P.info? el = some i) (hz : zeroOf P el = some z) (hv : ev1 call e H (.mkSlice i.size i.bytes (rowOf z) x1 y1) = some (a, H')) (g : Good c B H) (hB : H'.length ≤ B) (he : RepE c e act.tmps) (o : Oper)
    (ho : o.op = .makeSlice t x y) (h0 : 0 < i.size) (hzl : (rowOf z).length = i.size) : RunOk c B H a H' ((execOp act.eval o).run P c.w) := by
  simp only [ev1, Option.bind_eq_some_iff] at hv
  obtain ⟨la, hla, ca, hca, hv⟩ := hv
  have rl := opd_rep (act := act) hx hla he
  have rc := opd_rep (act := act) hy hca he
  split at hv
  · rename_i l cc
    split at hv
    · rename_i hcond
      obtain ⟨hl0, hlc, hby, hc47⟩ := hcond
      cases hv
      obtain ⟨i', zv, hi', hzv, hzr, hz1⟩ := zero_cells (P := P) (c := c) hz (by omega)
      rw [hi] at hi'; cases hi'
      have hzs : zv.cells.size = i.size := by have := hzr.1; simp at this; omega
      have hlv := rl.int_eq
      have hcv := rc.int_eq
      have hrun := run_make (P := P) c.w t el i zv ht hi hzv .i64 .i64 l cc hl0 hlc (by omega) (by omega)
      have hmc : ∀ (j : Nat) (x : Value), (List.replicate l.toNat zv.cells.toList).flatten[j]? = some x → (madeCells zv.cells (cc.toNat * i.size))[j]? = some x := fun j x hj => by
        rw [replicate_flat] at hj
        simp only [Array.length_toList, hzs] at hj
        split at hj
        · rename_i hlt
          have hle : l.toNat * i.size ≤ cc.toNat * i.size := Nat.mul_le_mul_right _ (by omega)
          rw [madeCells, zeros_get _ _ (by omega), if_pos (by omega), hzs]
          simpa using hj
        · cases hj
      have hrep : ∀ m, RepL c (List.replicate m (rowOf z)).flatten (List.replicate m zv.cells.toList).flatten := fun m => by
        induction m with
        | zero => exact .nil _
        | succ m ih => simp only [List.replicate_succ, List.flatten_cons]; exact hzr.append ih
      obtain ⟨c', hw', g', r', n'⟩ := freshRows_rep g hB h0 (fun r hr => by rw [List.eq_of_mem_replicate hr]; exact hzl) (hrep l.toNat) (fun x hx => by
        simp only [List.mem_flatten] at hx
        obtain ⟨q, hq, hx⟩ := hx
        rw [List.eq_of_mem_replicate hq] at hx
        exact hz1 x hx) (cells := madeCells zv.cells (cc.toNat * i.size)) hmc el (Grew.alloc c.w _) cc.toNat (by simp; omega) (by rw [size_madeCells]; exact Nat.le_refl _)
      refine ⟨c', _, .inl ?_, g', r', n'⟩
      simp only [execOp, ho, hlv, hcv, Sem.run_bind, hrun, Result.andThen_ok, List.length_replicate, hw']
      rfl
    · cases hv
  · cases hv

/-! ### Slices of slices -/
theorem natOpt_val {d : Nat} {x : Option Operand} {x1 : Option Opd} {n : Nat} (hx : opt1 x = some x1) (h : natOpt e d x1 = some n) (he : RepE c e act.tmps) :
    (x.map act.eval = none ∧ n = d) ∨ ∃ k m, x.map act.eval = some (.int k m) ∧ 0 ≤ m ∧ m.toNat = n := by
  cases x with
  | none =>
    simp [opt1] at hx
    subst hx
    simp [natOpt] at h
    exact .inl ⟨rfl, h.symm⟩
  | some x =>
    simp only [opt1, Option.bind_eq_some_iff] at hx
    obtain ⟨y, hy, e1⟩ := hx
    cases e1
    simp only [natOpt, Option.bind_eq_some_iff] at h
    obtain ⟨a, ha, hn⟩ := h
    obtain ⟨k, m, rfl, h0, rfl⟩ := natOf_eq hn
    exact .inr ⟨k, m, by simp [(opd_rep (act := act) hy ha he).int_eq], h0, rfl⟩

theorem bound_run (k : IntKind) (m : Int) (y : Nat) (code : BoundsCode) (h0 : 0 ≤ m) (h : m.toNat ≤ y) (w : World) : (Instr.sliceBound (.int k m) y code).run P w = .ok m.toNat w := by
  have : 0 ≤ m ∧ m ≤ (y : Int) := ⟨h0, by omega⟩
  simp only [Instr.sliceBound, asIntOf, Sem.run_bind, Sem.run_pure, Result.andThen_ok, if_pos this]

/-- What a slice of a slice comes to, by its bounds. -/
theorem bounds_run {x lo hi mx : Option Value} {len cap l h m : Nat} (hlo : (lo = none ∧ l = 0) ∨ ∃ k q, lo = some (.int k q) ∧ 0 ≤ q ∧ q.toNat = l) (hhi : (hi = none ∧ h = len) ∨ ∃ k q, hi = some (.int k q) ∧ 0 ≤ q ∧ q.toNat = h)
    (hmx : (mx = none ∧ m = cap) ∨ ∃ k q, mx = some (.int k q) ∧ 0 ≤ q ∧ q.toNat = m ∧ hi ≠ none) (h1 : l ≤ h) (h2 : h ≤ m) (h3 : m ≤ cap) (w : World) :
    (Instr.sliceBounds true len cap lo hi mx).run P w = .ok (l, h, m) w := by
  unfold Instr.sliceBounds
  rcases hmx with ⟨rfl, rfl⟩ | ⟨km, qm, rfl, hm0, rfl, hne⟩
  · rcases hhi with ⟨rfl, rfl⟩ | ⟨kh, qh, rfl, hh0, rfl⟩
    · rcases hlo with ⟨rfl, rfl⟩ | ⟨kl, ql, rfl, hl0, rfl⟩
      · simp
      · simp only [Sem.run_bind, Sem.run_pure, Result.andThen_ok, bound_run _ _ _ _ hl0 h1]
    · rcases hlo with ⟨rfl, rfl⟩ | ⟨kl, ql, rfl, hl0, rfl⟩
      · simp only [Sem.run_bind, Sem.run_pure, Result.andThen_ok, bound_run _ _ _ _ hh0 h2]
      · simp only [Sem.run_bind, Sem.run_pure, Result.andThen_ok, bound_run _ _ _ _ hh0 h2, bound_run _ _ _ _ hl0 h1]
  · rcases hhi with ⟨rfl, rfl⟩ | ⟨kh, qh, rfl, hh0, rfl⟩
    · exact absurd rfl hne
    · rcases hlo with ⟨rfl, rfl⟩ | ⟨kl, ql, rfl, hl0, rfl⟩
      · simp only [Sem.run_bind, Sem.run_pure, Result.andThen_ok, bound_run _ _ _ _ hm0 h3, bound_run _ _ _ _ hh0 h2]
      · simp only [Sem.run_bind, Sem.run_pure, Result.andThen_ok, bound_run _ _ _ _ hm0 h3, bound_run _ _ _ _ hh0 h2, bound_run _ _ _ _ hl0 h1]

/-- Rows of a slice, cut. -/
theorem cut_i {w : World} {D : Nat → Prop} {es : Rows} {full : Bool} {v : Value} {s : Nat} (h : RepI w D (.lst es full) v) (hs : szOk s es = true) (lo hi : Nat) (h1 : lo ≤ hi) (h2 : hi ≤ es.length) :
    ∃ a cap, v = .slice a es.length cap ∧ es.length ≤ cap ∧ ∀ m, hi ≤ m → m ≤ cap → RepI w D (.lst ((es.drop lo).take (hi - lo)) false) (.slice (if m = lo then a else a.map (·.add (lo * s))) (hi - lo) (m - lo)) := by
  cases h with
  | lst0 full a cap h =>
    refine ⟨a, cap, rfl, Nat.zero_le _, fun m _ _ => ?_⟩
    simp at h2
    have : hi - lo = 0 := by omega
    rw [this]
    simp
    exact .lst0 _ _ _ (by simp)
  | lst es full blk off cap sz f hne hD hsz hf hc hcell h1' hr =>
    refine ⟨_, cap, rfl, hc, fun m hm1 hm2 => ?_⟩
    by_cases hz : hi - lo = 0
    · rw [hz]; simp; exact .lst0 _ _ _ (by simp)
    · have hlt : lo < es.length := by omega
      have hss : sz = s := by rw [← hsz lo hlt]; exact szOk_eq hs lo hlt
      subst hss
      have hmlo : m ≠ lo := by omega
      rw [if_neg hmlo]
      simp only [Option.map_some, Addr.add_lit]
      have hget : ∀ i (h : i < ((es.drop lo).take (hi - lo)).length), ((es.drop lo).take (hi - lo))[i] = es[lo + i]'(by simp at h; omega) := fun i h => by simp
      have hl : ((es.drop lo).take (hi - lo)).length = hi - lo := by simp; omega
      have := RepI.lst (w := w) (D := D) ((es.drop lo).take (hi - lo)) false blk (off + lo * sz) (m - lo) sz (fun i j => f (lo + i) j) (by intro hh; rw [hh] at hl; simp at hl; omega) hD
        (fun i h => by rw [hget i h]; exact hsz _ _) (by simp) (by omega)
        (fun i h j hj => by
          have hi' : lo + i < es.length := by simp at h; omega
          have := hcell (lo + i) hi' j (by rw [hget i h] at hj; exact hj)
          rw [← this]; congr 2; rw [Nat.add_mul]; omega)
        (fun i h j hj => h1' (lo + i) (by simp at h; omega) j (by rw [hget i h] at hj; exact hj))
        (fun i h j hj => by
          have := hr (lo + i) (by simp at h; omega) j (by rw [hget i h] at hj; exact hj)
          simpa using this)
      rw [hl] at this
      exact this

theorem own_cut {b u o' n cap l h m s : Nat} {ro : Bool} {es : Rows} {ad : Addr} {v : Value} (rp : Rep c (.sl b u o' n) v) (hb : H[b]? = some ⟨u, ro, .cells s es⟩) (hv : v = .slice (some ad) n cap) (hle : l ≤ h) (hhm : h ≤ m) (hmc : m ≤ cap) (g : Good c B H) :
    Rep c (bif Nat.blt 0 l && Nat.beq l h then .lst [] false else .sl b u (o' + l) (h - l)) (.slice (if m = l then some ad else (some ad).map (·.add (l * s))) (h - l) (m - l)) := by
  obtain ⟨ad', cap', hxv, hN, hcap, hl'⟩ := rp.sl_eq
  rw [hv] at hxv
  cases hxv
  by_cases hz : 0 < l ∧ l = h
  · obtain ⟨h1, rfl⟩ := hz
    have : (Nat.blt 0 l && Nat.beq l l) = true := by simp [Nat.blt, h1]; omega
    rw [this]
    simp only [cond_true, Nat.sub_self]
    exact .imm (.lst0 _ _ _ (by simp))
  · have : (Nat.blt 0 l && Nat.beq l h) = false := by
      cases hb1 : Nat.blt 0 l with
      | false => rfl
      | true =>
        have h1 : 0 < l := Nat.le_of_ble_eq_true hb1
        simp only [Bool.true_and]
        exact nbeq_ne (fun e => hz ⟨h1, e⟩)
    rw [this]
    simp only [cond_false]
    obtain ⟨l2, h1, h2⟩ := g.tot b _ hb rfl
    by_cases hml : m = l
    · have hl0 : l = 0 := by omega
      subst hl0
      subst hml
      rw [if_pos rfl]
      simp only [Nat.add_zero, Nat.sub_zero]
      refine .sl _ _ _ _ hN _ _ (by omega) fun l3 hl3 => ?_
      obtain ⟨e1, e2⟩ := hl' l3 hl3
      refine ⟨e1, Nat.le_trans ?_ e2⟩
      exact Nat.add_le_add_left (Nat.mul_le_mul_right _ (by omega)) _
    · rw [if_neg hml]
      simp only [Option.map_some]
      refine .sl _ _ _ _ hN _ _ (by omega) fun l3 hl3 => ?_
      obtain ⟨e1, e2⟩ := hl' l3 hl3
      rw [h1] at hl3
      cases hl3
      have hs : l2.sz = s := h2.1
      refine ⟨?_, Nat.le_trans ?_ e2⟩
      · rw [e1, Addr.add_lit, hs]
        congr 1
        rw [Nat.add_mul]; omega
      · exact Nat.add_le_add_left (Nat.mul_le_mul_right _ (by omega)) _

theorem sim_slice {t el : TypeId} {s : Nat} {x : Operand} {lo hi mx : Option Operand} {x1 : Opd} {lo1 hi1 mx1 : Option Opd} {a : AV} {H' : Heap} {call : CallT} (hx : opd1 x = some x1) (hlo : opt1 lo = some lo1) (hhi : opt1 hi = some hi1) (hmx : opt1 mx = some mx1)
    (hmh : mx = none ∨ hi ≠ none) (hv : ev1 call e H (.slice s x1 lo1 hi1 mx1) = some (a, H')) (g : Good c B H) (he : RepE c e act.tmps) (o : Oper)
    (ho : o.op = .slice t x lo hi mx) (ht : P.underlying t = some (.slice el)) (hs : sizeOf1 P el = some s) (h0 : 0 < s) : RunOk c B H a H' ((execOp act.eval o).run P c.w) := by
  simp only [ev1, Option.bind_eq_some_iff] at hv
  obtain ⟨p, hp, n, hn, l, hl, h, hh, hv⟩ := hv
  have rp := opd_rep (act := act) hx hp he
  have bl := natOpt_val hlo hl he
  have bh := natOpt_val hhi hh he
  -- the third bound
  obtain ⟨m, hsl, hmv⟩ : ∃ mo : Option Nat, slice1 H s p l h mo = some a ∧ H' = H ∧ ((mx.map act.eval = none ∧ mo = none) ∨ ∃ k q, mx.map act.eval = some (.int k q) ∧ 0 ≤ q ∧ mo = some q.toNat) := by
    cases mx with
    | none =>
      simp [opt1] at hmx
      subst hmx
      simp only [Option.bind_eq_some_iff] at hv
      obtain ⟨v, hv, h⟩ := hv
      cases h
      exact ⟨none, hv, rfl, .inl ⟨rfl, rfl⟩⟩
    | some y =>
      simp only [opt1, Option.bind_eq_some_iff] at hmx
      obtain ⟨y1, hy, e1⟩ := hmx
      cases e1
      simp only [Option.bind_eq_some_iff] at hv
      obtain ⟨m, ⟨ma, hma, hm⟩, v, hv, h⟩ := hv
      cases h
      obtain ⟨k, q, rfl, h0, rfl⟩ := natOf_eq hm
      exact ⟨some q.toNat, hv, rfl, .inr ⟨k, q, by simp [(opd_rep (act := act) hy hma he).int_eq], h0, rfl⟩⟩
  obtain ⟨rfl, hmv⟩ := hmv
  have hne3 : ∀ k q, mx.map act.eval = some (.int k q) → hi.map act.eval ≠ none := fun k q hq => by
    rcases hmh with rfl | hmh
    · simp at hq
    · simpa using hmh
  unfold slice1 at hsl
  cases hle : Nat.ble l h with
  | false => simp [hle] at hsl
  | true =>
    simp only [hle, Bool.not_true, cond_false] at hsl
    have hle := Nat.le_of_ble_eq_true hle
    -- the machine's slice of a slice
    have core : ∀ (ad : Option Addr) (cap m : Nat), act.eval x = .slice ad n cap → h ≤ m → m ≤ cap → ((mx.map act.eval = none ∧ m = cap) ∨ ∃ k q, mx.map act.eval = some (.int k q) ∧ 0 ≤ q ∧ q.toNat = m) →
        (execOp act.eval o).run P c.w = .ok (.value (.slice (if m = l then ad else ad.map (·.add (l * s))) (h - l) (m - l))) c.w := fun ad cap m hxv h2 h3 hm => by
      have hb := bounds_run (P := P) (x := none) bl bh (hm.imp id fun ⟨k, q, h1, h2, h3⟩ => ⟨k, q, h1, h2, h3, hne3 k q h1⟩) hle h2 h3 c.w
      simp only [execOp, ho, Instr.sliceAt, hxv, Instr.slice, Sem.run_bind, run_underlying ht, Result.andThen_ok, hb, size_run hs]
      rfl
    split at hsl
    · rename_i es full
      obtain ⟨hc, rfl⟩ := bif_some hsl
      simp only [Bool.and_eq_true] at hc
      have hhe := Nat.le_of_ble_eq_true hc.2
      obtain ⟨ad, cap, hxv, hcap, hcut⟩ := cut_i rp.lst_i hc.1 l h hle hhe
      simp [lenOf1] at hn
      subst hn
      rcases hmv with ⟨e1, _⟩ | ⟨k, q, _, _, e2⟩
      · exact .same g (core ad cap cap hxv (by omega) (Nat.le_refl _) (.inl ⟨e1, rfl⟩)) (.imm (hcut cap (by omega) (Nat.le_refl _)))
      · cases e2
    · rename_i es full m'
      obtain ⟨hc, rfl⟩ := bif_some hsl
      simp only [Bool.and_eq_true] at hc
      have hhm := Nat.le_of_ble_eq_true hc.1.2
      have hml := Nat.le_of_ble_eq_true hc.2
      obtain ⟨ad, cap, hxv, hcap, hcut⟩ := cut_i rp.lst_i hc.1.1 l h hle (by omega)
      simp [lenOf1] at hn
      subst hn
      rcases hmv with ⟨_, e1⟩ | ⟨k, q, e1, hq, e2⟩
      · cases e1
      · cases e2
        exact .same g (core ad cap _ hxv hhm (by omega) (.inr ⟨k, q, e1, hq, rfl⟩)) (.imm (hcut _ hhm (by omega)))
    · rename_i b u o' n'
      obtain ⟨hc, rfl⟩ := bif_some hsl
      simp only [Bool.and_eq_true] at hc
      have hhn := Nat.le_of_ble_eq_true hc.2
      obtain ⟨ro, es, hb⟩ := hdr_eq hc.1
      simp [lenOf1] at hn
      subst hn
      obtain ⟨ad, cap, hxv, hN, hcap, hl'⟩ := rp.sl_eq
      rcases hmv with ⟨e1, _⟩ | ⟨k, q, _, _, e2⟩
      · exact .same g (core (some ad) cap cap hxv (by omega) (Nat.le_refl _) (.inl ⟨e1, rfl⟩)) (own_cut rp hb hxv hle (by omega) (Nat.le_refl _) g)
      · cases e2
    · rename_i b u o' n' m'
      obtain ⟨hc, rfl⟩ := bif_some hsl
      simp only [Bool.and_eq_true] at hc
      have hhm := Nat.le_of_ble_eq_true hc.1.2
      have hmn := Nat.le_of_ble_eq_true hc.2
      obtain ⟨ro, es, hb⟩ := hdr_eq hc.1.1
      simp [lenOf1] at hn
      subst hn
      obtain ⟨ad, cap, hxv, hN, hcap, hl'⟩ := rp.sl_eq
      rcases hmv with ⟨_, e1⟩ | ⟨k, q, e1, hq, e2⟩
      · cases e1
      · cases e2
        exact .same g (core (some ad) cap _ hxv hhm (by omega) (.inr ⟨k, q, e1, hq, rfl⟩)) (own_cut rp hb hxv hle hhm (by omega) g)
    · cases hsl

end Go.Abs
