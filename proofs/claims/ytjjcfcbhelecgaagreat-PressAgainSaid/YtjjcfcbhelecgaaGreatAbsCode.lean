/- The code of a function, and the interpreter's soundness. Conditions: those of each lemma. -/
import Derived.Test.YtjjcfcbhelecgaaGreatAbsReg5
set_option linter.unusedVariables false
set_option linter.unusedSimpArgs false
namespace Go.Abs
variable {P : Program} {c c' : Cx} {B : Nat} {H : Heap} {e : Env} {act : Act}

/-! ### Befores -/
theorem befores_get (ops : Array Oper) : ∀ (l : List Oper) (acc : List (List Nat)), ∃ tail, befores ops l acc = acc ++ tail ∧ tail.length = l.length ∧
    ∀ i (h : i < l.length), (befores ops l acc).getD (acc.length + i) [] = (beforeOf ops ((befores ops l acc).take (acc.length + i)) l[i]).eraseDups
  | [], acc => ⟨[], by simp [befores], rfl, fun i h => absurd h (by simp)⟩
  | o :: l, acc => by
    obtain ⟨tail, h1, h2, h3⟩ := befores_get ops l (acc ++ [(beforeOf ops acc o).eraseDups])
    refine ⟨(beforeOf ops acc o).eraseDups :: tail, by simp [befores, h1], by simp [h2], fun i hi => ?_⟩
    simp only [befores]
    cases i with
    | zero => simp [h1]
    | succ i =>
      have := h3 i (by simpa using hi)
      have e0 : (acc ++ [(beforeOf ops acc o).eraseDups]).length + i = acc.length + (i + 1) := by simp; omega
      rw [e0] at this
      simpa using this

theorem befores_mem {ops : Array Oper} (hf : forward ops = true) (i : Nat) (o : Oper) (ho : ops[i]? = some o) (j : Nat) :
    j ∈ (befores ops ops.toList []).getD i [] ↔ ∃ e, e ∈ o.after ∧ Region.binds .any e = true ∧ (e.on = j ∨ j ∈ (befores ops ops.toList []).getD e.on []) := by
  obtain ⟨tail, h1, h2, h3⟩ := befores_get ops ops.toList []
  have hi : i < ops.size := (Array.getElem?_eq_some_iff.1 ho).1
  have := h3 i (by simpa using hi)
  simp only [List.length_nil, Nat.zero_add] at this
  rw [this]
  have hoi : ops.toList[i]'(by simpa using hi) = o := by
    have := (Array.getElem?_eq_some_iff.1 ho).2
    simpa using this
  rw [hoi, List.mem_eraseDups, beforeOf]
  have hfw : ∀ e, e ∈ o.after → Region.binds .any e = true → e.on < i := fun e he hb => by
    have hh := List.all_eq_true.1 hf i (by simpa using hi)
    simp only [ho, Array.all_eq_true_iff_forall_mem] at hh
    have := hh e he
    simp only [hb, Bool.not_true, Bool.false_or] at this
    exact Nat.le_of_ble_eq_true this
  have hgetD : ∀ k, k < i → ((befores ops ops.toList []).take i).getD k [] = (befores ops ops.toList []).getD k [] := fun k hk => by
    simp [List.getD_eq_getElem?_getD, List.getElem?_take_of_lt hk]
  simp only [List.mem_flatMap]
  constructor
  · rintro ⟨e, he, hj⟩
    cases hb : Region.binds .any e with
    | false => simp [hb] at hj
    | true =>
      simp only [hb, cond_true, List.mem_cons] at hj
      have he' : e ∈ o.after := by simpa using he
      refine ⟨e, he', hb, ?_⟩
      rw [hgetD e.on (hfw e he' hb)] at hj
      rcases hj with h | h
      · exact .inl h.symm
      · exact .inr h
  · rintro ⟨e, he, hb, hj⟩
    refine ⟨e, by simpa using he, ?_⟩
    simp only [hb, cond_true, List.mem_cons]
    rw [hgetD e.on (hfw e he hb)]
    rcases hj with h | h
    · exact .inl h.symm
    · exact .inr h

theorem befores_lt {ops : Array Oper} (hf : forward ops = true) : ∀ (i j : Nat), j ∈ (befores ops ops.toList []).getD i [] → j < i := by
  intro i
  induction i using Nat.strongRecOn with
  | _ i ih =>
    intro j hj
    rcases Nat.lt_or_ge i ops.size with hi | hi
    · obtain ⟨e, he, hb, hor⟩ := (befores_mem hf i ops[i] (by simp [hi]) j).1 hj
      have hlt : e.on < i := by
        have hh := List.all_eq_true.1 hf i (by simpa using hi)
        simp only [hi, Array.getElem?_eq_getElem, Array.all_eq_true_iff_forall_mem] at hh
        have := hh e he
        simp only [hb, Bool.not_true, Bool.false_or] at this
        exact Nat.le_of_ble_eq_true this
      rcases hor with rfl | hor
      · exact hlt
      · have := ih e.on hlt j hor; omega
    · obtain ⟨tail, h1, h2, _⟩ := befores_get ops ops.toList []
      have hl : (befores ops ops.toList []).length = ops.size := by rw [h1]; simpa using h2
      rw [List.getD_eq_getElem?_getD, List.getElem?_eq_none (by omega)] at hj
      simp at hj

theorem compOps_get {md : Modes} {fn id : Nat} {ops : Array Oper} : ∀ {l : List Oper} {i : Nat} {os : List Oper1}, compOps P md fn id ops i l = some os → os.length = l.length ∧ ∀ k (h : k < os.length) (h' : k < l.length), compOper P md fn id ops (i + k) l[k] = some os[k]
  | [], i, os, h => by cases h; exact ⟨rfl, fun k h => absurd h (by simp)⟩
  | o :: l, i, os, h => by
    simp only [compOps, Option.bind_eq_some_iff, Option.some.injEq] at h
    obtain ⟨o1, ho1, os', hos, rfl⟩ := h
    obtain ⟨h1, h2⟩ := compOps_get hos
    refine ⟨by simp [h1], fun k hk hk' => ?_⟩
    cases k with
    | zero => exact ho1
    | succ k =>
      have := h2 k (by simpa using hk) (by simpa using hk')
      have e0 : i + 1 + k = i + (k + 1) := by omega
      rw [e0] at this
      exact this

/-- A world in which one more draw has been made. -/
def Cx.drew (c : Cx) : Cx := { c with w := { c.w with drawn := c.w.drawn + 1 } }

theorem drew_rep {a : AV} {v : Value} (h : Rep c a v) : Rep c.drew a v := Rep.mono (c := c) (c' := c.drew) (fun _ _ => rfl) (fun _ h => h) (fun _ _ h => h) (fun _ _ _ _ h => h) h
theorem drew_good (g : Good c B H) : Good c.drew B H :=
  ⟨g.le, g.nm, g.ver, g.rn, g.inj, g.dlt, g.disj, fun b k hk hg => by
    obtain ⟨l, h1, h2⟩ := g.tot b k hk hg
    exact ⟨l, h1, HasBlk.mono (c := c) (c' := c.drew) (fun _ _ => rfl) (fun _ h => h) (fun _ _ h => h) (fun _ _ _ _ h => h) rfl h2⟩, g.one, g.rod⟩
theorem drew_nxt (c : Cx) (H : Heap) : Nxt c c.drew H H :=
  ⟨rfl, rfl, rfl, Nat.le_refl _, fun _ _ _ => rfl, fun _ h => h, fun _ h => .inl h, fun _ _ h => h, fun _ _ h => .inl h, fun _ _ _ _ h => h, fun _ _ _ h _ => h, fun _ _ _ h => .inl h, Nat.le_refl _, fun _ _ h _ => h, fun _ k h => ⟨k, h, Nat.le_refl _⟩⟩

theorem stepsD_len {call : CallT} (hS : SimAll P call) : ∀ {os : List Oper1} {e e' : Env} {H H' : Heap} {fs : List (List Nat × List Nat)}, stepsD call os e H = some (fs, e', H') → H.length ≤ H'.length
  | [], e, e', H, H', fs, h => by cases h; exact Nat.le_refl _
  | o :: os, e, e', H, H', fs, h => by
    simp only [stepsD, Option.bind_eq_some_iff] at h
    obtain ⟨⟨e1, H1⟩, h1, ⟨fs', e2, H2⟩, h2, h3⟩ := h
    cases h3
    exact Nat.le_trans (stepD_len hS h1) (stepsD_len hS h2)

/-- A statement whose order is open. -/
theorem sim_regd {call : CallT} (hS : SimAll P call) (hm : P.follows .mixedOrders = true) {md : Modes} {fn id : Nat} {ops : Array Oper} {os : List Oper1} {ps : List (Nat × Nat)} {e' : Env} {H' : Heap} {fs : List (List Nat × List Nat)}
    (hc : compOps P md fn id ops 0 ops.toList = some os) (hf : forward ops = true) (hp : openPairs (befores ops ops.toList []) os = some ps) (hs : stepsD call os e H = some (fs, e', H')) (hok : ps.all (pairOk fs) = true)
    (g : Good c B H) (hB : H'.length ≤ B) (he : RepE c e act.tmps) (hdst : os.all (dstLt act.tmps.size) = true) {Q : Exit → Act → World → Prop}
    (hK : ∀ (c' : Cx) (act' : Act), Good c' B H' → RepE c' e' act'.tmps → Nxt c c' H H' → act'.tmps.size = act.tmps.size → act'.defers = act.defers → Q .normal act' c'.w) :
    (Code.region id ops true).wp P Q act c.w := by
  obtain ⟨hl, hco⟩ := compOps_get hc
  have hl : os.length = ops.size := by simpa using hl
  obtain ⟨E, Hh, q1, q2, q3, q4, q5, q6⟩ := stepsD_trace hs
  let L : Plan := ⟨os, befores ops ops.toList [], E, Hh, fs⟩
  unfold openPairs at hp
  simp only at hp
  obtain ⟨hp1, hp2⟩ := bif_some hp
  have hL : L.Ok P call := ⟨q6, hS, fun i j h => befores_lt hf i j h, fun i j hij hj h1 h2 => by
    have hi : i < os.length := Nat.lt_trans hij hj
    have hmem : (i, j) ∈ (List.range os.length).flatMap fun j => (List.range j).flatMap fun i => bif has ((befores ops ops.toList []).getD j []) i || has ((befores ops ops.toList []).getD i []) j then [] else [(i, j)] := by
      simp only [List.mem_flatMap, List.mem_range]
      refine ⟨j, hj, i, hij, ?_⟩
      have e1 : has ((befores ops ops.toList []).getD j []) i = false := by
        cases hh : has ((befores ops ops.toList []).getD j []) i with
        | false => rfl
        | true => exact absurd (has_mem.1 hh) h1
      have e2 : has ((befores ops ops.toList []).getD i []) j = false := by
        cases hh : has ((befores ops ops.toList []).getD i []) j with
        | false => rfl
        | true => exact absurd (has_mem.1 hh) h2
      rw [e1, e2]
      exact List.mem_singleton.2 rfl
    have hfree := List.all_eq_true.1 hp1 _ hmem
    have gi : os[i]? = some os[i] := List.getElem?_eq_getElem hi
    have gj : os[j]? = some os[j] := List.getElem?_eq_getElem hj
    simp only [gi, gj] at hfree
    refine ⟨⟨hi, hfree⟩, fun a1 a2 a3 => ?_⟩
    simp only [L, gi, gj, Option.map_some, Option.getD_some] at a1 a2 a3
    refine List.all_eq_true.1 hok (i, j) ?_
    rw [← hp2, List.mem_filter]
    refine ⟨hmem, ?_⟩
    simp only [gi, gj, Bool.and_eq_true]
    exact ⟨⟨Nat.ble_eq_true_of_le a3, Nat.ble_eq_true_of_le a1⟩, Nat.ble_eq_true_of_le a2⟩⟩
  have hN : L.N = H'.length := by
    show (Hh os.length).length = _
    rw [q4]
  have hH0 : Hh 0 = H := q2
  have hHn : L.Hh L.n = H' := q4
  have hEn : L.E L.n = e' := q3
  have hall0 : ∀ k, (Array.replicate ops.size false).getD k false = false := fun k => by
    rcases Nat.lt_or_ge k ops.size with h | h <;> simp [h]
  have hS0 : (fun k => (Array.replicate ops.size false).getD k false) = fun _ => false := funext hall0
  refine wp_region_any hm ?_
  have hval : ∀ t k, L.val (fun _ => false) t k = e.get t := by
    intro t k
    induction k with
    | zero => show (E 0).get t = _; rw [q1]
    | succ k ih => simp [Plan.val, ih]
  have hblk : ∀ b k, L.blk (fun _ => false) b k = H[b]? := by
    intro b k
    induction k with
    | zero => show (Hh 0)[b]? = _; rw [q2]
    | succ k ih => simp [Plan.blk, ih]
  have hheap : ∀ b, (L.heap (fun _ => false))[b]? = if b < H'.length then some ((H[b]?).getD Plan.gone) else none := fun b => by
    rw [Plan.heap_get, hN, hblk]
  have hlen := stepsD_len hS hs
  have hlive : ∀ (b : Nat) (k : Blk), (L.heap (fun _ => false))[b]? = some k → k.kind.isGone = false → H[b]? = some k := fun b k hk hg => by
    rw [hheap] at hk
    split at hk
    · cases hb : H[b]? with
      | none => rw [hb] at hk; simp at hk; subst hk; simp [Plan.gone, Kind.isGone] at hg
      | some q => rw [hb] at hk; simpa using hk
    · cases hk
  have hold : ∀ (b : Nat) (k : Blk), H[b]? = some k → (L.heap (fun _ => false))[b]? = some k := fun b k hk => by
    rw [hheap, hk]
    have := (List.getElem?_eq_some_iff.1 hk).1
    rw [if_pos (by omega)]
    rfl
  have hlH : (L.heap (fun _ => false)).length = H'.length := by rw [Plan.heap_len, hN]
  have g1 := drew_good g
  have hat : Plan.At L c.drew B (fun _ => false) c.drew act := by
    refine ⟨?_, ?_, fun b u hn => ?_, fun t a ht => ?_⟩
    · exact g1.sub hlive (by rw [hlH]; exact hB) (fun b u hn => by
        rw [hlH]
        rcases g1.nm b u hn with h | h
        · exact .inl (by omega)
        · exact .inr h)
    · rw [show L.Hh 0 = H from q2]
      refine ⟨rfl, rfl, rfl, Nat.le_refl _, fun _ _ _ => rfl, fun _ h => h, fun _ h => .inl h, fun _ _ h => h, fun _ _ h => .inl h, fun _ _ _ _ h => h, fun _ _ _ h _ => h, fun _ _ _ h => .inl h, by rw [hlH]; exact hlen, fun b k h _ => hold b k h, fun b k h => ⟨k, hold b k h, Nat.le_refl _⟩⟩
    · rw [show L.Hh 0 = H from q2]
      rcases g1.nm b u hn with h | h
      · exact .inl h
      · exact .inr (.inr h)
    · rw [hval] at ht
      obtain ⟨v, h1, h2⟩ := he t a ht
      exact ⟨v, h1, drew_rep h2⟩
  refine Plan.sim_any (L := L) (md := md) (fn := fn) (id := id) hL (c0 := c.drew) (by rw [show L.Hh 0 = H from q2]; exact g1) (by rw [hN]; exact hB) hl.symm (fun i hi o ho => ?_) (fun i o ho j hj => (befores_mem hf i o ho j).1 hj) (fun i o ho e he hb => (befores_mem hf i o ho e.on).2 ⟨e, he, hb, .inl rfl⟩) (sz := act.tmps.size) (df := act.defers) hdst
    (fun c' act' g' he' n' hs' hd' => ?_) ops.size (Array.replicate ops.size false) c.drew act (by simp) (by rw [hS0]; exact fun k hk => by cases hk) ?_ (by rw [hS0]; exact hat) rfl rfl
  · have hlt : i < ops.size := by rw [← hl]; exact hi
    have := hco i hi (by simpa using hlt)
    rw [Nat.zero_add] at this
    have e0 : ops.toList[i]'(by simpa using hlt) = o := by
      have := (Array.getElem?_eq_some_iff.1 ho).2
      simpa using this
    rw [e0] at this
    exact this
  · rw [hHn] at g' n'
    rw [hEn] at he'
    rw [show L.Hh 0 = H from q2] at n'
    exact hK c' act' g' he' ((drew_nxt c H).trans g (Nat.le_trans hlen hB) n') hs' hd'
  · rw [hS0]
    have : ∀ m, Plan.unl (fun _ => false) m = m := by
      intro m
      induction m with
      | zero => rfl
      | succ m ih => simp [Plan.unl, ih]
    rw [this]
    exact Nat.le_of_eq hl

end Go.Abs
