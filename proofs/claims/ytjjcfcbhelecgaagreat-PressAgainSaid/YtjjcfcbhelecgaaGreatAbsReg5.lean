/- Statements whose order is open: the law. Conditions: those of each lemma. -/
import Derived.Test.YtjjcfcbhelecgaaGreatAbsReg4
set_option linter.unusedVariables false
set_option linter.unusedSimpArgs false
namespace Go.Abs
variable {P : Program} {c c' : Cx} {B : Nat} {H : Heap} {e : Env} {act : Act}

namespace Plan
variable {L : Plan} {call : CallT} {S : Nat → Bool} {i : Nat}

/-- Where one stands when S has been done. -/
structure At (L : Plan) (c0 : Cx) (B : Nat) (S : Nat → Bool) (c : Cx) (act : Act) : Prop where
  good : Good c B (L.heap S)
  nxt : Nxt c0 c (L.Hh 0) (L.heap S)
  nm : ∀ b u, c.N b u → b < (L.Hh 0).length ∨ (∃ k, k < L.os.length ∧ S k = true ∧ (L.Hh k).length ≤ b ∧ b < (L.Hh (k + 1)).length) ∨ B ≤ b
  val : ∀ t a, L.val S t L.n = some a → ∃ v, act.tmps[t]? = some v ∧ Rep c a v

/-- The environment that an operation sees. -/
theorem seen_env (h : L.Ok P call) (hc : Closed L S) (hr : Ready L S i) {c0 : Cx} (ha : At L c0 B S c act) : ∃ e' : Env, RepE c e' act.tmps ∧ ∀ t, t ∈ sees (L.os[i]'hr.lt) → (L.E i).get t = e'.get t := by
  have hi := hr.lt
  have hget : ∀ (l : List Nat) (t : Nat), t ∈ l → ((L.E i).only l).get t = (L.E i).get t := by
    intro l
    induction l with
    | nil => intro t ht; cases ht
    | cons u l ih =>
      intro t ht
      simp only [Env.only]
      by_cases hut : u = t
      · subst hut
        cases hg : (L.E i).get u with
        | some a => simp [Env.get, Nat.beq_refl]
        | none =>
          simp only
          by_cases hm : u ∈ l
          · rw [ih u hm, hg]
          · cases ho : ((L.E i).only l).get u with
            | none => rfl
            | some a => rw [get_only _ _ _ _ ho] at hg; cases hg
      · have hm : t ∈ l := by
          simp only [List.mem_cons] at ht
          rcases ht with h | h
          · exact absurd h.symm hut
          · exact h
        cases hg : (L.E i).get u with
        | some a => simp only [Env.get, nbeq_ne hut, cond_false]; exact ih t hm
        | none => exact ih t hm
  refine ⟨(L.E i).only (sees L.os[i]), fun t a h1 => ?_, fun t ht => (hget _ t ht).symm⟩
  have h2 := get_only _ _ _ _ h1
  have hts : t ∈ sees L.os[i] := by
    have : ∀ (l : List Nat) (t : Nat) (a : AV), ((L.E i).only l).get t = some a → t ∈ l := by
      intro l
      induction l with
      | nil => intro t a h; simp [Env.only, Env.get] at h
      | cons u l ih =>
        intro t a h
        simp only [Env.only] at h
        split at h
        · by_cases hut : u = t
          · subst hut; simp
          · simp only [Env.get, nbeq_ne hut, cond_false] at h
            exact List.mem_cons_of_mem _ (ih t a h)
        · exact List.mem_cons_of_mem _ (ih t a h)
    exact this _ t a h1
  exact ha.val t a ((val_seen h hc hr hts).trans h2)

theorem W_eq (h : L.Ok P call) (hi : i < L.os.length) : L.W i = (foot L.os[i] (L.E i) (L.Hh i) (L.Hh (i + 1))).2 := by simp [W, (h.run i hi).2]
theorem R_eq (h : L.Ok P call) (hi : i < L.os.length) : L.R i = (foot L.os[i] (L.E i) (L.Hh i) (L.Hh (i + 1))).1 := by simp [R, (h.run i hi).2]

/-- One more operation. -/
theorem at_step (h : L.Ok P call) (hc : Closed L S) (hr : Ready L S i) {c0 : Cx} (g0 : Good c0 B (L.Hh 0)) (hB : L.N ≤ B) (ha : At L c0 B S c act) {ops : Array Oper} {o : Oper} {md : Modes} {fn id : Nat}
    (hoi : ops[i]? = some o) (hco : compOper P md fn id ops i o = some (L.os[i]'hr.lt)) (hdst : dstLt act.tmps.size (L.os[i]'hr.lt) = true) {Q : Exit → Act → World → Prop} {K : Act → World → Prop}
    (hK : ∀ (c' : Cx) (act' : Act), At L c0 B (add S i) c' act' → act'.tmps.size = act.tmps.size → act'.defers = act.defers → K act' c'.w) : wpOp P ops Q i K act c.w := by
  obtain ⟨e', he', hee⟩ := seen_env h hc hr ha
  have hi := hr.lt
  simp only [compOper, Option.bind_eq_some_iff, Option.some.injEq] at hco
  obtain ⟨g1, hg1, ho1⟩ := hco
  have hdsto : L.os[i].dst = o.dst := by rw [← ho1]
  have hguard : L.os[i].guard = g1 := by rw [← ho1]
  have hopc : L.os[i].op = comp P (md fn id i) o := by rw [← ho1]
  have hdi : L.dst i = o.dst := by simp [dst, hi, hdsto]
  have hwant : want1 (L.E i) g1 = want1 e' g1 := by
    cases hg : g1 with
    | none => rfl
    | some tw =>
      obtain ⟨t, w⟩ := tw
      have : t ∈ sees L.os[i] := by simp [sees, hguard, hg]
      simp only [want1, hee t this]
  unfold wpOp
  simp only [hoi]
  -- the value's slot behind it
  have vals : ∀ (c1 : Cx) (v : Value), (∀ {a : AV} {u : Value}, Rep c a u → Rep c1 a u) → (∀ d a, o.dst = some d → (L.E (i + 1)).get d = some a → Rep c1 a v) →
      ∀ t a, L.val (add S i) t L.n = some a → ∃ u, (act.put o.dst v).tmps[t]? = some u ∧ Rep c1 a u := fun c1 v hmono hv t a hva => by
    rw [val_add h hc hr, hdi] at hva
    by_cases hd : o.dst = some t
    · rw [if_pos hd] at hva
      have hlt : t < act.tmps.size := by
        have : L.os[i].dst = some t := by rw [hdsto]; exact hd
        simp only [dstLt, this] at hdst
        exact Nat.le_of_ble_eq_true hdst
      exact ⟨v, by simp [hd, Act.put, hlt], hv t a hd hva⟩
    · rw [if_neg hd] at hva
      obtain ⟨u, hu, hru⟩ := ha.val t a hva
      refine ⟨u, ?_, hmono hru⟩
      cases ho : o.dst with
      | none => simpa [Act.put] using hu
      | some d =>
        have hne : d ≠ t := fun e0 => hd (by rw [ho, e0])
        simp only [Act.put]
        rw [Array.getElem?_setIfInBounds_ne hne]
        exact hu
  rcases stepD_cases h.sim (h.run i hi).1 with ⟨hw, a, M, hev, hl, hl2, hget, hE⟩ | ⟨hw, hHe, hE⟩
  · -- it is wanted
    rw [hguard] at hw
    rw [want_rep hg1 (hwant ▸ hw) he', if_pos rfl]
    let ft := feet (L.E i) (L.Hh i) L.os[i].op
    let Hm := maskFrom ft.1 ft.2 0 (L.Hh i)
    have hev' : ev1 call e' Hm (comp P (md fn id i) o) = some (a, M) := by
      rw [← hopc, ← ev1_congr (e := L.E i) (fun t ht => hee t (by simp only [sees, List.mem_append]; exact .inl ht))]
      exact hev
    have hHml : Hm.length = (L.Hh i).length := maskFrom_len _ _ _ _
    have hfoot : foot L.os[i] (L.E i) (L.Hh i) (L.Hh (i + 1)) = (ft.1, ft.2 ++ List.range' (L.Hh i).length ((L.Hh (i + 1)).length - (L.Hh i).length)) := by
      simp only [foot, hguard, hw]
      rfl
    have hWi : ∀ b, b ∈ L.W i ↔ b ∈ ft.2 ∨ ((L.Hh i).length ≤ b ∧ b < M.length) := fun b => by
      rw [W_eq h hi, hfoot]
      simp only [List.mem_append, List.mem_range'_1, hl2]
      constructor
      · rintro (hb | hb)
        · exact .inl hb
        · exact .inr ⟨hb.1, by omega⟩
      · rintro (hb | hb)
        · exact .inl hb
        · exact .inr ⟨hb.1, by omega⟩
    have hRi : L.R i = ft.1 := by rw [R_eq h hi, hfoot]
    have hNi : M.length ≤ L.N := by
      rw [← hl2]
      exact Hh_mono h (show i + 1 ≤ L.os.length from hi) (Nat.le_refl _)
    have hN0 : (L.Hh 0).length ≤ (L.Hh i).length := Hh_mono h (Nat.zero_le _) (Nat.le_of_lt hi)
    -- the masked heap is a part of the heap that is there
    have hmget : ∀ b, Hm[b]? = ((L.Hh i)[b]?).map fun k => if has ft.2 b || has ft.1 b then k else { k with kind := .gone, ro := true } := fun b => by
      have := maskFrom_get ft.1 ft.2 (L.Hh i) 0 b
      rw [Nat.zero_add] at this
      exact this
    have hmlive : ∀ (b : Nat) (k : Blk), Hm[b]? = some k → k.kind.isGone = false → (b ∈ L.R i ∨ b ∈ L.W i) ∧ (L.Hh i)[b]? = some k := fun b k hk hg => by
      rw [hmget] at hk
      simp only [Option.map_eq_some_iff] at hk
      obtain ⟨k0, h0, hk⟩ := hk
      cases hh : (has ft.2 b || has ft.1 b) with
      | false => simp only [hh, Bool.false_eq_true, if_false] at hk; subst hk; simp [Kind.isGone] at hg
      | true =>
        simp only [hh, if_true] at hk
        subst hk
        simp only [Bool.or_eq_true, has_mem] at hh
        refine ⟨?_, h0⟩
        rcases hh with hh | hh
        · exact .inr ((hWi b).2 (.inl hh))
        · exact .inl (hRi ▸ hh)
    have hsub : ∀ (b : Nat) (k : Blk), Hm[b]? = some k → k.kind.isGone = false → (L.heap S)[b]? = some k := fun b k hk hg => by
      obtain ⟨hb, h0⟩ := hmlive b k hk hg
      rw [heap_get, blk_seen h hc hr hb, h0]
      have : b < L.N := Nat.lt_of_lt_of_le (List.getElem?_eq_some_iff.1 h0).1 (Nat.le_trans hl hNi)
      simp [this]
    have gm : Good c M.length Hm := ha.good.sub hsub (by rw [hHml]; exact hl) (fun b u hn => by
      rw [hHml]
      rcases ha.nm b u hn with h1 | ⟨k, hk, hs, h1, h2⟩ | h1
      · exact .inl (Nat.lt_of_lt_of_le h1 hN0)
      · rcases Nat.lt_trichotomy k i with hki | rfl | hki
        · exact .inl (Nat.lt_of_lt_of_le h2 (Hh_mono h (by omega) (Nat.le_of_lt hi)))
        · rw [hr.no] at hs; cases hs
        · refine .inr (Nat.le_trans ?_ h1)
          rw [← hl2]
          exact Hh_mono h (by omega) (Nat.le_of_lt hk)
      · exact .inr (Nat.le_trans (Nat.le_trans hNi hB) h1))
    have hop := sim_op h.sim (comp_known hev') hev' gm (Nat.le_refl _) he'
    refine hop.wp fun c1 v g1' r1 n1 => ?_
    -- the parts
    have hpart : Part Hm M (L.heap S) (L.heap (add S i)) := by
      have hlenM : Hm.length ≤ M.length := by rw [hHml]; exact hl
      refine ⟨by rw [heap_len, heap_len], by rw [heap_len]; exact hNi, hsub, fun b hT => ?_, fun b hT => ?_⟩
      · have hbN : b < L.N := by
          rcases hT with ⟨k, hk, _⟩ | ⟨_, hb⟩
          · have := (List.getElem?_eq_some_iff.1 hk).1; omega
          · omega
        rw [heap_get, if_pos hbN, blk_add h hc hr]
        rcases hT with ⟨k, hk, hg⟩ | ⟨hb1, hb2⟩
        · obtain ⟨hb, h0⟩ := hmlive b k hk hg
          have hblt := (List.getElem?_eq_some_iff.1 h0).1
          have hMb : ∃ q, M[b]? = some q := ⟨M[b]'(by omega), List.getElem?_eq_getElem (by omega)⟩
          obtain ⟨q, hq⟩ := hMb
          by_cases hbW : b ∈ L.W i
          · have hbf : b ∈ ft.2 := by
              rcases (hWi b).1 hbW with hh | hh
              · exact hh
              · omega
            rw [if_pos hbW, hget b, if_pos hblt, if_pos (has_mem.2 hbf), hq]
            rfl
          · have hbR : b ∈ ft.1 := by
              rcases hb with hb | hb
              · exact hRi ▸ hb
              · exact absurd hb hbW
            rw [if_neg hbW, blk_seen h hc hr hb, h0]
            have := ev1_keeps (H := L.Hh i) hev (b := b) hbR (fun hh => hbW ((hWi b).2 (.inl hh))) (by rw [maskFrom_len]; exact hblt)
            rw [this]
            exact hk.symm
        · have hbW : b ∈ L.W i := (hWi b).2 (.inr ⟨by omega, hb2⟩)
          have hMb : ∃ q, M[b]? = some q := ⟨M[b], List.getElem?_eq_getElem hb2⟩
          obtain ⟨q, hq⟩ := hMb
          rw [if_pos hbW, hget b, if_neg (by omega), hq]
          rfl
      · rw [heap_get, heap_get, blk_add h hc hr]
        by_cases hbW : b ∈ L.W i
        · rw [if_pos hbW]
          have hs := blk_seen h hc hr (.inr hbW)
          rw [hs]
          suffices (L.Hh (i + 1))[b]? = (L.Hh i)[b]? by rw [this]
          rw [hget b]
          rcases Nat.lt_or_ge b (L.Hh i).length with hlt | hge
          · rw [if_pos hlt]
            have hbf : b ∈ ft.2 := by
              rcases (hWi b).1 hbW with hh | hh
              · exact hh
              · omega
            rw [if_pos (has_mem.2 hbf)]
            obtain ⟨k, hk⟩ : ∃ k, (L.Hh i)[b]? = some k := ⟨_, List.getElem?_eq_getElem hlt⟩
            have hmk : Hm[b]? = some k := by rw [hmget, hk]; simp [has_mem.2 hbf]
            have hng : ¬ writable Hm b := fun hwm => hT (writable_touched hwm)
            rw [hk]
            exact n1.hkeep b k hmk hng
          · rw [if_neg (by omega), List.getElem?_eq_none hge, List.getElem?_eq_none]
            rcases Nat.lt_or_ge b M.length with hlt2 | hge2
            · exact absurd (.inr ⟨by omega, hlt2⟩) hT
            · exact hge2
        · rw [if_neg hbW]
    have q1 := good_merge ha.good gm g1' n1 hpart
    have q2 := nxt_merge g0 ha.good gm ha.nxt n1 hpart (by rw [hHml]; exact hN0)
    refine hK c1 _ ⟨q1, q2, fun b u hn => ?_, vals c1 v (fun hr' => n1.rep gm hr') (fun d a' hd hg => ?_)⟩ (put_size _ _ _) (put_defers _ _ _)
    · have keepN : ∀ u, c.N b u → b < (L.Hh 0).length ∨ (∃ k, k < L.os.length ∧ add S i k = true ∧ (L.Hh k).length ≤ b ∧ b < (L.Hh (k + 1)).length) ∨ B ≤ b := fun u hn => by
        rcases ha.nm b u hn with h1 | ⟨k, hk, hs, h1⟩ | h1
        · exact .inl h1
        · exact .inr (.inl ⟨k, hk, by simp [add, hs], h1⟩)
        · exact .inr (.inr h1)
      rcases n1.nnew b u hn with hn | ⟨h1, h2⟩ | ⟨⟨k, hk, hg, _⟩, _⟩
      · exact keepN u hn
      · exact .inr (.inl ⟨i, hi, by simp [add], by omega, by omega⟩)
      · obtain ⟨l, hl', _⟩ := ha.good.tot b k (hsub b k hk hg) hg
        exact keepN _ (ha.good.rn _ _ _ hl').1
    · rw [hE, hdsto, hd] at hg
      simp only [get_put, if_true, Option.some.injEq] at hg
      exact hg ▸ r1
  · -- it is not
    rw [hguard] at hw
    rw [want_rep hg1 (hwant ▸ hw) he']
    simp only [Bool.false_eq_true, if_false]
    have hfoot : L.W i = [] := by
      rw [W_eq h hi]
      simp [foot, hguard, hw]
    have hheap : L.heap (add S i) = L.heap S := by
      unfold heap
      congr 1
      funext b
      rw [blk_add h hc hr, hfoot]
      simp
    refine hK c _ ⟨hheap ▸ ha.good, hheap ▸ ha.nxt, fun b u hn => ?_, vals c undef (fun hr' => hr') (fun d a' hd hg => ?_)⟩ (put_size _ _ _) (put_defers _ _ _)
    · rcases ha.nm b u hn with h1 | ⟨k, hk, hs, h1⟩ | h1
      · exact .inl h1
      · exact .inr (.inl ⟨k, hk, by simp [add, hs], h1⟩)
      · exact .inr (.inr h1)
    · rw [hE, hdsto, hd] at hg
      simp only [get_put, if_true, Option.some.injEq] at hg
      exact hg ▸ .imm (.tuple [] #[] rfl (fun i h => absurd h (by simp)))

/-! ### In any order -/
def unl (S : Nat → Bool) : Nat → Nat
  | 0 => 0
  | k + 1 => unl S k + (if S k then 0 else 1)

theorem unl_add (S : Nat → Bool) (i : Nat) (hS : S i = false) : ∀ n, unl (add S i) n + (if i < n then 1 else 0) = unl S n
  | 0 => by simp [unl]
  | n + 1 => by
    have ih := unl_add S i hS n
    simp only [unl]
    by_cases h : n = i
    · subst h
      simp [add, hS] at ih ⊢
      omega
    · have : add S i n = S n := by simp [add, h]
      rw [this]
      by_cases h2 : i < n
      · have : i < n + 1 := by omega
        simp only [h2, this, if_true] at ih ⊢
        omega
      · have : ¬ i < n + 1 := by omega
        simp only [h2, this, if_false] at ih ⊢
        omega

theorem unl_zero {S : Nat → Bool} : ∀ {n : Nat}, unl S n = 0 → ∀ k, k < n → S k = true
  | 0, _, k, hk => absurd hk (by simp)
  | n + 1, h, k, hk => by
    simp only [unl] at h
    rcases Nat.lt_or_ge k n with h1 | h1
    · exact unl_zero (by omega) k h1
    · have : k = n := by omega
      subst this
      cases hs : S k with
      | true => rfl
      | false => simp [hs] at h

/-- What the plan's 'before' says of the operations' edges. -/
def Edges (L : Plan) (ops : Array Oper) : Prop :=
  ∀ (i : Nat) (o : Oper), ops[i]? = some o → ∀ j, j ∈ L.bs.getD i [] → ∃ e, e ∈ o.after ∧ Region.binds .any e = true ∧ (e.on = j ∨ j ∈ L.bs.getD e.on [])
def EdgesIn (L : Plan) (ops : Array Oper) : Prop :=
  ∀ (i : Nat) (o : Oper), ops[i]? = some o → ∀ e, e ∈ o.after → Region.binds .any e = true → e.on ∈ L.bs.getD i []

theorem sim_any (h : L.Ok P call) {c0 : Cx} (g0 : Good c0 B (L.Hh 0)) (hB : L.N ≤ B) {ops : Array Oper} {md : Modes} {fn id : Nat} (hn : ops.size = L.os.length) (hco : ∀ i (hi : i < L.os.length) o, ops[i]? = some o → compOper P md fn id ops i o = some L.os[i])
    (he1 : Edges L ops) (he2 : EdgesIn L ops) {Q : Exit → Act → World → Prop} {sz : Nat} {df : List Deferred} (hdst : L.os.all (dstLt sz) = true)
    (hK : ∀ (c' : Cx) (act' : Act), Good c' B (L.Hh L.n) → RepE c' (L.E L.n) act'.tmps → Nxt c0 c' (L.Hh 0) (L.Hh L.n) → act'.tmps.size = sz → act'.defers = df → Q .normal act' c'.w) :
    ∀ (fuel : Nat) (listed : Array Bool) (c : Cx) (act : Act), listed.size = ops.size → Closed L (fun k => listed.getD k false) → unl (fun k => listed.getD k false) L.os.length ≤ fuel → At L c0 B (fun k => listed.getD k false) c act → act.tmps.size = sz → act.defers = df →
      wpAny P .any ops Q fuel listed act c.w := by
  have fin : ∀ (listed : Array Bool) (c : Cx) (act : Act), (∀ k, k < L.os.length → listed.getD k false = true) → At L c0 B (fun k => listed.getD k false) c act → act.tmps.size = sz → act.defers = df → Q .normal act c.w := fun listed c act hall ha hs hd => by
    obtain ⟨q1, q2⟩ := all_done h hall
    have hh : L.heap (fun k => listed.getD k false) = L.Hh L.n := by
      apply List.ext_getElem?
      intro b
      rw [heap_get, q2]
      by_cases hb : b < L.N
      · rw [if_pos hb, List.getElem?_eq_getElem hb]; rfl
      · rw [if_neg hb, List.getElem?_eq_none (Nat.le_of_not_lt hb)]
    exact hK c act (hh ▸ ha.good) (fun t a ht => ha.val t a ((q1 t).trans ht)) (hh ▸ ha.nxt) hs hd
  intro fuel
  induction fuel with
  | zero =>
    intro listed c act hls hcl hu ha hs hd
    have hall := unl_zero (Nat.le_zero.1 hu)
    refine ⟨?_, fin listed c act hall ha hs hd⟩
    cases hr : Region.ready .any ops listed with
    | nil => rfl
    | cons j l =>
      have hj : j ∈ Region.ready .any ops listed := by rw [hr]; simp
      obtain ⟨h0, o, ho, _⟩ := mem_ready.1 hj
      have hlt : j < ops.size := (Array.getElem?_eq_some_iff.1 ho).1
      have := hall j (by omega)
      simp [hls, hlt] at h0 this
      rw [h0] at this; cases this
  | succ fuel ih =>
    intro listed c act hls hcl hu ha hs hd
    refine ⟨fun hr => ?_, fun i hi => ?_⟩
    · -- none is ready: all are done
      refine fin listed c act (fun k => ?_) ha hs hd
      induction k using Nat.strongRecOn with
      | _ k ihk =>
        intro hk
        cases hk0 : listed.getD k false with
        | true => rfl
        | false =>
          exfalso
          have hks : k < ops.size := by omega
          have : k ∈ Region.ready .any ops listed := mem_ready.2 ⟨by simp [hls, hks] at hk0 ⊢; exact hk0, ops[k], by simp [hks], fun e he hb => by
            have hm := he2 k ops[k] (by simp [hks]) e he hb
            have hlt := h.fwd k e.on hm
            exact ihk e.on hlt (by omega)⟩
          rw [hr] at this
          cases this
    · obtain ⟨h0, o, ho, hpre⟩ := mem_ready.1 hi
      have hlt : i < ops.size := (Array.getElem?_eq_some_iff.1 ho).1
      have hltn : i < L.os.length := by omega
      have hno : listed.getD i false = false := by simp [hls, hlt] at h0 ⊢; exact h0
      have hrd : Ready L (fun k => listed.getD k false) i := ⟨hltn, hno, fun j hj => by
        obtain ⟨e, he, hb, hor⟩ := he1 i o ho j hj
        have hon := hpre e he hb
        rcases hor with rfl | hor
        · exact hon
        · exact (hcl e.on hon).2 j hor⟩
      have hadd : (fun k => (listed.setIfInBounds i true).getD k false) = add (fun k => listed.getD k false) i := by
        funext k
        by_cases hk : k = i
        · subst hk
          simp [add, hls, hlt]
        · rw [getD_set_ne false (Ne.symm hk)]
          simp [add, hk]
      refine at_step h hcl hrd g0 hB ha ho (hco i hltn o ho) ?_ fun c' act' ha' hs' hd' => ?_
      · rw [hs]
        exact List.all_eq_true.1 hdst _ (List.getElem_mem hltn)
      · refine ih (listed.setIfInBounds i true) c' act' (by simp [hls]) (hadd ▸ closed_add hcl hrd) ?_ (hadd ▸ ha') (hs'.trans hs) (hd'.trans hd)
        rw [hadd]
        have := unl_add (fun k => listed.getD k false) i hno L.os.length
        rw [if_pos hltn] at this
        omega

end Plan
end Go.Abs
