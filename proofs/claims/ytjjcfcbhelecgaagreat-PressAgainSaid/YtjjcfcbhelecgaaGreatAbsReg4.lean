/- Statements whose order is open. Conditions: those of each lemma. -/
import Derived.Test.YtjjcfcbhelecgaaGreatAbsReg3
set_option linter.unusedVariables false
set_option linter.unusedSimpArgs false
namespace Go.Abs
variable {P : Program} {c c' : Cx} {B : Nat} {H : Heap} {e : Env} {act : Act}

/-! ### The run in the text's order -/
theorem stepsD_trace {call : CallT} : ∀ {os : List Oper1} {e e' : Env} {H H' : Heap} {fs : List (List Nat × List Nat)}, stepsD call os e H = some (fs, e', H') →
    ∃ (E : Nat → Env) (Hh : Nat → Heap), E 0 = e ∧ Hh 0 = H ∧ E os.length = e' ∧ Hh os.length = H' ∧ fs.length = os.length ∧
      ∀ i (h : i < os.length), stepD call os[i] (E i) (Hh i) = some (E (i + 1), Hh (i + 1)) ∧ fs[i]? = some (foot os[i] (E i) (Hh i) (Hh (i + 1)))
  | [], e, e', H, H', fs, h => by
    cases h
    exact ⟨fun _ => e, fun _ => H, rfl, rfl, rfl, rfl, rfl, fun i h => absurd h (by simp)⟩
  | o :: os, e, e', H, H', fs, h => by
    simp only [stepsD, Option.bind_eq_some_iff] at h
    obtain ⟨⟨e1, H1⟩, h1, ⟨fs', e2, H2⟩, h2, h3⟩ := h
    cases h3
    obtain ⟨E, Hh, q1, q2, q3, q4, q5, q6⟩ := stepsD_trace h2
    refine ⟨fun i => match i with | 0 => e | i + 1 => E i, fun i => match i with | 0 => H | i + 1 => Hh i, rfl, rfl, q3, q4, by simp [q5], fun i hi => ?_⟩
    cases i with
    | zero =>
      simp only [List.getElem_cons_zero, List.getElem?_cons_zero, q1, q2]
      exact ⟨h1, trivial⟩
    | succ i =>
      obtain ⟨q7, q8⟩ := q6 i (by simpa using hi)
      simp only [List.getElem_cons_succ, List.getElem?_cons_succ]
      exact ⟨q7, q8⟩

/-- A step on the blocks at the feet. -/
theorem stepD_cases {call : CallT} (hS : SimAll P call) {o : Oper1} {e e' : Env} {H H' : Heap} (h : stepD call o e H = some (e', H')) :
    (want1 e o.guard = some true ∧ ∃ a M, ev1 call e (maskFrom (feet e H o.op).1 (feet e H o.op).2 0 H) o.op = some (a, M) ∧ H.length ≤ M.length ∧ H'.length = M.length ∧
      (∀ b, H'[b]? = if b < H.length then (if has (feet e H o.op).2 b then M[b]? else H[b]?) else M[b]?) ∧ e' = (match o.dst with | some d => e.put d a | none => e)) ∨
    (want1 e o.guard = some false ∧ H' = H ∧ e' = (match o.dst with | some d => e.put d (.tuple []) | none => e)) := by
  unfold stepD at h
  split at h
  · rename_i hw
    simp only [Option.bind_eq_some_iff] at h
    obtain ⟨⟨a, H1⟩, h1, h2⟩ := h
    cases h2
    simp only [evD, Option.bind_eq_some_iff] at h1
    obtain ⟨⟨a', M⟩, h3, h4⟩ := h1
    cases h4
    have hl := ev1_len hS h3
    rw [maskFrom_len] at hl
    refine .inl ⟨hw, a', M, h3, hl, unmaskFrom_len _ _ _ _ hl, fun b => ?_, rfl⟩
    rw [unmaskFrom_get _ _ _ _ _ hl, Nat.zero_add]
  · rename_i hw
    cases h
    exact .inr ⟨hw, rfl, rfl⟩
  · cases h

theorem stepD_len {call : CallT} (hS : SimAll P call) {o : Oper1} {e e' : Env} {H H' : Heap} (h : stepD call o e H = some (e', H')) : H.length ≤ H'.length := by
  rcases stepD_cases hS h with ⟨_, a, M, _, h1, h2, _⟩ | ⟨_, h1, _⟩
  · omega
  · rw [h1]; exact Nat.le_refl _

theorem foot_light {call : CallT} (hS : SimAll P call) {o : Oper1} {e e' : Env} {H H' : Heap} (h : stepD call o e H = some (e', H')) : (heft o.op ≤ 1 → (foot o e H H').2 = []) ∧ (heft o.op = 0 → (foot o e H H').1 = []) := by
  rcases stepD_cases hS h with ⟨hw, a, M, h0, h1, h2, h3, _⟩ | ⟨hw, h1, _⟩
  · simp only [foot, hw]
    refine ⟨fun hl => ?_, fun hl => (feet_light e H).2 hl⟩
    have hM := ev1_light hl h0
    have : H'.length = H.length := by rw [h2, hM, maskFrom_len]
    simp [(feet_light e H).1 hl, this]
  · simp [foot, hw]

/-! ### Where one stands -/
structure Plan where
  os : List Oper1
  bs : List (List Nat)
  E : Nat → Env
  Hh : Nat → Heap
  fs : List (List Nat × List Nat)

namespace Plan
variable (L : Plan)
def n : Nat := L.os.length
def dst (k : Nat) : Option Nat := (L.os[k]?).bind (·.dst)
def R (k : Nat) : List Nat := ((L.fs[k]?).map (·.1)).getD []
def W (k : Nat) : List Nat := ((L.fs[k]?).map (·.2)).getD []
def N : Nat := (L.Hh L.n).length

/-- What a slot holds, when S has been done. -/
def val (S : Nat → Bool) (t : Nat) : Nat → Option AV
  | 0 => (L.E 0).get t
  | k + 1 => if S k = true ∧ L.dst k = some t then (L.E (k + 1)).get t else val S t k

/-- What a block holds. -/
def blk (S : Nat → Bool) (b : Nat) : Nat → Option Blk
  | 0 => (L.Hh 0)[b]?
  | k + 1 => if S k = true ∧ b ∈ L.W k then (L.Hh (k + 1))[b]? else blk S b k

def gone : Blk := ⟨0, true, .gone⟩
def heap (S : Nat → Bool) : Heap := (List.range L.N).map fun b => (L.blk S b L.n).getD gone

theorem heap_len (S : Nat → Bool) : (L.heap S).length = L.N := by simp [heap]
theorem heap_get (S : Nat → Bool) (b : Nat) : (L.heap S)[b]? = if b < L.N then some ((L.blk S b L.n).getD gone) else none := by
  unfold heap
  by_cases h : b < L.N <;> simp [h]

/-- What is known of the plan. -/
structure Ok (P : Program) (call : CallT) : Prop where
  run : ∀ i (h : i < L.os.length), stepD call L.os[i] (L.E i) (L.Hh i) = some (L.E (i + 1), L.Hh (i + 1)) ∧ L.fs[i]? = some (foot L.os[i] (L.E i) (L.Hh i) (L.Hh (i + 1)))
  sim : SimAll P call
  fwd : ∀ i j, j ∈ L.bs.getD i [] → j < i
  opn : ∀ i j, i < j → (hj : j < L.os.length) → i ∉ L.bs.getD j [] → j ∉ L.bs.getD i [] → (∃ (hi : i < L.os.length), free1 L.os[i] L.os[j] = true) ∧
    (0 < heft ((L.os[i]?).map (·.op) |>.getD .stuck) → 0 < heft ((L.os[j]?).map (·.op) |>.getD .stuck) → 2 < heft ((L.os[i]?).map (·.op) |>.getD .stuck) + heft ((L.os[j]?).map (·.op) |>.getD .stuck) → pairOk L.fs (i, j) = true)

variable {L} {call : CallT}

/-- The slots of two operations whose order is open. -/
theorem Ok.slots (h : L.Ok P call) {i j : Nat} (hi : i < L.os.length) (hj : j < L.os.length) (hne : i ≠ j) (h1 : i ∉ L.bs.getD j []) (h2 : j ∉ L.bs.getD i []) {d : Nat} (hd : L.dst i = some d) : d ∉ sees L.os[j] ∧ L.dst j ≠ some d := by
  have key : ∀ a b : Oper1, free1 a b = true → (∀ d, a.dst = some d → d ∉ sees b ∧ b.dst ≠ some d) ∧ (∀ d, b.dst = some d → d ∉ sees a ∧ a.dst ≠ some d) := fun a b hf => by
    simp only [free1, Bool.and_eq_true] at hf
    obtain ⟨hf1, hf2⟩ := hf
    constructor
    · intro d hd
      simp only [hd, Bool.and_eq_true, Bool.not_eq_true', bne_iff_ne] at hf1
      refine ⟨fun hm => ?_, hf1.2⟩
      rw [has_mem.2 hm] at hf1
      exact absurd hf1.1 (by simp)
    · intro d hd
      simp only [hd, Bool.not_eq_true'] at hf2
      refine ⟨fun hm => ?_, fun ha => ?_⟩
      · rw [has_mem.2 hm] at hf2; cases hf2
      · simp only [ha, Bool.and_eq_true, bne_iff_ne] at hf1
        exact hf1.2 hd
  have hdi : L.os[i].dst = some d := by simpa [dst, hi] using hd
  have hdj : L.dst j = L.os[j].dst := by simp [dst, hj]
  rw [hdj]
  rcases Nat.lt_or_ge i j with hlt | hge
  · obtain ⟨⟨_, hf⟩, _⟩ := h.opn i j hlt hj h1 h2
    exact (key _ _ hf).1 d hdi
  · obtain ⟨⟨_, hf⟩, _⟩ := h.opn j i (by omega) hi h2 h1
    exact (key _ _ hf).2 d hdi

theorem apartL_mem {l m : List Nat} (h : apartL l m = true) {b : Nat} (h1 : b ∈ l) : b ∉ m := fun h2 => by
  have h3 := List.all_eq_true.1 h b h1
  simp only [has_mem.2 h2, Bool.not_true] at h3
  cases h3

/-- Their blocks. -/
theorem Ok.blocks (h : L.Ok P call) {i j : Nat} (hi : i < L.os.length) (hj : j < L.os.length) (hne : i ≠ j) (h1 : i ∉ L.bs.getD j []) (h2 : j ∉ L.bs.getD i []) {b : Nat} (hb : b ∈ L.W i) : b ∉ L.R j ∧ b ∉ L.W j := by
  have hWi : L.W i = (foot L.os[i] (L.E i) (L.Hh i) (L.Hh (i + 1))).2 := by simp [W, (h.run i hi).2]
  have hWj : L.W j = (foot L.os[j] (L.E j) (L.Hh j) (L.Hh (j + 1))).2 := by simp [W, (h.run j hj).2]
  have hRi : L.R i = (foot L.os[i] (L.E i) (L.Hh i) (L.Hh (i + 1))).1 := by simp [R, (h.run i hi).2]
  have hRj : L.R j = (foot L.os[j] (L.E j) (L.Hh j) (L.Hh (j + 1))).1 := by simp [R, (h.run j hj).2]
  have li := foot_light h.sim (h.run i hi).1
  have lj := foot_light h.sim (h.run j hj).1
  have hfi : 2 ≤ heft L.os[i].op := by
    rcases Nat.lt_or_ge (heft L.os[i].op) 2 with hl | hl
    · rw [hWi, li.1 (by omega)] at hb; cases hb
    · exact hl
  rcases Nat.eq_zero_or_pos (heft L.os[j].op) with hz | hp
  · rw [hRj, hWj, lj.2 hz, lj.1 (by omega)]
    simp
  · have hpk : ∀ x y, pairOk L.fs (x, y) = true → (∀ b, b ∈ L.W x → b ∉ L.R y ∧ b ∉ L.W y) ∧ (∀ b, b ∈ L.W y → b ∉ L.R x ∧ b ∉ L.W x) := fun x y hp => by
      unfold pairOk at hp
      split at hp
      · rename_i a b ha hb'
        simp only [Bool.and_eq_true] at hp
        have e1 : L.W x = a.2 := by simp [W, ha]
        have e2 : L.R x = a.1 := by simp [R, ha]
        have e3 : L.W y = b.2 := by simp [W, hb']
        have e4 : L.R y = b.1 := by simp [R, hb']
        rw [e1, e2, e3, e4]
        exact ⟨fun q hq => ⟨apartL_mem hp.1.1 hq, apartL_mem hp.1.2 hq⟩, fun q hq => ⟨apartL_mem hp.2 hq, fun hq2 => apartL_mem hp.1.2 hq2 hq⟩⟩
      · cases hp
    have gi : ((L.os[i]?).map (·.op) |>.getD .stuck) = L.os[i].op := by simp [hi]
    have gj : ((L.os[j]?).map (·.op) |>.getD .stuck) = L.os[j].op := by simp [hj]
    rcases Nat.lt_or_ge i j with hlt | hge
    · obtain ⟨_, hpo⟩ := h.opn i j hlt hj h1 h2
      rw [gi, gj] at hpo
      exact (hpk i j (hpo (by omega) hp (by omega))).1 b hb
    · obtain ⟨_, hpo⟩ := h.opn j i (by omega) hi h2 h1
      rw [gi, gj] at hpo
      exact (hpk j i (hpo hp (by omega) (by omega))).2 b hb

/-- What has been done has been done with all before it. -/
def Closed (L : Plan) (S : Nat → Bool) : Prop := ∀ k, S k = true → k < L.os.length ∧ ∀ j, j ∈ L.bs.getD k [] → S j = true

structure Ready (L : Plan) (S : Nat → Bool) (i : Nat) : Prop where
  lt : i < L.os.length
  no : S i = false
  pre : ∀ j, j ∈ L.bs.getD i [] → S j = true

section
variable {S : Nat → Bool} {i : Nat}

theorem Ready.after (hc : Closed L S) (hr : Ready L S i) {k : Nat} (hk : S k = true) : i ∉ L.bs.getD k [] := fun h => by
  have := (hc k hk).2 i h
  rw [hr.no] at this; cases this

theorem Ready.notpre (hr : Ready L S i) {k : Nat} (hk : S k = false) : k ∉ L.bs.getD i [] := fun h => by
  have := hr.pre k h
  rw [hk] at this; cases this

theorem notfwd (h : L.Ok P call) {i k : Nat} (hk : i ≤ k) : k ∉ L.bs.getD i [] := fun hm => by
  have := h.fwd i k hm; omega

/-- Who is done and stands open to i; who is not done, before i. -/
theorem done_open (h : L.Ok P call) (hc : Closed L S) (hr : Ready L S i) {k : Nat} (hk : S k = true) (hik : i < k) : k < L.os.length ∧ i ∉ L.bs.getD k [] ∧ k ∉ L.bs.getD i [] :=
  ⟨(hc k hk).1, hr.after hc hk, notfwd h (Nat.le_of_lt hik)⟩
theorem undone_open (h : L.Ok P call) (hr : Ready L S i) {k : Nat} (hk : S k = false) (hik : k < i) : i ∉ L.bs.getD k [] ∧ k ∉ L.bs.getD i [] :=
  ⟨notfwd h (Nat.le_of_lt hik), hr.notpre hk⟩

theorem get_step (h : L.Ok P call) {k : Nat} (hk : k < L.os.length) {t : Nat} (hd : L.dst k ≠ some t) : (L.E (k + 1)).get t = (L.E k).get t := by
  have hdk : L.dst k = L.os[k].dst := by simp [dst, hk]
  rw [hdk] at hd
  rcases stepD_cases h.sim (h.run k hk).1 with ⟨_, a, M, _, _, _, _, he⟩ | ⟨_, _, he⟩
  · rw [he]
    cases ho : L.os[k].dst with
    | none => rfl
    | some d => simp only; rw [get_put, if_neg (fun e => hd (by rw [ho, e]))]
  · rw [he]
    cases ho : L.os[k].dst with
    | none => rfl
    | some d => simp only; rw [get_put, if_neg (fun e => hd (by rw [ho, e]))]

/-- What an operation sees is what it saw in the text's order. -/
theorem val_seen (h : L.Ok P call) (hc : Closed L S) (hr : Ready L S i) {t : Nat} (ht : t ∈ sees (L.os[i]'hr.lt)) : L.val S t L.n = (L.E i).get t := by
  have low : ∀ k, k ≤ i → L.val S t k = (L.E k).get t := by
    intro k
    induction k with
    | zero => intro _; rfl
    | succ k ih =>
      intro hk
      have hklt : k < L.os.length := by have := hr.lt; omega
      simp only [val]
      cases hs : S k with
      | true =>
        by_cases hd : L.dst k = some t
        · simp [hd]
        · simp only [hd, and_false, if_false]
          rw [ih (by omega), get_step h hklt hd]
      | false =>
        obtain ⟨h1, h2⟩ := undone_open h hr hs (by omega)
        have hd : L.dst k ≠ some t := fun hd => (h.slots hklt hr.lt (by omega) h2 h1 hd).1 ht
        simp only [Bool.false_eq_true, false_and, if_false]
        rw [ih (by omega), get_step h hklt hd]
  have high : ∀ m, L.val S t (i + m) = L.val S t i := by
    intro m
    induction m with
    | zero => rfl
    | succ m ih =>
      rw [← Nat.add_assoc]
      simp only [val]
      rw [if_neg, ih]
      rintro ⟨hs, hd⟩
      rcases Nat.eq_zero_or_pos m with rfl | hm
      · rw [Nat.add_zero, hr.no] at hs; cases hs
      · obtain ⟨h0, h1, h2⟩ := done_open h hc hr hs (by omega)
        exact (h.slots h0 hr.lt (by omega) h2 h1 hd).1 ht
  have e : L.n = i + (L.n - i) := by have := hr.lt; unfold n; omega
  rw [e, high, low i (Nat.le_refl _)]

theorem blk_step (h : L.Ok P call) {k : Nat} (hk : k < L.os.length) {b : Nat} (hb : b ∉ L.W k) : (L.Hh (k + 1))[b]? = (L.Hh k)[b]? := by
  have hW : L.W k = (foot L.os[k] (L.E k) (L.Hh k) (L.Hh (k + 1))).2 := by simp [W, (h.run k hk).2]
  rw [hW] at hb
  rcases stepD_cases h.sim (h.run k hk).1 with ⟨hw, a, M, _, hl, hl2, hg, _⟩ | ⟨_, he, _⟩
  · simp only [foot, hw, List.mem_append, not_or] at hb
    rw [hg b]
    rcases Nat.lt_or_ge b (L.Hh k).length with hlt | hge
    · rw [if_pos hlt]
      have : has (feet (L.E k) (L.Hh k) L.os[k].op).2 b = false := by
        cases hh : has (feet (L.E k) (L.Hh k) L.os[k].op).2 b with
        | false => rfl
        | true => exact absurd (has_mem.1 hh) hb.1
      rw [this]; rfl
    · rw [if_neg (by omega), List.getElem?_eq_none hge, List.getElem?_eq_none]
      have := hb.2
      simp only [List.mem_range'_1, not_and, Nat.not_lt] at this
      have := this hge
      omega
  · rw [he]

/-- What stands at an operation's feet is what stood there in the text's order. -/
theorem blk_seen (h : L.Ok P call) (hc : Closed L S) (hr : Ready L S i) {b : Nat} (hb : b ∈ L.R i ∨ b ∈ L.W i) : L.blk S b L.n = (L.Hh i)[b]? := by
  have apart : ∀ {k : Nat}, k < L.os.length → k ≠ i → k ∉ L.bs.getD i [] → i ∉ L.bs.getD k [] → b ∉ L.W k := fun {k} hk hne h1 h2 hbk => by
    obtain ⟨q1, q2⟩ := h.blocks hk hr.lt hne h1 h2 hbk
    rcases hb with hb | hb
    · exact q1 hb
    · exact q2 hb
  have low : ∀ k, k ≤ i → L.blk S b k = (L.Hh k)[b]? := by
    intro k
    induction k with
    | zero => intro _; rfl
    | succ k ih =>
      intro hk
      have hklt : k < L.os.length := by have := hr.lt; omega
      simp only [blk]
      by_cases hbk : b ∈ L.W k
      · cases hs : S k with
        | true => simp [hbk]
        | false =>
          obtain ⟨h1, h2⟩ := undone_open h hr hs (by omega)
          exact absurd hbk (apart hklt (by omega) h2 h1)
      · simp only [hbk, and_false, if_false]
        rw [ih (by omega), blk_step h hklt hbk]
  have high : ∀ m, L.blk S b (i + m) = L.blk S b i := by
    intro m
    induction m with
    | zero => rfl
    | succ m ih =>
      rw [← Nat.add_assoc]
      simp only [blk]
      rw [if_neg, ih]
      rintro ⟨hs, hd⟩
      rcases Nat.eq_zero_or_pos m with rfl | hm
      · rw [Nat.add_zero, hr.no] at hs; cases hs
      · obtain ⟨h0, h1, h2⟩ := done_open h hc hr hs (by omega)
        exact apart h0 (by omega) h2 h1 hd
  have e : L.n = i + (L.n - i) := by have := hr.lt; unfold n; omega
  rw [e, high, low i (Nat.le_refl _)]

/-! ### When one more is done -/
def add (S : Nat → Bool) (i : Nat) (k : Nat) : Bool := k == i || S k

theorem val_add (h : L.Ok P call) (hc : Closed L S) (hr : Ready L S i) (t : Nat) : L.val (add S i) t L.n = if L.dst i = some t then (L.E (i + 1)).get t else L.val S t L.n := by
  have low : ∀ k, k ≤ i → L.val (add S i) t k = L.val S t k := by
    intro k
    induction k with
    | zero => intro _; rfl
    | succ k ih =>
      intro hk
      have : add S i k = S k := by simp [add]; omega
      simp only [val, this, ih (by omega)]
  have high : ∀ m, L.val (add S i) t (i + 1 + m) = if L.dst i = some t then (L.E (i + 1)).get t else L.val S t (i + 1 + m) := by
    intro m
    induction m with
    | zero =>
      have : add S i i = true := by simp [add]
      simp only [Nat.add_zero, val, this, hr.no, true_and, Bool.false_eq_true, false_and, if_false, low i (Nat.le_refl _)]
    | succ m ih =>
      have e1 : add S i (i + 1 + m) = S (i + 1 + m) := by simp [add]; omega
      rw [← Nat.add_assoc]
      simp only [val, e1, ih]
      by_cases hd : S (i + 1 + m) = true ∧ L.dst (i + 1 + m) = some t
      · obtain ⟨h0, h1, h2⟩ := done_open h hc hr hd.1 (by omega)
        have hne : L.dst i ≠ some t := fun hdi => (h.slots hr.lt h0 (by omega) h1 h2 hdi).2 hd.2
        simp [hd, hne]
      · simp [hd]
  have e : L.n = i + 1 + (L.n - (i + 1)) := by have := hr.lt; unfold n; omega
  rw [e]; exact high _

theorem blk_add (h : L.Ok P call) (hc : Closed L S) (hr : Ready L S i) (b : Nat) : L.blk (add S i) b L.n = if b ∈ L.W i then (L.Hh (i + 1))[b]? else L.blk S b L.n := by
  have low : ∀ k, k ≤ i → L.blk (add S i) b k = L.blk S b k := by
    intro k
    induction k with
    | zero => intro _; rfl
    | succ k ih =>
      intro hk
      have : add S i k = S k := by simp [add]; omega
      simp only [blk, this, ih (by omega)]
  have high : ∀ m, L.blk (add S i) b (i + 1 + m) = if b ∈ L.W i then (L.Hh (i + 1))[b]? else L.blk S b (i + 1 + m) := by
    intro m
    induction m with
    | zero =>
      have : add S i i = true := by simp [add]
      simp only [Nat.add_zero, blk, this, hr.no, true_and, Bool.false_eq_true, false_and, if_false, low i (Nat.le_refl _)]
    | succ m ih =>
      have e1 : add S i (i + 1 + m) = S (i + 1 + m) := by simp [add]; omega
      rw [← Nat.add_assoc]
      simp only [blk, e1, ih]
      by_cases hd : S (i + 1 + m) = true ∧ b ∈ L.W (i + 1 + m)
      · obtain ⟨h0, h1, h2⟩ := done_open h hc hr hd.1 (by omega)
        have hne : b ∉ L.W i := fun hdi => (h.blocks hr.lt h0 (by omega) h1 h2 hdi).2 hd.2
        simp [hd, hne]
      · simp [hd]
  have e : L.n = i + 1 + (L.n - (i + 1)) := by have := hr.lt; unfold n; omega
  rw [e]; exact high _

theorem closed_add (hc : Closed L S) (hr : Ready L S i) : Closed L (add S i) := fun k hk => by
  simp only [add, Bool.or_eq_true, beq_iff_eq] at hk
  rcases hk with rfl | hk
  · exact ⟨hr.lt, fun j hj => by simp [add, hr.pre j hj]⟩
  · exact ⟨(hc k hk).1, fun j hj => by simp [add, (hc k hk).2 j hj]⟩

theorem Hh_mono (h : L.Ok P call) : ∀ {i j : Nat}, i ≤ j → j ≤ L.os.length → (L.Hh i).length ≤ (L.Hh j).length := by
  intro i j
  induction j with
  | zero => intro h1 _; have : i = 0 := by omega
            subst this; exact Nat.le_refl _
  | succ j ih =>
    intro h1 h2
    rcases Nat.eq_or_lt_of_le h1 with rfl | h1
    · exact Nat.le_refl _
    · exact Nat.le_trans (ih (by omega) (by omega)) (stepD_len h.sim (h.run j (by omega)).1)

theorem all_done (h : L.Ok P call) (hS : ∀ k, k < L.os.length → S k = true) : (∀ t, L.val S t L.n = (L.E L.n).get t) ∧ (∀ b, L.blk S b L.n = (L.Hh L.n)[b]?) := by
  have h1 : ∀ t k, k ≤ L.os.length → L.val S t k = (L.E k).get t := by
    intro t k
    induction k with
    | zero => intro _; rfl
    | succ k ih =>
      intro hk
      simp only [val, hS k (by omega), true_and]
      by_cases hd : L.dst k = some t
      · simp [hd]
      · simp only [hd, if_false]; rw [ih (by omega), get_step h (by omega) hd]
  have h2 : ∀ b k, k ≤ L.os.length → L.blk S b k = (L.Hh k)[b]? := by
    intro b k
    induction k with
    | zero => intro _; rfl
    | succ k ih =>
      intro hk
      simp only [blk, hS k (by omega), true_and]
      by_cases hd : b ∈ L.W k
      · simp [hd]
      · simp only [hd, if_false]; rw [ih (by omega), blk_step h (by omega) hd]
  exact ⟨fun t => h1 t _ (Nat.le_refl _), fun b => h2 b _ (Nat.le_refl _)⟩

end
end Plan
end Go.Abs
