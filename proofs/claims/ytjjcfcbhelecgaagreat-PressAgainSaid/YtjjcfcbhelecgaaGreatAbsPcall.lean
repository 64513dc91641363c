/- THE SOUNDNESS OF THE INTERPRETER. Conditions: the code is what 'compFunc' answers, the special functions keep their contracts. -/
import Derived.Test.YtjjcfcbhelecgaaGreatAbsSound
set_option linter.unusedVariables false
set_option linter.unusedSimpArgs false
namespace Go.Abs
variable {P : Program} {c c' : Cx} {B : Nat} {H : Heap} {e : Env} {act : Act}

/-! ### Results -/
def resOne (tmps : Array Value) : ResultVar → Sem Value
  | .tmp t => pure (tmps.getD t undef)
  | .cell a t => do loadVar t (← asAddr (tmps.getD a undef))

theorem res_rep (g : Good c B H) {tmps : Array Value} (he : RepE c e tmps) : ∀ {rs : List ResultVar} {rs1 : List Res1} {vs : List AV}, compRes P rs = some rs1 → res1 e H rs1 = some vs →
    ∃ us : List Value, (rs.mapM (resOne tmps)).run P c.w = .ok us c.w ∧ RepL c vs us
  | [], rs1, vs, hc, hv => by
    cases hc; cases hv
    exact ⟨[], by simp, .nil _⟩
  | .tmp t :: rs, rs1, vs, hc, hv => by
    simp only [compRes, Option.bind_eq_some_iff, Option.some.injEq] at hc
    obtain ⟨r, hr, rfl⟩ := hc
    simp only [res1, Option.bind_eq_some_iff, Option.some.injEq] at hv
    obtain ⟨a, ha, as, has, rfl⟩ := hv
    obtain ⟨us, h1, h2⟩ := res_rep g he hr has
    obtain ⟨v, hv1, hv2⟩ := he t a ha
    refine ⟨v :: us, ?_, .cons hv2 h2⟩
    have : tmps.getD t undef = v := by simp [Array.getD_eq_getD_getElem?, hv1]
    simp [List.mapM_cons, resOne, this, h1]
  | .cell t ty :: rs, rs1, vs, hc, hv => by
    simp only [compRes, Option.bind_eq_some_iff] at hc
    obtain ⟨ag, hag, s, hs, r, hr, hc⟩ := hc
    obtain ⟨hb, rfl⟩ := bif_some hc
    simp only [Bool.and_eq_true, Bool.or_eq_true] at hb
    simp only [res1, Option.bind_eq_some_iff, Option.some.injEq] at hv
    obtain ⟨p, hp, row, hrow, a, ha, as, has, rfl⟩ := hv
    obtain ⟨us, h1, h2⟩ := res_rep g he hr has
    obtain ⟨v, hv1, hv2⟩ := he t p hp
    obtain ⟨ad, vs', rfl, hl, hat⟩ := loadRow_at g hv2 hrow
    obtain ⟨u, h3, h4⟩ := loadVar_run hag hs (hb.2.imp id (fun h => Nat.eq_of_beq_eq_true h)) hl hat ha
    refine ⟨u :: us, ?_, .cons h4 h2⟩
    have : tmps.getD t undef = .pointer (some ad) := by simp [Array.getD_eq_getD_getElem?, hv1]
    simp [List.mapM_cons, resOne, this, asAddr, h3, h1]

theorem results_run (g : Good c B H) {fn : Func} {tmps : Array Value} (he : RepE c e tmps) {rs1 : List Res1} {a : AV} {k : Ctl} {H' : Heap} (hc : compRes P fn.results.toList = some rs1) (hb : back1 rs1 (k, e, H) = some (a, H')) :
    ∃ v, (results fn tmps).run P c.w = .ok v c.w ∧ Rep c a v ∧ H' = H ∧ ∀ id, k ≠ .exit id := by
  unfold back1 at hb
  split at hb
  · cases hb
  · rename_i hk
    simp only [Option.bind_eq_some_iff, Option.some.injEq] at hb
    obtain ⟨vs, hvs, hb⟩ := hb
    obtain ⟨us, h1, h2⟩ := res_rep g he hc hvs
    have hlen := h2.1
    have hfm : (fn.results.mapM (resOne tmps)).run P c.w = .ok us.toArray c.w := by
      rw [Array.mapM_eq_mapM_toList]
      simp [h1]
    have hres : (results fn tmps).run P c.w = .ok (if h : us.toArray.size = 1 then us.toArray[0] else .tuple us.toArray) c.w := by
      have e0 : results fn tmps = (do let vs ← fn.results.mapM (resOne tmps); pure (if h : vs.size = 1 then vs[0] else .tuple vs)) := by
        unfold results
        congr 1
      rw [e0, Sem.run_bind, hfm]
      rfl
    refine ⟨_, hres, ?_, ?_, fun id h => hk id h⟩
    · have ha := congrArg Prod.fst hb
      simp only at ha
      rw [← ha]
      match vs, us, hlen, h2 with
      | [a0], [u0], _, h2 => simpa using h2.head
      | [], [], _, _ => exact .imm (.tuple [] #[] rfl (fun i h => absurd h (by simp)))
      | a0 :: a1 :: as, u0 :: u1 :: us, hl, h2 =>
        have hn : ¬ ((u0 :: u1 :: us).toArray.size = 1) := by simp
        rw [dif_neg hn]
        obtain ⟨q1, q2⟩ := repL_array h2
        exact .tuple _ _ q1 q2
    · exact (congrArg Prod.snd hb).symm

/-! ### Arguments -/
theorem args1_get : ∀ (as : List AV) (i t : Nat) (a : AV), (args1 i as).get t = some a → i ≤ t ∧ as[t - i]? = some a
  | [], i, t, a, h => by simp [args1, Env.get] at h
  | x :: as, i, t, a, h => by
    simp only [args1, Env.get] at h
    by_cases hit : i = t
    · subst hit
      simp only [Nat.beq_refl, cond_true, Option.some.injEq] at h
      exact ⟨Nat.le_refl _, by simp [h]⟩
    · simp only [nbeq_ne hit, cond_false] at h
      obtain ⟨h1, h2⟩ := args1_get as (i + 1) t a h
      refine ⟨by omega, ?_⟩
      have : t - i = (t - (i + 1)) + 1 := by omega
      rw [this]
      simpa using h2

theorem canCall_enters {f : FuncId} (h : canCall P f = true) : Enters P f := fun args w => by
  unfold canCall at h
  split at h
  · rename_i fn hf
    simp only [Bool.and_eq_true, bne_iff_ne] at h
    have h2 : (fn.name == "runtime.NumGoroutine") = false := by simpa using h.2
    have h1 : fn.body.isNone = false := by cases hb : fn.body <;> simp [hb] at h ⊢
    have h1' : fn.body ≠ none := fun e0 => by rw [e0] at h; simp at h
    simp [callFunc, hf, h.2, h1']
  · cases h

/-- What a special function's contract says. -/
def PrimOk (P : Program) (f : FuncId) (p : List AV → Heap → Option (AV × Heap)) : Prop :=
  ∀ as H a H', p as H = some (a, H') → H.length ≤ H'.length ∧ Enters P f ∧ ∀ (c : Cx) (B : Nat) (vs : List Value), H'.length ≤ B → Good c B H → RepL c as vs → Calls P f vs.toArray c.w (Behind c B H a H')

structure Prog1.Ok (P : Program) (Q : Prog1) : Prop where
  orders : P.follows .mixedOrders = true
  prim : ∀ f p, Q.prim f = some p → PrimOk P f p
  code : ∀ f F, Q.code f = some F → ∃ md lv, compFunc P md lv f = some F

theorem sim_func {call : CallT} (hS : SimAll P call) (hm : P.follows .mixedOrders = true) {md : Modes} {lv : Lives} {f : FuncId} {F : Func1} (hF : compFunc P md lv f = some F) {n : Nat} {as : List AV} {a : AV} {H' : Heap} (hl : as.length = F.nparams)
    {s : St} (hr : run1 n call F.body (args1 0 as) H = some s) (hb : back1 F.results s = some (a, H')) : H.length ≤ H'.length ∧ Enters P f ∧ ∀ (c : Cx) (B : Nat) (vs : List Value), H'.length ≤ B → Good c B H → RepL c as vs → Calls P f vs.toArray c.w (Behind c B H a H') := by
  simp only [compFunc, Option.bind_eq_some_iff] at hF
  obtain ⟨fn, hfn, code, hcode, ⟨code1, ls⟩, hx, rs, hrs, hF⟩ := hF
  obtain ⟨hcc, rfl⟩ := bif_some hF
  simp only [Bool.and_eq_true] at hcc
  have hH : H' = s.2.2 := by
    unfold back1 at hb
    split at hb
    · cases hb
    · simp only [Option.bind_eq_some_iff, Option.some.injEq] at hb
      obtain ⟨_, _, hb⟩ := hb
      exact (congrArg Prod.snd hb).symm
  refine ⟨by rw [hH]; exact run1_len hS n _ _ _ _ hr, canCall_enters hcc.1.1, fun c B vs hB g hvs => ?_⟩
  have hvl : vs.length = as.length := hvs.1.symm
  have hnt : as.length ≤ fn.ntmps := by rw [hl]; exact Nat.le_of_ble_eq_true hcc.1.2
  have hsize : (vs.toArray ++ Array.replicate (fn.ntmps - vs.toArray.size) undef).size = fn.ntmps := by simp; omega
  refine calls_of_wp hfn hcode ?_
  refine sim_code hS hm code (lv f) ls code1 hx c (args1 0 as) H { tmps := vs.toArray ++ Array.replicate (fn.ntmps - vs.toArray.size) undef, defers := [] } s _ hr g (by rw [← hH]; exact hB) ?_ (by simp only [hsize]; exact hcc.2) ?_
  · intro t x hx
    obtain ⟨_, h2⟩ := args1_get as 0 t x hx
    rw [Nat.sub_zero] at h2
    obtain ⟨hlt, he⟩ := List.getElem?_eq_some_iff.1 h2
    refine ⟨vs[t]'(by omega), ?_, he ▸ hvs.2 t hlt⟩
    rw [Array.getElem?_append_left (by simp; omega)]
    simp [show t < vs.length by omega]
  · intro c1 act1 g1 he1 n1 hs1 hd1
    obtain ⟨k, e1, H1⟩ := s
    obtain ⟨v, hrv, hrep, hHH, hne⟩ := results_run (fn := fn) g1 he1 hrs hb
    have hfin : act1.defers = [] ∧ ∃ v, (results fn act1.tmps).run P c1.w = .ok v c1.w ∧ Behind c B H a H' (.returned v) c1.w := by
      refine ⟨hd1, v, hrv, c1, rfl, ?_, hrep, ?_⟩
      · rw [hHH]; exact g1
      · rw [hHH]; exact n1
    cases k with
    | norm => exact hfin
    | ret => exact hfin
    | exit id => exact absurd rfl (hne id)

/-- WHERE THE INTERPRETER ANSWERS, THE MACHINE'S CALL ANSWERS THE SAME. -/
theorem pcall_sound {Q : Prog1} (hQ : Q.Ok P) : ∀ n, SimAll P (pcall Q n)
  | 0 => fun f as H a H' h => by cases h
  | n + 1 => fun f as H a H' h => by
    have ih := pcall_sound hQ n
    simp only [pcall] at h
    split at h
    · rename_i p hp
      exact hQ.prim f p hp as H a H' h
    · split at h
      · rename_i F hF
        cases hl : Nat.beq as.length F.nparams with
        | false => simp [hl] at h
        | true =>
          simp only [hl, cond_true, Option.bind_eq_some_iff] at h
          obtain ⟨s, hr, hb⟩ := h
          obtain ⟨md, lv, hc⟩ := hQ.code f F hF
          exact sim_func ih hQ.orders hc (Nat.eq_of_beq_eq_true hl) hr hb
      · cases h

end Go.Abs
