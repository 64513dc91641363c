/- The code of a function, and the interpreter's soundness. Conditions: those of each lemma. -/
import Derived.Test.YtjjcfcbhelecgaaGreatAbsCode
set_option linter.unusedVariables false
set_option linter.unusedSimpArgs false
namespace Go.Abs
variable {P : Program} {c c' : Cx} {B : Nat} {H : Heap} {e : Env} {act : Act}

theorem loop1_len {body : Env → Heap → Option St} (hb : ∀ e H s, body e H = some s → H.length ≤ s.2.2.length) (live : List Nat) : ∀ (n : Nat) (e : Env) (H : Heap) (s : St), loop1 body live n e H = some s → H.length ≤ s.2.2.length
  | 0, e, H, s, h => by cases h
  | n + 1, e, H, s, h => by
    simp only [loop1, Option.bind_eq_some_iff] at h
    obtain ⟨s1, h1, h2⟩ := h
    have := hb _ _ _ h1
    split at h2
    · exact Nat.le_trans this (loop1_len hb live n _ _ _ h2)
    · cases h2; exact this

theorem run1_len {call : CallT} (hS : SimAll P call) (n : Nat) : ∀ (code : Code1) (e : Env) (H : Heap) (s : St), run1 n call code e H = some s → H.length ≤ s.2.2.length
  | .skip, e, H, s, h => by cases h; exact Nat.le_refl _
  | .reg ops, e, H, s, h => by
    simp only [run1, Option.bind_eq_some_iff] at h
    obtain ⟨⟨e1, H1⟩, h1, h2⟩ := h
    cases h2
    exact steps_len hS h1
  | .regd ops ps, e, H, s, h => by
    simp only [run1, Option.bind_eq_some_iff] at h
    obtain ⟨⟨fs, e1, H1⟩, h1, h2⟩ := h
    obtain ⟨_, rfl⟩ := bif_some h2
    exact stepsD_len hS h1
  | .seq a b, e, H, s, h => by
    simp only [run1, Option.bind_eq_some_iff] at h
    obtain ⟨s1, h1, h2⟩ := h
    have := run1_len hS n a _ _ _ h1
    split at h2
    · exact Nat.le_trans this (run1_len hS n b _ _ _ h2)
    · cases h2; exact this
  | .cond k a b, e, H, s, h => by
    simp only [run1, Option.bind_eq_some_iff] at h
    obtain ⟨k1, h1, h2⟩ := h
    split at h2
    · exact run1_len hS n a _ _ _ h2
    · exact run1_len hS n b _ _ _ h2
    · cases h2
  | .block id a, e, H, s, h => by
    simp only [run1, Option.bind_eq_some_iff] at h
    obtain ⟨s1, h1, h2⟩ := h
    have := run1_len hS n a _ _ _ h1
    split at h2 <;> cases h2 <;> exact this
  | .loop live a, e, H, s, h => by
    simp only [run1] at h
    exact loop1_len (fun e H s h => run1_len hS n a e H s h) live n e H s h
  | .exit id, e, H, s, h => by cases h; exact Nat.le_refl _
  | .ret, e, H, s, h => by cases h; exact Nat.le_refl _
  | .stuck, e, H, s, h => by cases h

def Ctl.out : Ctl → Exit
  | .norm => .normal
  | .exit id => .exit id
  | .ret => .ret

theorem lets_then {next : Act → World → Prop} {Q : Exit → Act → World → Prop} (h : LetsOut Q) : LetsOut (Exit.then next Q) := by
  obtain ⟨a, w, h⟩ := h
  exact ⟨a, w, h⟩
theorem lets_block {id : Nat} {Q : Exit → Act → World → Prop} (h : LetsOut Q) : LetsOut (Exit.inBlock id Q) := by
  obtain ⟨a, w, h⟩ := h
  exact ⟨a, w, h⟩

theorem all_dst {n : Nat} {os : List Oper1} (h : (os.all fun o => match o.dst with | some d => Nat.blt d n | none => true) = true) : os.all (dstLt n) = true := h

theorem sim_code {call : CallT} (hS : SimAll P call) (hm : P.follows .mixedOrders = true) {md : Modes} {fn n : Nat} : ∀ (code : Code) (ls ls' : List (List Nat)) (code1 : Code1), compCode P md fn code ls = some (code1, ls') →
    ∀ (c : Cx) (e : Env) (H : Heap) (act : Act) (s : St) (Q : Exit → Act → World → Prop), run1 n call code1 e H = some s → Good c B H → s.2.2.length ≤ B → RepE c e act.tmps → slotsOk act.tmps.size code1 = true →
      (∀ (c' : Cx) (act' : Act), Good c' B s.2.2 → RepE c' s.2.1 act'.tmps → Nxt c c' H s.2.2 → act'.tmps.size = act.tmps.size → act'.defers = act.defers → Q s.1.out act' c'.w) → code.wp P Q act c.w := by
  intro code
  induction code with
  | skip =>
    intro ls ls' code1 hc c e H act s Q hr g hB he hsl hK
    cases hc; cases hr
    exact wp_skip (hK c act g he (.refl c H) rfl rfl)
  | region id ops d =>
    intro ls ls' code1 hc c e H act s Q hr g hB he hsl hK
    simp only [compCode, Option.bind_eq_some_iff] at hc
    obtain ⟨os, hos, hc⟩ := hc
    cases d with
    | false =>
      simp only [cond_false, Option.some.injEq, Prod.mk.injEq] at hc
      obtain ⟨rfl, rfl⟩ := hc
      simp only [run1, Option.bind_eq_some_iff] at hr
      obtain ⟨⟨e1, H1⟩, h1, h2⟩ := hr
      cases h2
      refine wp_region ?_
      rw [List.range_eq_range']
      have := sim_steps hS (md := md) (fn := fn) (id := id) (ops := ops) ops.toList 0 os c e e1 H H1 act (by simp) (by simp) hos h1 g hB he (all_dst hsl) hK
      simpa using this
    | true =>
      simp only [cond_true] at hc
      obtain ⟨hf, hc⟩ : forward ops = true ∧ ((openPairs (befores ops ops.toList []) os).bind fun ps => some (Code1.regd os ps, ls)) = some (code1, ls') := by
        cases hf : forward ops with
        | false => simp [hf] at hc
        | true => rw [hf] at hc; exact ⟨rfl, hc⟩
      simp only [Option.bind_eq_some_iff, Option.some.injEq, Prod.mk.injEq] at hc
      obtain ⟨ps, hps, rfl, rfl⟩ := hc
      simp only [run1, Option.bind_eq_some_iff] at hr
      obtain ⟨⟨fs, e1, H1⟩, h1, h2⟩ := hr
      obtain ⟨hok, rfl⟩ := bif_some h2
      exact sim_regd hS hm hos hf hps h1 hok g hB he (all_dst hsl) hK
  | seq a b iha ihb =>
    intro ls ls' code1 hc c e H act s Q hr g hB he hsl hK
    simp only [compCode, Option.bind_eq_some_iff] at hc
    obtain ⟨⟨x, l1⟩, hx, ⟨y, l2⟩, hy, hc⟩ := hc
    simp only [Option.some.injEq, Prod.mk.injEq] at hc
    obtain ⟨rfl, rfl⟩ := hc
    simp only [slotsOk, Bool.and_eq_true] at hsl
    simp only [run1, Option.bind_eq_some_iff] at hr
    obtain ⟨s1, h1, h2⟩ := hr
    have hB1 : s1.2.2.length ≤ B := by
      split at h2
      · exact Nat.le_trans (run1_len hS n _ _ _ _ h2) hB
      · cases h2; exact hB
    refine wp_seq (iha _ _ _ hx c e H act s1 _ h1 g hB1 he hsl.1 fun c1 act1 g1 he1 n1 hs1 hd1 => ?_)
    obtain ⟨k, e1, H1⟩ := s1
    cases k with
    | norm =>
      simp only at h2 he1 g1 n1
      exact ihb _ _ _ hy c1 e1 H1 act1 s Q h2 g1 hB he1 (by rw [hs1]; exact hsl.2) fun c2 act2 g2 he2 n2 hs2 hd2 => hK c2 act2 g2 he2 (n1.trans g hB1 n2) (hs2.trans hs1) (hd2.trans hd1)
    | exit id =>
      cases h2
      exact hK c1 act1 g1 he1 n1 hs1 hd1
    | ret =>
      cases h2
      exact hK c1 act1 g1 he1 n1 hs1 hd1
  | cond k a b iha ihb =>
    intro ls ls' code1 hc c e H act s Q hr g hB he hsl hK
    simp only [compCode, Option.bind_eq_some_iff] at hc
    obtain ⟨k1, hk1, ⟨x, l1⟩, hx, ⟨y, l2⟩, hy, hc⟩ := hc
    simp only [Option.some.injEq, Prod.mk.injEq] at hc
    obtain ⟨rfl, rfl⟩ := hc
    simp only [slotsOk, Bool.and_eq_true] at hsl
    simp only [run1, Option.bind_eq_some_iff] at hr
    obtain ⟨v, hv, h2⟩ := hr
    have hrep := opd_rep (act := act) hk1 hv he
    split at h2
    · exact wp_cond_true hrep.bool_eq (iha _ _ _ hx c e H act s Q h2 g hB he hsl.1 hK)
    · exact wp_cond_false hrep.bool_eq (ihb _ _ _ hy c e H act s Q h2 g hB he hsl.2 hK)
    · cases h2
  | block id a ih =>
    intro ls ls' code1 hc c e H act s Q hr g hB he hsl hK
    simp only [compCode, Option.bind_eq_some_iff, Option.some.injEq, Prod.mk.injEq] at hc
    obtain ⟨⟨x, l1⟩, hx, rfl, rfl⟩ := hc
    simp only [run1, Option.bind_eq_some_iff] at hr
    obtain ⟨⟨k, e1, H1⟩, h1, h2⟩ := hr
    have hB1 : H1.length ≤ B := by
      split at h2 <;> cases h2 <;> exact hB
    refine wp_block (ih _ _ _ hx c e H act _ _ h1 g hB1 he hsl fun c1 act1 g1 he1 n1 hs1 hd1 => ?_)
    cases k with
    | norm =>
      cases h2
      exact hK c1 act1 g1 he1 n1 hs1 hd1
    | exit i =>
      simp only [Option.some.injEq] at h2
      subst h2
      cases hi : Nat.beq i id with
      | true =>
        have := Nat.eq_of_beq_eq_true hi
        subst this
        simp only [hi, cond_true] at hK
        simpa [Exit.inBlock, Ctl.out] using hK c1 act1 g1 he1 n1 hs1 hd1
      | false =>
        have hne : i ≠ id := fun e0 => by subst e0; rw [Nat.beq_refl] at hi; cases hi
        simp only [hi, cond_false] at hK
        simpa [Exit.inBlock, Ctl.out, hne] using hK c1 act1 g1 he1 n1 hs1 hd1
    | ret =>
      cases h2
      exact hK c1 act1 g1 he1 n1 hs1 hd1
  | loop a ih =>
    intro ls ls' code1 hc c e H act s Q hr g hB he hsl hK
    cases ls with
    | nil => simp [compCode] at hc
    | cons live ls =>
      simp only [compCode, Option.bind_eq_some_iff, Option.some.injEq, Prod.mk.injEq] at hc
      obtain ⟨⟨x, l1⟩, hx, rfl, rfl⟩ := hc
      simp only [run1] at hr
      have key : ∀ (m : Nat) (c : Cx) (e : Env) (H : Heap) (act : Act), loop1 (run1 n call x) live m e H = some s → Good c B H → RepE c e act.tmps → slotsOk act.tmps.size x = true →
          (∀ (c' : Cx) (act' : Act), Good c' B s.2.2 → RepE c' s.2.1 act'.tmps → Nxt c c' H s.2.2 → act'.tmps.size = act.tmps.size → act'.defers = act.defers → Q s.1.out act' c'.w) → Code.rounds P a Q m act c.w := by
        intro m
        induction m with
        | zero => intro c e H act h; cases h
        | succ m ihm =>
          intro c e H act h g he hsl hK
          simp only [loop1, Option.bind_eq_some_iff] at h
          obtain ⟨⟨k, e1, H1⟩, h1, h2⟩ := h
          have hB1 : H1.length ≤ B := by
            split at h2
            · exact Nat.le_trans (loop1_len (fun e H s h => run1_len hS n x e H s h) live m _ _ _ h2) hB
            · cases h2; exact hB
          rw [rounds_succ]
          refine ih _ _ _ hx c (e.only live) H act _ _ h1 g hB1 (he.only live) hsl fun c1 act1 g1 he1 n1 hs1 hd1 => ?_
          cases k with
          | norm =>
            exact ihm c1 e1 H1 act1 h2 g1 he1 (by rw [hs1]; exact hsl) fun c2 act2 g2 he2 n2 hs2 hd2 => hK c2 act2 g2 he2 (n1.trans g hB1 n2) (hs2.trans hs1) (hd2.trans hd1)
          | exit i =>
            cases h2
            exact hK c1 act1 g1 he1 n1 hs1 hd1
          | ret =>
            cases h2
            exact hK c1 act1 g1 he1 n1 hs1 hd1
      exact wp_loop_rounds n (key n c e H act hr g he hsl hK)
  | exit id =>
    intro ls ls' code1 hc c e H act s Q hr g hB he hsl hK
    cases hc; cases hr
    exact wp_exit (hK c act g he (.refl c H) rfl rfl)
  | ret =>
    intro ls ls' code1 hc c e H act s Q hr g hB he hsl hK
    cases hc; cases hr
    exact wp_ret (hK c act g he (.refl c H) rfl rfl)
  | _ =>
    intro ls ls' code1 hc c e H act s Q hr g hB he hsl hK
    cases hc; cases hr

end Go.Abs
