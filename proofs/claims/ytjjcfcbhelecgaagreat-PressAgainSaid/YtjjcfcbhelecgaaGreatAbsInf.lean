/- What the interpreter answers with fuel enough: 'C', a plain function of the call. Conditions: none. -/
import Derived.Test.YtjjcfcbhelecgaaGreatAbsPcall
set_option linter.unusedVariables false
set_option linter.unusedSimpArgs false
namespace Go.Abs

def LeC (C C' : CallT) : Prop := ∀ f as H r, C f as H = some r → C' f as H = some r

theorem LeC.refl (C : CallT) : LeC C C := fun _ _ _ _ h => h
theorem LeC.trans {A B C : CallT} (h : LeC A B) (k : LeC B C) : LeC A C := fun f as H r q => k f as H r (h f as H r q)

theorem bind_mono {α β : Type} {x x' : Option α} {f f' : α → Option β} {r : β} (h : x.bind f = some r) (hx : ∀ a, x = some a → x' = some a) (hf : ∀ a, x = some a → f a = some r → f' a = some r) : x'.bind f' = some r := by
  cases hq : x with
  | none => rw [hq] at h; cases h
  | some a => rw [hq] at h; rw [hx a hq]; exact hf a hq h

/-- Of all that an operation does a call alone hangs on the calls' answers: it does with all that answer more. -/
theorem doCall_mono {C C' : CallT} (hC : LeC C C') {f : FuncId} {as : List AV} {m : Mode} {H : Heap} {r : AV × Heap} (h : doCall C f as m H = some r) : doCall C' f as m H = some r := by
  unfold doCall at h ⊢
  have hp : ∀ {as' : List AV} {a : AV}, pure1 C f as' = some a → pure1 C' f as' = some a := fun {as' a} h => by
    unfold pure1 at h ⊢
    exact bind_mono h (fun a ha => hC f as' [] a ha) (fun a _ h => h)
  split at h
  · exact bind_mono h (fun a ha => hp ha) (fun a _ h => h)
  · exact bind_mono h (fun a ha => hp ha) (fun a _ h => h)
  · exact hC f as H r h

theorem ev1_mono {C C' : CallT} (hC : LeC C C') {e : Env} {H : Heap} {op : Op1} {r : AV × Heap} (h : ev1 C e H op = some r) : ev1 C' e H op = some r := by
  cases op
  case call f args m =>
    simp only [ev1] at h ⊢
    exact bind_mono h (fun a ha => ha) (fun a _ h => doCall_mono hC h)
  case dyn f args m =>
    simp only [ev1] at h ⊢
    refine bind_mono h (fun a ha => ha) (fun a _ h => bind_mono h (fun a ha => ha) (fun as _ h => ?_))
    split at h
    · exact doCall_mono hC h
    · cases h
  case invoke r tab args m =>
    simp only [ev1] at h ⊢
    refine bind_mono h (fun a ha => ha) (fun a _ h => bind_mono h (fun a ha => ha) (fun as _ h => ?_))
    split at h
    · refine bind_mono h (fun a ha => ha) (fun fr _ h => ?_)
      cases hr : fr.2 with
      | plain => rw [hr] at h; exact doCall_mono hC h
      | deref ag sz => rw [hr] at h; exact bind_mono h (fun a ha => ha) (fun a _ h => bind_mono h (fun a ha => ha) (fun a _ h => doCall_mono hC h))
    · cases h
  all_goals exact h

theorem step1_mono {C C' : CallT} (hC : LeC C C') {e : Env} {H : Heap} {o : Oper1} {r : Env × Heap} (h : step1 C o e H = some r) : step1 C' o e H = some r := by
  unfold step1 at h ⊢
  split at h
  · exact bind_mono h (fun a ha => ev1_mono hC ha) (fun a _ h => h)
  · exact h
  · cases h

theorem steps_mono {C C' : CallT} (hC : LeC C C') : ∀ {os : List Oper1} {e : Env} {H : Heap} {r : Env × Heap}, steps C os e H = some r → steps C' os e H = some r
  | [], e, H, r, h => h
  | o :: os, e, H, r, h => bind_mono h (fun a ha => step1_mono hC ha) (fun a _ h => steps_mono hC h)

theorem stepD_mono {C C' : CallT} (hC : LeC C C') {e : Env} {H : Heap} {o : Oper1} {r : Env × Heap} (h : stepD C o e H = some r) : stepD C' o e H = some r := by
  unfold stepD at h ⊢
  split at h
  · exact bind_mono h (fun a ha => bind_mono ha (fun b hb => ev1_mono hC hb) (fun _ _ h => h)) (fun a _ h => h)
  · exact h
  · cases h

theorem stepsD_mono {C C' : CallT} (hC : LeC C C') : ∀ {os : List Oper1} {e : Env} {H : Heap} {r : List (List Nat × List Nat) × Env × Heap}, stepsD C os e H = some r → stepsD C' os e H = some r
  | [], e, H, r, h => h
  | o :: os, e, H, r, h => bind_mono h (fun a ha => stepD_mono hC ha) (fun a _ h => bind_mono h (fun b hb => stepsD_mono hC hb) (fun _ _ h => h))

theorem loop1_mono {b b' : Env → Heap → Option St} (hb : ∀ e H s, b e H = some s → b' e H = some s) (live : List Nat) : ∀ {n m : Nat} {e : Env} {H : Heap} {s : St}, n ≤ m → loop1 b live n e H = some s → loop1 b' live m e H = some s
  | 0, m, e, H, s, _, h => by cases h
  | n + 1, 0, e, H, s, hm, h => absurd hm (by simp)
  | n + 1, m + 1, e, H, s, hm, h => by
    simp only [loop1] at h ⊢
    refine bind_mono h (fun a ha => hb _ _ _ ha) (fun a _ h => ?_)
    split at h
    · exact loop1_mono hb live (by omega) h
    · exact h

theorem run1_mono {C C' : CallT} (hC : LeC C C') {n m : Nat} (hm : n ≤ m) : ∀ {code : Code1} {e : Env} {H : Heap} {s : St}, run1 n C code e H = some s → run1 m C' code e H = some s := by
  intro code
  induction code with
  | reg ops => intro e H s h; exact bind_mono h (fun a ha => steps_mono hC ha) (fun _ _ h => h)
  | regd ops ps => intro e H s h; exact bind_mono h (fun a ha => stepsD_mono hC ha) (fun _ _ h => h)
  | seq a b iha ihb =>
    intro e H s h
    simp only [run1] at h ⊢
    refine bind_mono h (fun a ha => iha ha) (fun s1 _ h => ?_)
    split at h
    · exact ihb h
    · exact h
  | cond k a b iha ihb =>
    intro e H s h
    simp only [run1] at h ⊢
    refine bind_mono h (fun a ha => ha) (fun s1 _ h => ?_)
    split at h
    · exact iha h
    · exact ihb h
    · cases h
  | block id a ih =>
    intro e H s h
    simp only [run1] at h ⊢
    exact bind_mono h (fun a ha => ih ha) (fun s1 _ h => h)
  | loop live a ih =>
    intro e H s h
    simp only [run1] at h ⊢
    exact loop1_mono (fun e H s h => ih h) live hm h
  | skip => intro e H s h; exact h
  | exit id => intro e H s h; exact h
  | ret => intro e H s h; exact h
  | stuck => intro e H s h; exact h

theorem pcall_mono (Q : Prog1) : ∀ {n m : Nat}, n ≤ m → LeC (pcall Q n) (pcall Q m)
  | 0, m, _ => fun f as H r h => by cases h
  | n + 1, 0, hm => absurd hm (by simp)
  | n + 1, m + 1, hm => fun f as H r h => by
    have ih := pcall_mono Q (show n ≤ m by omega)
    simp only [pcall] at h ⊢
    split at h
    · exact h
    · split at h
      · rename_i F hF
        cases hl : Nat.beq as.length F.nparams with
        | false => simp [hl] at h
        | true =>
          simp only [hl, cond_true] at h ⊢
          exact bind_mono h (fun a ha => run1_mono ih (by omega) ha) (fun _ _ h => h)
      · cases h

/-! ### With fuel enough -/
open Classical in
/-- What a call answers. -/
noncomputable def C (Q : Prog1) : CallT := fun f as H => if h : ∃ r n, pcall Q n f as H = some r then some h.choose else none

theorem C_iff {Q : Prog1} {f : FuncId} {as : List AV} {H : Heap} {r : AV × Heap} : C Q f as H = some r ↔ ∃ n, pcall Q n f as H = some r := by
  unfold C
  constructor
  · intro h
    split at h
    · rename_i hx
      cases h
      exact hx.choose_spec
    · cases h
  · rintro ⟨n, hn⟩
    have hx : ∃ r n, pcall Q n f as H = some r := ⟨r, n, hn⟩
    rw [dif_pos hx]
    obtain ⟨m, hm⟩ := hx.choose_spec
    have h1 := pcall_mono Q (Nat.le_max_left n m) f as H _ hn
    have h2 := pcall_mono Q (Nat.le_max_right n m) f as H _ hm
    rw [h1] at h2
    exact h2.symm

theorem doCall_cont {Q : Prog1} {f : FuncId} {as : List AV} {m : Mode} {H : Heap} {r : AV × Heap} (h : doCall (C Q) f as m H = some r) : ∃ n, doCall (pcall Q n) f as m H = some r := by
  unfold doCall at h ⊢
  have hp : ∀ {as' : List AV} {a : AV}, pure1 (C Q) f as' = some a → ∃ n, pure1 (pcall Q n) f as' = some a := fun {as' a} h => by
    simp only [pure1, Option.bind_eq_some_iff] at h ⊢
    obtain ⟨x, hx, h⟩ := h
    obtain ⟨n, hn⟩ := C_iff.1 hx
    exact ⟨n, x, hn, h⟩
  split at h
  · simp only [Option.bind_eq_some_iff] at h ⊢
    obtain ⟨x, hx, h⟩ := h
    obtain ⟨n, hn⟩ := hp hx
    exact ⟨n, x, hn, h⟩
  · simp only [Option.bind_eq_some_iff] at h ⊢
    obtain ⟨x, hx, h⟩ := h
    obtain ⟨n, hn⟩ := hp hx
    exact ⟨n, x, hn, h⟩
  · exact C_iff.1 h

theorem ev1_cont {Q : Prog1} {e : Env} {H : Heap} {op : Op1} {r : AV × Heap} (h : ev1 (C Q) e H op = some r) : ∃ n, ev1 (pcall Q n) e H op = some r := by
  cases op
  case call f args m =>
    simp only [ev1, Option.bind_eq_some_iff] at h ⊢
    obtain ⟨as, has, h⟩ := h
    obtain ⟨n, hn⟩ := doCall_cont h
    exact ⟨n, as, has, hn⟩
  case dyn f args m =>
    simp only [ev1, Option.bind_eq_some_iff] at h ⊢
    obtain ⟨fa, hfa, as, has, h⟩ := h
    split at h
    · obtain ⟨n, hn⟩ := doCall_cont h
      exact ⟨n, _, hfa, as, has, hn⟩
    · cases h
  case invoke r tab args m =>
    simp only [ev1, Option.bind_eq_some_iff] at h ⊢
    obtain ⟨ra, hra, as, has, h⟩ := h
    split at h
    · simp only [Option.bind_eq_some_iff] at h
      obtain ⟨⟨f, rc⟩, hft, h⟩ := h
      cases rc with
      | plain =>
        obtain ⟨n, hn⟩ := doCall_cont h
        exact ⟨n, _, hra, as, has, by simp only [Option.bind_eq_some_iff]; exact ⟨_, hft, hn⟩⟩
      | deref ag sz =>
        simp only [Option.bind_eq_some_iff] at h
        obtain ⟨row, hrow, x, hx, h⟩ := h
        obtain ⟨n, hn⟩ := doCall_cont h
        exact ⟨n, _, hra, as, has, by
          simp only [Option.bind_eq_some_iff]
          refine ⟨(f, .deref ag sz), hft, ?_⟩
          simp only [Option.bind_eq_some_iff]
          exact ⟨row, hrow, x, hx, hn⟩⟩
    · cases h
  all_goals exact ⟨0, h⟩

theorem step1_cont {Q : Prog1} {e : Env} {H : Heap} {o : Oper1} {r : Env × Heap} (h : step1 (C Q) o e H = some r) : ∃ n, step1 (pcall Q n) o e H = some r := by
  unfold step1 at h ⊢
  split at h
  · simp only [Option.bind_eq_some_iff] at h ⊢
    obtain ⟨x, hx, h⟩ := h
    obtain ⟨n, hn⟩ := ev1_cont hx
    exact ⟨n, x, hn, h⟩
  · exact ⟨0, h⟩
  · cases h

theorem steps_cont {Q : Prog1} : ∀ {os : List Oper1} {e : Env} {H : Heap} {r : Env × Heap}, steps (C Q) os e H = some r → ∃ n, steps (pcall Q n) os e H = some r
  | [], e, H, r, h => ⟨0, h⟩
  | o :: os, e, H, r, h => by
    simp only [steps, Option.bind_eq_some_iff] at h ⊢
    obtain ⟨x, hx, h⟩ := h
    obtain ⟨n, hn⟩ := step1_cont hx
    obtain ⟨m, hm⟩ := steps_cont h
    exact ⟨max n m, x, step1_mono (pcall_mono Q (Nat.le_max_left n m)) hn, steps_mono (pcall_mono Q (Nat.le_max_right n m)) hm⟩

theorem stepD_cont {Q : Prog1} {e : Env} {H : Heap} {o : Oper1} {r : Env × Heap} (h : stepD (C Q) o e H = some r) : ∃ n, stepD (pcall Q n) o e H = some r := by
  unfold stepD at h ⊢
  split at h
  · simp only [evD, Option.bind_eq_some_iff] at h ⊢
    obtain ⟨x, ⟨y, hy, hx⟩, h⟩ := h
    obtain ⟨n, hn⟩ := ev1_cont hy
    exact ⟨n, x, ⟨y, hn, hx⟩, h⟩
  · exact ⟨0, h⟩
  · cases h

theorem stepsD_cont {Q : Prog1} : ∀ {os : List Oper1} {e : Env} {H : Heap} {r : List (List Nat × List Nat) × Env × Heap}, stepsD (C Q) os e H = some r → ∃ n, stepsD (pcall Q n) os e H = some r
  | [], e, H, r, h => ⟨0, h⟩
  | o :: os, e, H, r, h => by
    simp only [stepsD, Option.bind_eq_some_iff] at h ⊢
    obtain ⟨x, hx, y, hy, h⟩ := h
    obtain ⟨n, hn⟩ := stepD_cont hx
    obtain ⟨m, hm⟩ := stepsD_cont hy
    exact ⟨max n m, x, stepD_mono (pcall_mono Q (Nat.le_max_left n m)) hn, y, stepsD_mono (pcall_mono Q (Nat.le_max_right n m)) hm, h⟩

theorem run1_cont {Q : Prog1} {k : Nat} : ∀ {code : Code1} {e : Env} {H : Heap} {s : St}, run1 k (C Q) code e H = some s → ∃ n, run1 n (pcall Q n) code e H = some s := by
  intro code
  induction code with
  | reg ops =>
    intro e H s h
    simp only [run1, Option.bind_eq_some_iff] at h ⊢
    obtain ⟨x, hx, h⟩ := h
    obtain ⟨n, hn⟩ := steps_cont hx
    exact ⟨n, x, hn, h⟩
  | regd ops ps =>
    intro e H s h
    simp only [run1, Option.bind_eq_some_iff] at h ⊢
    obtain ⟨x, hx, h⟩ := h
    obtain ⟨n, hn⟩ := stepsD_cont hx
    exact ⟨n, x, hn, h⟩
  | seq a b iha ihb =>
    intro e H s h
    simp only [run1, Option.bind_eq_some_iff] at h ⊢
    obtain ⟨x, hx, h⟩ := h
    obtain ⟨n, hn⟩ := iha hx
    split at h
    · rename_i hs
      obtain ⟨m, hm⟩ := ihb h
      refine ⟨max n m, x, run1_mono (pcall_mono Q (Nat.le_max_left n m)) (Nat.le_max_left n m) hn, ?_⟩
      rw [hs]
      exact run1_mono (pcall_mono Q (Nat.le_max_right n m)) (Nat.le_max_right n m) hm
    · rename_i hs
      refine ⟨n, x, hn, ?_⟩
      split
      · rename_i h0; exact absurd h0 hs
      · exact h
  | cond c a b iha ihb =>
    intro e H s h
    simp only [run1, Option.bind_eq_some_iff] at h ⊢
    obtain ⟨x, hx, h⟩ := h
    split at h
    · obtain ⟨n, hn⟩ := iha h; exact ⟨n, _, hx, hn⟩
    · obtain ⟨n, hn⟩ := ihb h; exact ⟨n, _, hx, hn⟩
    · cases h
  | block id a ih =>
    intro e H s h
    simp only [run1, Option.bind_eq_some_iff] at h ⊢
    obtain ⟨x, hx, h⟩ := h
    obtain ⟨n, hn⟩ := ih hx
    exact ⟨n, x, hn, h⟩
  | loop live a ih =>
    intro e H s h
    simp only [run1] at h ⊢
    have key : ∀ (j : Nat) (e : Env) (H : Heap) (s : St), loop1 (run1 k (C Q) a) live j e H = some s → ∃ n, loop1 (run1 n (pcall Q n) a) live n e H = some s := by
      intro j
      induction j with
      | zero => intro e H s h; cases h
      | succ j ihj =>
        intro e H s h
        simp only [loop1, Option.bind_eq_some_iff] at h
        obtain ⟨x, hx, h⟩ := h
        obtain ⟨n, hn⟩ := ih hx
        split at h
        · rename_i hs
          obtain ⟨m, hm⟩ := ihj _ _ _ h
          refine ⟨max n m + 1, ?_⟩
          simp only [loop1, Option.bind_eq_some_iff]
          refine ⟨x, run1_mono (pcall_mono Q (by omega)) (by omega) hn, ?_⟩
          rw [hs]
          exact loop1_mono (fun e H s h => run1_mono (pcall_mono Q (by omega)) (by omega) h) live (by omega) hm
        · rename_i hs
          refine ⟨n + 1, ?_⟩
          simp only [loop1, Option.bind_eq_some_iff]
          refine ⟨x, run1_mono (pcall_mono Q (by omega)) (by omega) hn, ?_⟩
          split
          · rename_i h0; exact absurd h0 hs
          · exact h
    exact key k e H s h
  | skip => intro e H s h; exact ⟨0, h⟩
  | exit id => intro e H s h; exact ⟨0, h⟩
  | ret => intro e H s h; exact ⟨0, h⟩
  | stuck => intro e H s h; exact ⟨0, h⟩

/-- A FUNCTION'S ANSWER, OUT OF ITS CODE: calls as plain answers; n bounds the rounds of its loops. -/
theorem C_code {Q : Prog1} {f : FuncId} {F : Func1} (n : Nat) {as : List AV} {H : Heap} {r : AV × Heap} (hp : Q.prim f = none) (hF : Q.code f = some F) (hl : Nat.beq as.length F.nparams = true)
    (h : (run1 n (C Q) F.body (args1 0 as) H).bind (back1 F.results) = some r) : C Q f as H = some r := by
  simp only [Option.bind_eq_some_iff] at h
  obtain ⟨s, hs, h⟩ := h
  obtain ⟨m, hm⟩ := run1_cont hs
  refine C_iff.2 ⟨m + 1, ?_⟩
  simp only [pcall, hp, hF, hl, cond_true, Option.bind_eq_some_iff]
  exact ⟨s, hm, h⟩

theorem C_prim {Q : Prog1} {f : FuncId} {p : List AV → Heap → Option (AV × Heap)} {as : List AV} {H : Heap} {r : AV × Heap} (hp : Q.prim f = some p) (h : p as H = some r) : C Q f as H = some r :=
  C_iff.2 ⟨1, by simp only [pcall, hp, h]⟩

/-- What 'C' answers the machine answers. -/
theorem C_sound {P : Program} {Q : Prog1} (hQ : Q.Ok P) : SimAll P (C Q) := fun f as H a H' h => by
  obtain ⟨n, hn⟩ := C_iff.1 h
  exact pcall_sound hQ n f as H a H' hn

end Go.Abs
