/- Statements whose order is open: what each operation looks at and changes. Conditions: those of each lemma. -/
import Derived.Test.YtjjcfcbhelecgaaGreatAbsReg2
set_option linter.unusedVariables false
set_option linter.unusedSimpArgs false
namespace Go.Abs
variable {P : Program} {c c' : Cx} {B : Nat} {H : Heap} {e : Env} {act : Act}

/-- A light operation leaves the heap as it is. -/
theorem ev1_light {call : CallT} {op : Op1} {a : AV} {H' : Heap} (hl : heft op ≤ 1) (hv : ev1 call e H op = some (a, H')) : H' = H := by
  cases op <;> simp only [ev1, Option.bind_eq_some_iff] at hv
  all_goals try (simp [heft] at hl; done)
  case mov x => grind
  case pick =>
    obtain ⟨_, _, hv⟩ := hv
    split at hv
    · simp only [Option.bind_eq_some_iff] at hv
      obtain ⟨_, _, hv⟩ := hv
      cases hv; rfl
    · simp only [Option.bind_eq_some_iff] at hv
      obtain ⟨_, _, hv⟩ := hv
      cases hv; rfl
    · cases hv
  case build => grind
  case load => grind
  case nilCheck => grind
  case bin => grind
  case eqs =>
    obtain ⟨_, _, _, _, hv⟩ := hv
    split at hv
    · simp only [Bool.cond_eq_ite] at hv
      split at hv
      · simp only [Option.bind_eq_some_iff] at hv
        obtain ⟨_, _, hv⟩ := hv
        cases hv; rfl
      · cases hv
    · cases hv
  case eqB => grind
  case eqS => grind
  case un => grind
  case conv => grind
  case bytesStr => grind
  case mkIface => grind
  case mkFunc => grind
  case slice =>
    obtain ⟨_, _, _, _, _, _, _, _, hv⟩ := hv
    split at hv
    · simp only [Option.bind_eq_some_iff] at hv
      obtain ⟨_, _, hv⟩ := hv
      cases hv; rfl
    · simp only [Option.bind_eq_some_iff] at hv
      obtain ⟨_, _, _, _, hv⟩ := hv
      cases hv; rfl
  case fieldAddr => grind
  case field =>
    obtain ⟨_, _, hv⟩ := hv
    split at hv
    · simp only [Bool.cond_eq_ite] at hv
      split at hv
      · simp only [Option.bind_eq_some_iff] at hv
        obtain ⟨_, _, hv⟩ := hv
        cases hv; rfl
      · cases hv
    · cases hv
  case indexAddr => grind
  case indexArr => grind
  case strIndex => grind
  case lookup =>
    obtain ⟨_, _, _, _, hv⟩ := hv
    split at hv
    · simp only [Option.bind_eq_some_iff] at hv
      obtain ⟨_, _, hv⟩ := hv
      split at hv <;> cases hv <;> rfl
    · cases hv
  case typeAssert => grind
  case extract => grind
  case len => grind
  case strLen => grind
  case isNil => grind
  case min => grind
  case max => grind

theorem feet_light {op : Op1} (e : Env) (H : Heap) : (heft op ≤ 1 → (feet e H op).2 = []) ∧ (heft op = 0 → (feet e H op).1 = []) := by
  cases op <;> simp [heft, feet] <;> (try split) <;> simp

/-- What is only looked at stays. -/
theorem ev1_keeps {call : CallT} {op : Op1} {a : AV} {Hm M : Heap} (hv : ev1 call e Hm op = some (a, M)) {b : Nat} (hR : b ∈ (feet e H op).1) (hW : b ∉ (feet e H op).2) (hb : b < Hm.length) : M[b]? = Hm[b]? := by
  by_cases hl : heft op ≤ 1
  · rw [ev1_light hl hv]
  · cases op <;> simp only [heft] at hl <;> (try omega) <;> simp only [feet] at hR hW
    all_goals try (simp at hR; done)
    case call f args m =>
      cases ho : opds e args <;> simp only [ho] at hR
      · simp at hR
      · unfold callFeet at hR
        split at hR <;> simp at hR
    case dyn f args m =>
      split at hR
      · unfold callFeet at hR
        split at hR <;> simp at hR
      · simp at hR
    case invoke r tab args m =>
      split at hR <;> simp at hR
    case store sz x y =>
      split at hR <;> simp at hR
    case insert m k v =>
      split at hR <;> simp at hR
    case append sz bytes s x =>
      simp only [ev1, Option.bind_eq_some_iff] at hv
      obtain ⟨sa, hsa, xa, hxa, hv⟩ := hv
      simp only [append1, Option.bind_eq_some_iff] at hv
      obtain ⟨new, _, hv⟩ := hv
      rw [hsa] at hW
      have key : ∀ b0 u o n, sa = .sl b0 u o n → ∀ k : Blk, M = Hm.set b0 k → M[b]? = Hm[b]? := fun b0 u o n e0 k e1 => by
        subst e0 e1
        simp only [List.mem_singleton] at hW
        exact List.getElem?_set_ne (Ne.symm hW)
      have key2 : ∀ k : Blk, M = Hm ++ [k] → M[b]? = Hm[b]? := fun k e1 => by
        subst e1
        exact List.getElem?_append_left hb
      simp only [Bool.cond_eq_ite] at hv
      repeat' split at hv
      all_goals first
        | (cases hv; done)
        | (cases hv; rfl)
        | (cases hv; exact key2 _ rfl)
        | (cases hv; exact key _ _ _ _ rfl _ rfl)
    case copy sz d s =>
      simp only [ev1, Option.bind_eq_some_iff] at hv
      obtain ⟨sa, hsa, xa, hxa, hv⟩ := hv
      simp only [copy1, Option.bind_eq_some_iff] at hv
      obtain ⟨new, _, hv⟩ := hv
      rw [hsa] at hW
      have key : ∀ b0 u o n, sa = .sl b0 u o n → ∀ k : Blk, M = Hm.set b0 k → M[b]? = Hm[b]? := fun b0 u o n e0 k e1 => by
        subst e0 e1
        simp only [List.mem_singleton] at hW
        exact List.getElem?_set_ne (Ne.symm hW)
      simp only [Bool.cond_eq_ite] at hv
      repeat' split at hv
      all_goals first
        | (cases hv; done)
        | (cases hv; rfl)
        | (cases hv; exact key _ _ _ _ rfl _ rfl)

/-! ### Slots that are not looked at -/
theorem opd_congr {e e' : Env} {x : Opd} (h : ∀ t, t ∈ opdTmp x → e.get t = e'.get t) : opd e x = opd e' x := by
  cases x with
  | tmp t => exact h t (by simp [opdTmp])
  | const a => rfl

theorem opds_congr {e e' : Env} : ∀ {xs : List Opd}, (∀ t, t ∈ xs.flatMap opdTmp → e.get t = e'.get t) → opds e xs = opds e' xs
  | [], _ => rfl
  | x :: xs, h => by
    simp only [List.flatMap_cons, List.mem_append] at h
    simp only [opds, opd_congr (fun t ht => h t (.inl ht)), opds_congr (fun t ht => h t (.inr ht))]

theorem natOpt_congr {e e' : Env} {d : Nat} {x : Option Opd} (h : ∀ t, t ∈ optTmp x → e.get t = e'.get t) : natOpt e d x = natOpt e' d x := by
  cases x with
  | none => rfl
  | some x => simp only [natOpt, opd_congr (e := e) (e' := e') (x := x) (fun t ht => h t (by simpa [optTmp] using ht))]

theorem setParts_congr {e e' : Env} : ∀ {ps : List (Nat × Nat × Opd)} {z : Row}, (∀ t, t ∈ ps.flatMap (fun p => opdTmp p.2.2) → e.get t = e'.get t) → setParts z e ps = setParts z e' ps
  | [], z, _ => rfl
  | (i, s, x) :: ps, z, h => by
    simp only [List.flatMap_cons, List.mem_append] at h
    simp only [setParts, opd_congr (fun t ht => h t (.inl ht))]
    congr 1
    funext a
    rw [setParts_congr (fun t ht => h t (.inr ht))]

theorem setRows_congr {e e' : Env} : ∀ {ps : List (Nat × Opd)} {rows : Rows} {sz : Nat}, (∀ t, t ∈ ps.flatMap (fun p => opdTmp p.2) → e.get t = e'.get t) → setRows rows sz e ps = setRows rows sz e' ps
  | [], rows, sz, _ => rfl
  | (i, x) :: ps, rows, sz, h => by
    simp only [List.flatMap_cons, List.mem_append] at h
    simp only [setRows, opd_congr (fun t ht => h t (.inl ht))]
    congr 1
    funext a
    rw [setRows_congr (fun t ht => h t (.inr ht))]

theorem ev1_congr {call : CallT} {e e' : Env} {op : Op1} (h : ∀ t, t ∈ seesOp op → e.get t = e'.get t) : ev1 call e H op = ev1 call e' H op := by
  have h1 : ∀ {x : Opd}, (∀ t, t ∈ opdTmp x → t ∈ seesOp op) → opd e x = opd e' x := fun hx => opd_congr (fun t ht => h t (hx t ht))
  have hL : ∀ {xs : List Opd}, (∀ t, t ∈ xs.flatMap opdTmp → t ∈ seesOp op) → opds e xs = opds e' xs := fun hx => opds_congr (fun t ht => h t (hx t ht))
  have hN : ∀ {x : Option Opd} {d : Nat}, (∀ t, t ∈ optTmp x → t ∈ seesOp op) → natOpt e d x = natOpt e' d x := fun hx => natOpt_congr (fun t ht => h t (hx t ht))
  cases op
  case build z ps => simp only [ev1]; rw [setParts_congr (e := e) (e' := e') (fun t ht => h t (by simpa only [seesOp] using ht))]
  case buildSlice sz rows ps =>
    simp only [ev1]
    rw [setRows_congr (e := e) (e' := e') (fun t ht => h t (by simpa only [seesOp] using ht))]
  case slice sz x lo hi mx =>
    simp only [ev1]
    rw [h1 (x := x) (fun t ht => by simp [seesOp, ht])]
    congr 1; funext a
    congr 1; funext n
    rw [hN (x := lo) (fun t ht => by simp [seesOp, ht])]
    congr 1; funext l
    rw [hN (x := hi) (fun t ht => by simp [seesOp, ht])]
    congr 1; funext h2
    cases mx with
    | none => rfl
    | some m =>
      simp only
      rw [h1 (x := m) (fun t ht => by simp [seesOp, optTmp, ht])]
  case call f args m => simp only [ev1]; rw [hL (xs := args) (fun t ht => by simpa only [seesOp] using ht)]
  case dyn f args m =>
    simp only [ev1]
    rw [h1 (x := f) (fun t ht => by simp [seesOp, ht]), hL (xs := args) (fun t ht => by simp only [seesOp, List.mem_append]; exact .inr ht)]
  case invoke r tab args m =>
    simp only [ev1]
    rw [h1 (x := r) (fun t ht => by simp [seesOp, ht]), hL (xs := args) (fun t ht => by simp only [seesOp, List.mem_append]; exact .inr ht)]
  case mkFunc f a b =>
    simp only [ev1]
    rw [hL (xs := a) (fun t ht => by simp only [seesOp, List.mem_append]; exact .inl ht), hL (xs := b) (fun t ht => by simp only [seesOp, List.mem_append]; exact .inr ht)]
  case mkMap => rfl
  case stuck => rfl
  case pick k x y =>
    simp only [ev1]
    rw [h1 (x := k) (fun t ht => by simp [seesOp, ht]), h1 (x := x) (fun t ht => by simp [seesOp, ht]), h1 (x := y) (fun t ht => by simp [seesOp, ht])]
  case insert k x y =>
    simp only [ev1]
    rw [h1 (x := k) (fun t ht => by simp [seesOp, ht]), h1 (x := x) (fun t ht => by simp [seesOp, ht]), h1 (x := y) (fun t ht => by simp [seesOp, ht])]
  all_goals
    simp only [ev1]
    first
    | (rename_i x; rw [h1 (x := x) (fun t ht => by simpa only [seesOp] using ht)]; done)
    | (rename_i x y; rw [h1 (x := x) (fun t ht => by simpa only [seesOp] using ht)]; done)
    | (rename_i x y; rw [h1 (x := x) (fun t ht => by simp [seesOp, ht]), h1 (x := y) (fun t ht => by simp [seesOp, ht])]; done)

end Go.Abs
