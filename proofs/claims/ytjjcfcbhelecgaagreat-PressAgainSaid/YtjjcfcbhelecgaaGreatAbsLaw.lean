/- From what the interpreter answers to what a law's call does. Conditions: those of each lemma. -/
import Derived.Test.YtjjcfcbhelecgaaGreatAbsBridge
import Derived.Test.YtjjcfcbhelecgaaGreatAbsEv
import Derived.ProofKit
import Derived.OpenShut
set_option linter.unusedVariables false
set_option linter.unusedSimpArgs false
namespace Go.Abs

def Typed (tys : List Cell) (row : Row) : Prop := row.length = tys.length ∧ ∀ i (h1 : i < row.length) (h2 : i < tys.length), Has tys[i] row[i]

def argTy (P : Program) (n : Nat) (t : TypeId) : Option (Bool × List Cell) :=
  match P.underlying t with
  | some (.struct _) => (cellsTy P n t).map fun l => (true, l)
  | some (.int _) | some .bool | some .string | some (.slice _) => (cellsTy P n t).map fun l => (false, l)
  | _ => none

/-- An argument of such a type. -/
inductive ATyped : Bool × List Cell → AV → Prop
  | agg (tys : List Cell) (row : Row) (h : Typed tys row) : ATyped (true, tys) (.agg row)
  | one (t : Cell) (a : AV) (h : Has t a) : ATyped (false, [t]) a

inductive AllTyped : List (Bool × List Cell) → List AV → Prop
  | nil : AllTyped [] []
  | cons {t : Bool × List Cell} {a : AV} {ts : List (Bool × List Cell)} {as : List AV} (h : ATyped t a) (hs : AllTyped ts as) : AllTyped (t :: ts) (a :: as)

theorem arg_rep {H : Type} {enc : TypeId × Value → H} {P : Program} {W : World} {base : Nat} {sp : Nat → Bool} {held : Bool} {n : Nat} {t : TypeId} {ty : Bool × List Cell} {v : Value} {d : DataW H} {p : List MemPlace}
    (ht : argTy P n t = some ty) (hv : Value.okWide P W .any base t v) (h : DataW.Trod enc P W 0 sp held t v d p) : ∃ a, ATyped ty a ∧ RepI W (fun k => k < W.heap.size) a v := by
  obtain ⟨fuel, hf⟩ := h
  unfold argTy at ht
  unfold Value.okWide at hv
  have one : ∀ (hn : ∀ cs, v ≠ .agg cs) (l : List Cell), cellsTy P n t = some l → l.length = 1 → ∃ a, ATyped (false, l) a ∧ RepI W (fun k => k < W.heap.size) a v := by
    intro hn l hl h1
    obtain ⟨row, hrow⟩ := trod_rep fuel n t l v.cells.toList _ hl hf
    have hc : v.cells.toList = [v] := by
      cases v
      case agg cs => exact absurd rfl (hn cs)
      all_goals rfl
    rw [hc] at hrow
    match l, h1 with
    | [ty], _ =>
      match row, hrow.lr with
      | [a], _ => exact ⟨a, .one ty a (hrow.ty 0 (by simp) (by simp)), (hrow.rep 0 (by simp) (by simp)).1⟩
  cases hu : P.underlying t with
  | none => rw [hu] at ht; cases ht
  | some td =>
    rw [hu] at ht hv
    cases td
    case struct fs =>
      simp only [Option.map_eq_some_iff] at ht
      obtain ⟨l, hl, rfl⟩ := ht
      obtain ⟨cs, rfl, _, _⟩ := hv
      obtain ⟨row, hrow⟩ := trod_rep fuel n t l _ _ hl hf
      refine ⟨.agg row, .agg l row ⟨hrow.lr, hrow.ty⟩, ?_⟩
      have hlen : row.length = cs.size := by rw [hrow.lr, ← hrow.lc]; rfl
      refine .agg row cs hlen (fun i h => ?_) (fun i h => ?_)
      · exact (hrow.rep i (by omega) (by simpa [Value.cells] using h)).2
      · exact (hrow.rep i h (by simpa [Value.cells] using (by omega : i < cs.size))).1
    case int k =>
      simp only [Option.map_eq_some_iff] at ht
      obtain ⟨l, hl, rfl⟩ := ht
      refine one (fun cs e => ?_) l hl ?_
      · subst e; simp [Cell.okWide, Cell.ok, hu] at hv
      · cases n with
        | zero => cases hl
        | succ n => simp only [cellsTy, hu, Option.some.injEq] at hl; rw [← hl]; rfl
    case bool =>
      simp only [Option.map_eq_some_iff] at ht
      obtain ⟨l, hl, rfl⟩ := ht
      refine one (fun cs e => ?_) l hl ?_
      · subst e; simp [Cell.okWide, Cell.ok, hu] at hv
      · cases n with
        | zero => cases hl
        | succ n => simp only [cellsTy, hu, Option.some.injEq] at hl; rw [← hl]; rfl
    case string =>
      simp only [Option.map_eq_some_iff] at ht
      obtain ⟨l, hl, rfl⟩ := ht
      refine one (fun cs e => ?_) l hl ?_
      · subst e; simp [Cell.okWide, Cell.ok, hu] at hv
      · cases n with
        | zero => cases hl
        | succ n => simp only [cellsTy, hu, Option.some.injEq] at hl; rw [← hl]; rfl
    case slice e0 =>
      simp only [Option.map_eq_some_iff] at ht
      obtain ⟨l, hl, rfl⟩ := ht
      refine one (fun cs e => ?_) l hl ?_
      · subst e; simp [Cell.okWide, Cell.ok, hu] at hv
      · cases n with
        | zero => cases hl
        | succ n =>
          simp only [cellsTy, hu, Option.bind_eq_some_iff] at hl
          obtain ⟨r, _, hl⟩ := hl
          cases hb : (Nat.beq r.length (P.cellsOf e0) && Nat.blt 0 r.length) with
          | false => rw [hb] at hl; cases hl
          | true => rw [hb] at hl; simp only [cond_true, Option.some.injEq] at hl; rw [← hl]; rfl
    all_goals cases ht

theorem args_rep {H : Type} {enc : TypeId × Value → H} {P : Program} {W : World} {base : Nat} {sp : Nat → Bool} {held : Bool} {n : Nat} : ∀ {ts : List TypeId} {tys : List (Bool × List Cell)} {vs : List Value} {ds : List (DataW H)} {p : List MemPlace},
    ts.mapM (argTy P n) = some tys → (∀ (j : Nat) t v, ts[j]? = some t → vs[j]? = some v → Value.okWide P W .any base t v) → DataW.TrodAll enc P W 0 sp held ts vs ds p →
    ∃ as : List AV, AllTyped tys as ∧ ∃ h : as.length = vs.length, ∀ i (hi : i < as.length), RepI W (fun k => k < W.heap.size) as[i] (vs[i]'(h ▸ hi))
  | [], tys, vs, ds, p, hm, _, h => by
    obtain ⟨rfl, _, _⟩ := ChangeShapes.trodAll_nil h
    cases hm
    exact ⟨[], .nil, rfl, fun i h => absurd h (by simp)⟩
  | t :: ts, tys, vs, ds, p, hm, hv, h => by
    obtain ⟨v, vs', d, ds', p', q, rfl, rfl, rfl, h1, h2⟩ := ChangeShapes.trodAll_cons h
    simp only [List.mapM_cons, Option.bind_eq_bind, Option.pure_def, Option.bind_eq_some_iff, Option.some.injEq] at hm
    obtain ⟨ty, hty, tys', htys, rfl⟩ := hm
    obtain ⟨a, ha, hr⟩ := arg_rep hty (hv 0 t v rfl rfl) h1
    obtain ⟨as, has, hl, hrs⟩ := args_rep htys (fun j t v h1 h2 => hv (j + 1) t v (by simpa using h1) (by simpa using h2)) h2
    refine ⟨a :: as, .cons ha has, by simp [hl], fun i hi => ?_⟩
    cases i with
    | zero => exact hr
    | succ i => exact hrs i (by simpa using hi)

theorem frz_bool_inv {d : Nat} {H : Heap} {a : AV} {b : Bool} (h : frz (d + 1) H a = some (.bool b)) : a = .bool b := by
  cases a
  case bool c => simpa using h
  case sl b' v o n =>
    rw [frz_sl] at h
    cases hr : rowsOf H b' v o n with
    | none => rw [hr] at h; cases h
    | some rows =>
      rw [hr, slF_some] at h
      split at h <;> cases h
  case agg cs => rw [frz_agg] at h; cases hr : frzAll (frz d H) cs <;> (rw [hr] at h; cases h)
  case tuple cs => rw [frz_tuple] at h; cases hr : frzAll (frz d H) cs <;> (rw [hr] at h; cases h)
  case iface t v => rw [frz_iface] at h; cases hr : frz d H v <;> (rw [hr] at h; cases h)
  case func f x y => rw [frz_func] at h; cases hr : frzAll (frz d H) x <;> cases hq : frzAll (frz d H) y <;> (rw [hr, hq] at h; cases h)
  case mref r =>
    rw [frz_mref] at h
    unfold mpF at h
    split at h
    · cases hz : frzAll (frz d H) _ <;> (rw [hz] at h; cases h)
    · cases h
  all_goals cases h
theorem give_bool_inv {d : Nat} {H : Heap} {a : AV} {b : Bool} (h : give (d + 2) H a = some (.bool b)) : a = .bool b := by
  cases a
  case bool c => simpa using h
  case sl b' v o n =>
    rw [give_sl] at h
    cases hr : rowsOf H b' v o n with
    | none => rw [hr] at h; cases h
    | some rows =>
      rw [hr, ownF_some] at h
      split at h <;> cases h
  case agg cs => rw [give_agg] at h; cases hr : frzAll (give (d + 1) H) cs <;> (rw [hr] at h; cases h)
  case tuple cs => rw [give_tuple] at h; cases hr : frzAll (give (d + 1) H) cs <;> (rw [hr] at h; cases h)
  case iface t v => rw [give_iface] at h; cases hr : give (d + 1) H v <;> (rw [hr] at h; cases h)
  case func f x y => exact frz_bool_inv h
  case mref r => exact frz_bool_inv h
  all_goals cases h
theorem answer_bool {H : Heap} {a : AV} {b : Bool} (h : answer H a = some (.bool b)) : a = .bool b := by
  unfold answer at h
  cases hc : (nodup (tops deep a) && apart (tops deep a) (unders H deep a) && (tops deep a).all (freeBlk H)) with
  | true =>
    rw [hc] at h
    exact give_bool_inv (d := 4) h
  | false =>
    rw [hc] at h
    exact frz_bool_inv (d := 5) h

/-- WHERE THE INTERPRETER ANSWERS true, THE MACHINE'S CALL RETURNS true, AND NOTHING THAT WAS THERE IS OTHERWISE. -/
theorem law_calls {P : Program} {Q : Prog1} (hQ : Q.Ok P) {law : FuncId} {n : Nat} {ts : List TypeId} {tys : List (Bool × List Cell)} (hts : ts.mapM (argTy P n) = some tys)
    (hlaw : ∀ as, AllTyped tys as → pure1 (C Q) law as = some (.bool true))
    {H : Type} {enc : TypeId × Value → H} {W : World} {base : Nat} {sp : Nat → Bool} {held : Bool} {args : Array Value} {ds : List (DataW H)} {p : List MemPlace}
    (hv : ∀ (j : Nat) t v, ts[j]? = some t → args[j]? = some v → Value.okWide P W .any base t v) (hA : DataW.TrodAll enc P W 0 sp held ts args.toList ds p) :
    Calls P law args W fun e W' => e = .returned (.bool true) ∧ RowKit.Below W.heap.size W W' := by
  obtain ⟨as, has, hl, hr⟩ := args_rep hts (fun j t v h1 h2 => hv j t v h1 (by simpa using h2)) hA
  have hp := hlaw as has
  simp only [pure1, Option.bind_eq_some_iff] at hp
  obtain ⟨⟨a, H'⟩, hc, ha⟩ := hp
  have hab := answer_bool ha
  subst hab
  obtain ⟨_, _, hcall⟩ := C_sound hQ law as [] _ H' hc
  let c : Cx := ⟨W, fun k => k < W.heap.size, fun _ _ => none, fun _ _ => False⟩
  have g : Good c H'.length [] := {
    le := by simp
    nm := fun b u h => h.elim
    ver := fun b u k h => h.elim
    rn := fun b u l h => by cases h
    inj := fun b u l b' u' l' h => by cases h
    dlt := fun k h => h
    disj := fun k b u l _ h => by cases h
    tot := fun b k h => by simp at h
    one := fun b u l k h => by cases h
    rod := fun b k l h => by simp at h }
  have hrep : RepL c as args.toList := ⟨hl, fun i hi => .imm (hr i hi)⟩
  have := hcall c H'.length args.toList (Nat.le_refl _) g hrep
  simp only [Array.toArray_toList] at this
  refine this.mono fun e W' hb => ?_
  cases e with
  | returned v =>
    obtain ⟨c', rfl, _, hr', hn⟩ := hb
    refine ⟨?_, ⟨hn.os, hn.tape, hn.output, hn.size, fun k hk => hn.keep k hk (fun b u l h => by cases h)⟩⟩
    cases hr' with
    | imm h => cases h; rfl
  | outgrown => exact hb.elim
  | panicked x => exact hb.elim

end Go.Abs
