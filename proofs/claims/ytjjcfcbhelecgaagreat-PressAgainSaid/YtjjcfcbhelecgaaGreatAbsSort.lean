/- Rows of ints set in order. Conditions: none. -/
import Derived.Test.YtjjcfcbhelecgaaGreatAbsEv
set_option linter.unusedVariables false
set_option linter.unusedSimpArgs false
namespace Go.Abs
/-! ### The order of ints -/
def insI (x : Int) : List Int → List Int
  | [] => [x]
  | y :: l => if x ≤ y then x :: y :: l else y :: insI x l
def isortI : List Int → List Int
  | [] => []
  | x :: l => insI x (isortI l)
theorem insI_perm (x : Int) : ∀ l : List Int, (insI x l).Perm (x :: l)
  | [] => List.Perm.refl _
  | y :: l => by
    unfold insI
    split
    · exact List.Perm.refl _
    · exact ((insI_perm x l).cons y).trans (List.Perm.swap x y l)
theorem isortI_perm : ∀ l : List Int, (isortI l).Perm l
  | [] => List.Perm.refl _
  | x :: l => (insI_perm x _).trans ((isortI_perm l).cons x)
theorem insI_sorted (x : Int) : ∀ {l : List Int}, l.Pairwise (· ≤ ·) → (insI x l).Pairwise (· ≤ ·)
  | [], _ => by simp [insI]
  | y :: l, h => by
    unfold insI
    have hh := List.pairwise_cons.1 h
    split
    · rename_i hxy
      refine List.pairwise_cons.2 ⟨fun z hz => ?_, h⟩
      rcases List.mem_cons.1 hz with rfl | hz
      · exact hxy
      · exact Int.le_trans hxy (hh.1 z hz)
    · rename_i hxy
      refine List.pairwise_cons.2 ⟨fun z hz => ?_, insI_sorted x hh.2⟩
      rcases List.mem_cons.1 ((insI_perm x l).mem_iff.1 hz) with rfl | hz
      · omega
      · exact hh.1 z hz
theorem isortI_sorted : ∀ l : List Int, (isortI l).Pairwise (· ≤ ·)
  | [] => List.Pairwise.nil
  | x :: l => insI_sorted x (isortI_sorted l)
@[simp] theorem isortI_length (l : List Int) : (isortI l).length = l.length := (isortI_perm l).length_eq
theorem isortI_eq (l : List Int) : (l.mergeSort fun x y => decide (x ≤ y)) = isortI l := by
  have h1 : (l.mergeSort fun x y => decide (x ≤ y)).Pairwise (· ≤ ·) := by
    have := List.pairwise_mergeSort (le := fun x y : Int => decide (x ≤ y)) (fun a b c h1 h2 => by simp at h1 h2 ⊢; omega) (fun a b => by simp; omega) l
    exact this.imp (fun h => by simpa using h)
  exact List.Perm.eq_of_pairwise (fun a b _ _ h1 h2 => Int.le_antisymm h1 h2) h1 (isortI_sorted l) ((List.mergeSort_perm l _).trans (isortI_perm l).symm)

def ints64 : Rows → Option (List Int)
  | [] => some []
  | [.int .i64 n] :: l => (ints64 l).bind fun r => some (n :: r)
  | _ => none
theorem ints64_some : ∀ {es : Rows} {l : List Int}, ints64 es = some l → es = l.map fun x => [AV.int .i64 x]
  | [], l, h => by cases h; rfl
  | [.int .i64 n] :: es, l, h => by
    simp only [ints64, Option.bind_eq_some_iff, Option.some.injEq] at h
    obtain ⟨r, hr, rfl⟩ := h
    rw [ints64_some hr, List.map_cons]
  | [] :: _, _, h => by cases h
  | (.int .i64 _ :: _ :: _) :: _, _, h => by cases h
theorem ints64_map : ∀ l : List Int, ints64 (l.map fun x => [AV.int .i64 x]) = some l
  | [] => rfl
  | x :: l => by simp [ints64, ints64_map l]

def sortPrim (xs : List AV) (H : Heap) : Option (AV × Heap) :=
  match xs with
  | [.lst [] _] => some (.tuple [], H)
  | [.sl b v 0 n] => match H[b]? with
    | some ⟨v', false, .cells 1 es⟩ => if v' = v ∧ es.length = n ∧ n < 1099511627776 then (ints64 es).bind fun l => some (.tuple [], H.set b ⟨v, false, .cells 1 ((isortI l).map fun x => [AV.int .i64 x])⟩) else none
    | _ => none
  | _ => none

end Go.Abs
