/- Slices of numbers, and of truth values, as rows. Conditions: those of each lemma. -/
import Derived.Test.YtjjcfcbhelecgaaGreatAbsEv
set_option linter.unusedVariables false
set_option linter.unusedSimpArgs false
namespace Go.Abs
/-- Numbers, one a row. -/
def nums (k : IntKind) (l : List Int) : Rows := l.map fun x => [.int k x]
def bls (l : List Bool) : Rows := l.map fun x => [.bool x]
section
variable {k : IntKind} {l m : List Int} {H : Heap} {d : Nat}
@[simp] theorem nums_length : (nums k l).length = l.length := by simp [nums]
@[simp] theorem nums_nil : nums k [] = [] := rfl
@[simp] theorem nums_isEmpty : (nums k l).isEmpty = l.isEmpty := by cases l <;> rfl
theorem nums_cons (x : Int) : nums k (x :: l) = [.int k x] :: nums k l := rfl
theorem nums_one (x : Int) : nums k [x] = [[.int k x]] := rfl
theorem nums_append : nums k (l ++ m) = nums k l ++ nums k m := List.map_append
@[simp] theorem nums_snoc (x : Int) : nums k l ++ [[.int k x]] = nums k (l ++ [x]) := by simp [nums]
@[simp] theorem nums_app : nums k l ++ nums k m = nums k (l ++ m) := List.map_append.symm
@[simp] theorem nums_take (n : Nat) : List.take n (nums k l) = nums k (l.take n) := List.map_take.symm
@[simp] theorem nums_drop (n : Nat) : List.drop n (nums k l) = nums k (l.drop n) := List.map_drop.symm
@[simp] theorem nums_set (i : Nat) (x : Int) : (nums k l).set i [.int k x] = nums k (l.set i x) := List.map_set.symm
def oneN (k : IntKind) : Option Int → Option Row
  | some x => some [.int k x]
  | none => none
@[simp] theorem oneN_some (x : Int) : oneN k (some x) = some [.int k x] := rfl
@[simp] theorem nums_get (i : Nat) : (nums k l)[i]? = oneN k l[i]? := by
  simp only [nums, List.getElem?_map]; cases l[i]? <;> rfl
@[simp] theorem nums_rep (n : Nat) (x : Int) : List.replicate n [AV.int k x] = nums k (List.replicate n x) := by simp [nums]
@[simp] theorem nums_eq_nil : nums k l = [] ↔ l = [] := by cases l <;> simp [nums]
@[simp] theorem szOk_nums : szOk 1 (nums k l) = true := szOk_iff.2 (fun r hr => by obtain ⟨x, _, rfl⟩ := List.mem_map.1 hr; rfl)
@[simp] theorem frzRows_nums : frzRows (frz (d + 1) H) (nums k l) = some (nums k l) :=
  frzRows_id (fun r hr a ha => by obtain ⟨x, _, rfl⟩ := List.mem_map.1 hr; rw [List.mem_singleton.1 ha]; rfl)
@[simp] theorem metRows_nums : metRows (met (d + 1) H) (nums k l) = [] :=
  metRows_no (fun r hr a ha => by obtain ⟨x, _, rfl⟩ := List.mem_map.1 hr; rw [List.mem_singleton.1 ha]; rfl)
@[simp] theorem metRows_refs_nums : metRows (refs d) (nums k l) = [] :=
  metRows_no (fun r hr a ha => by obtain ⟨x, _, rfl⟩ := List.mem_map.1 hr; rw [List.mem_singleton.1 ha]; cases d <;> rfl)
@[simp] theorem lstRows_nums : lstRows (hasLst (d + 1)) (nums k l) = false :=
  lstRows_no (fun r hr a ha => by obtain ⟨x, _, rfl⟩ := List.mem_map.1 hr; rw [List.mem_singleton.1 ha]; rfl)
@[simp] theorem cloRows_nums : cloRows (clo (d + 1)) (nums k l) = true := by
  induction l with
  | nil => rfl
  | cons x l ih =>
    have h : clo (d + 1) (.int k x) = true := rfl
    simp only [nums_cons, cloRows, cloAll, h, ih, Bool.and_self]
end
section
variable {l m : List Bool} {H : Heap} {d : Nat}
@[simp] theorem bls_length : (bls l).length = l.length := by simp [bls]
@[simp] theorem bls_nil : bls [] = [] := rfl
theorem bls_cons (x : Bool) : bls (x :: l) = [.bool x] :: bls l := rfl
@[simp] theorem bls_snoc (x : Bool) : bls l ++ [[.bool x]] = bls (l ++ [x]) := by simp [bls]
@[simp] theorem bls_app : bls l ++ bls m = bls (l ++ m) := List.map_append.symm
@[simp] theorem bls_take (n : Nat) : List.take n (bls l) = bls (l.take n) := List.map_take.symm
@[simp] theorem bls_drop (n : Nat) : List.drop n (bls l) = bls (l.drop n) := List.map_drop.symm
@[simp] theorem bls_set (i : Nat) (x : Bool) : (bls l).set i [.bool x] = bls (l.set i x) := List.map_set.symm
def oneB : Option Bool → Option Row
  | some x => some [.bool x]
  | none => none
@[simp] theorem oneB_some (x : Bool) : oneB (some x) = some [.bool x] := rfl
@[simp] theorem bls_get (i : Nat) : (bls l)[i]? = oneB l[i]? := by
  simp only [bls, List.getElem?_map]; cases l[i]? <;> rfl
@[simp] theorem bls_rep (n : Nat) (x : Bool) : List.replicate n [AV.bool x] = bls (List.replicate n x) := by simp [bls]
@[simp] theorem bls_eq_nil : bls l = [] ↔ l = [] := by cases l <;> simp [bls]
@[simp] theorem szOk_bls : szOk 1 (bls l) = true := szOk_iff.2 (fun r hr => by obtain ⟨x, _, rfl⟩ := List.mem_map.1 hr; rfl)
@[simp] theorem frzRows_bls : frzRows (frz (d + 1) H) (bls l) = some (bls l) :=
  frzRows_id (fun r hr a ha => by obtain ⟨x, _, rfl⟩ := List.mem_map.1 hr; rw [List.mem_singleton.1 ha]; rfl)
@[simp] theorem metRows_bls : metRows (met (d + 1) H) (bls l) = [] :=
  metRows_no (fun r hr a ha => by obtain ⟨x, _, rfl⟩ := List.mem_map.1 hr; rw [List.mem_singleton.1 ha]; rfl)
@[simp] theorem metRows_refs_bls : metRows (refs d) (bls l) = [] :=
  metRows_no (fun r hr a ha => by obtain ⟨x, _, rfl⟩ := List.mem_map.1 hr; rw [List.mem_singleton.1 ha]; cases d <;> rfl)
@[simp] theorem lstRows_bls : lstRows (hasLst (d + 1)) (bls l) = false :=
  lstRows_no (fun r hr a ha => by obtain ⟨x, _, rfl⟩ := List.mem_map.1 hr; rw [List.mem_singleton.1 ha]; rfl)
end

@[simp] theorem take_snoc1 {α : Type} (l : List α) (x : α) : List.take (l.length + 1) (l ++ [x]) = l ++ [x] := List.take_of_length_le (by simp)

/-! ### The first place where two lists differ -/
def diff {α : Type} [DecidableEq α] (a b : List α) : Nat := (a.zip b).findIdx fun p => decide (p.1 ≠ p.2)
section
variable {α : Type} [DecidableEq α] {a b : List α}
theorem diff_before (h : a.length = b.length) {i : Nat} (hi : i < diff a b) (ha : i < a.length) (hb : i < b.length) : a[i] = b[i] := by
  have h1 := List.not_of_lt_findIdx hi
  simp only [List.getElem_zip, decide_eq_true_eq, ne_eq, Decidable.not_not, Bool.not_eq_true] at h1
  simpa using h1
theorem diff_le : diff a b ≤ (a.zip b).length := List.findIdx_le_length
theorem diff_at (h : a.length = b.length) (hd : diff a b < a.length) : a[diff a b] ≠ b[diff a b]'(h ▸ hd) := by
  have hz : diff a b < (a.zip b).length := by simp [List.length_zip]; omega
  have := List.findIdx_getElem (xs := a.zip b) (w := hz)
  simpa [List.getElem_zip, diff] using this
theorem diff_eq (h : a.length = b.length) (hd : ¬ diff a b < a.length) : a = b := by
  refine List.ext_getElem h fun i h1 h2 => diff_before h ?_ h1 h2
  omega
theorem diff_ne (h : a.length = b.length) (hd : diff a b < a.length) : a ≠ b := fun e => by
  subst e
  exact diff_at h hd rfl
theorem diff_lt (h : a.length = b.length) : diff a b ≤ a.length := by
  have := diff_le (a := a) (b := b)
  simp [List.length_zip] at this
  omega
end
/-- There is none, or a first one. -/
theorem first_cases {α : Type} (p : α → Bool) (l : List α) : (l.any p = false ∧ ∀ i (hi : i < l.length), p l[i] = false) ∨
    ∃ m, ∃ hm : m < l.length, l.any p = true ∧ p l[m] = true ∧ ∀ i (hi : i < m), p (l[i]'(by omega)) = false := by
  by_cases h : l.findIdx p < l.length
  · refine .inr ⟨l.findIdx p, h, ?_, List.findIdx_getElem (w := h), fun i hi => by simpa using List.not_of_lt_findIdx hi⟩
    exact List.any_eq_true.2 ⟨_, List.getElem_mem h, List.findIdx_getElem (w := h)⟩
  · have h1 : ∀ i (hi : i < l.length), p l[i] = false := fun i hi => by
      cases hp : p l[i] with
      | false => rfl
      | true => exact absurd (List.findIdx_lt_length_of_exists ⟨l[i], List.getElem_mem hi, hp⟩) h
    refine .inl ⟨?_, h1⟩
    cases hh : l.any p with
    | false => rfl
    | true =>
      obtain ⟨x, hx, hp⟩ := List.any_eq_true.1 hh
      obtain ⟨i, hi, rfl⟩ := List.mem_iff_getElem.1 hx
      rw [h1 i hi] at hp
      cases hp
end Go.Abs
