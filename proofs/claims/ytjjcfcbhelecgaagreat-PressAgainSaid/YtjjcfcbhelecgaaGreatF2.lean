import Derived.Test.YtjjcfcbhelecgaaGreatF1
set_option linter.unusedVariables false
set_option linter.unusedSimpArgs false
namespace Go.Abs
def findI (p : Row → Bool) (es : Rows) : Int := if es.findIdx p < es.length then es.findIdx p else -1
theorem findI_any (p : Row → Bool) (es : Rows) : decide (0 ≤ findI p es) = es.any p := by
  unfold findI
  by_cases h : es.findIdx p < es.length
  · rw [if_pos h]
    have hp : p es[es.findIdx p] = true := List.findIdx_getElem (w := h)
    have : es.any p = true := List.any_eq_true.2 ⟨_, List.getElem_mem h, hp⟩
    rw [this]; simp
  · rw [if_neg h]
    have : es.any p = false := by
      cases hh : es.any p with
      | false => rfl
      | true =>
        obtain ⟨x, hx, hp⟩ := List.any_eq_true.1 hh
        exact absurd (List.findIdx_lt_length_of_exists ⟨x, hx, hp⟩) h
    rw [this]; simp
/-- A call of a closure: it answers r, and makes new blocks at the most. -/
def Clo (H0 : Heap) (g : FuncId) (as : List AV) (r : AV) : Prop := ∀ G, ∃ G', doCall (C Q) g as .auto (H0 ++ G) = some (r, H0 ++ G')
def headA (r : Row) : AV := r.headD .nilif
theorem unrow_head {r : Row} (h : r.length = 1) : unrow false r = some (headA r) := by
  match r, h with
  | [a], _ => rfl
theorem findIdx_no {p : Row → Bool} {es : Rows} (hx : ¬ es.findIdx p < es.length) (i : Nat) (hi : i < es.length) : p es[i] = false := by
  cases hh : p es[i] with
  | false => rfl
  | true => exact absurd (List.findIdx_lt_length_of_exists ⟨es[i], List.getElem_mem hi, hh⟩) hx

theorem index_sample (H0 : Heap) (es : Rows) (full : Bool) (g : FuncId) (cs : List AV) (p : Row → Bool) (hb : es.length ≤ 9223372036854775807) (hsz : ∀ r ∈ es, r.length = 2) (hg : ∀ r ∈ es, Clo H0 g (.agg r :: cs) (.bool (p r))) (H : Heap) (hH : ∃ G, H = H0 ++ G) :
    WP (C Q 151 [.lst es full, .func (.func g) [] cs] H) (fun x => x.1 = .int .i64 (findI p es) ∧ ∃ G, x.2 = H0 ++ G) := by
  refine C_W c151 (es.length + 1) (by kernel_rfl) (by kernel_rfl) rfl ?_
  simp (disch := omega) [c151]
  by_cases hx : es.findIdx p < es.length
  · refine W_loop (fun i => [(0, .lst es full), (1, .func (.func g) [] cs), (7, .int .i64 es.length), (8, .int .i64 i)]) (fun i H => ∃ G, H = H0 ++ G) (es.findIdx p) (by omega) (by simp) hH ?_ ?_
    · rintro i hi H ⟨G, rfl⟩
      have hi' : i < es.length := by omega
      have hir : es[i]? = some es[i] := by simp [hi']
      have hl : (es[i]).length = 2 := hsz _ (List.getElem_mem hi')
      have ht : List.take 2 es[i] = es[i] := List.take_of_length_le (by omega)
      have hp : p es[i] = false := by simpa using List.not_of_lt_findIdx hi
      obtain ⟨G', hG⟩ := hg _ (List.getElem_mem hi') G
      rw [hp] at hG
      simp (disch := omega) [*, -doCall_auto]
    · rintro H ⟨G, rfl⟩
      have hir : es[es.findIdx p]? = some es[es.findIdx p] := by simp [hx]
      have hl : (es[es.findIdx p]).length = 2 := hsz _ (List.getElem_mem hx)
      have ht : List.take 2 es[es.findIdx p] = es[es.findIdx p] := List.take_of_length_le (by omega)
      have hp : p es[es.findIdx p] = true := List.findIdx_getElem (w := hx)
      obtain ⟨G', hG⟩ := hg _ (List.getElem_mem hx) G
      rw [hp] at hG
      simp (disch := omega) [*, -doCall_auto, findI]
  · refine W_loop (fun i => [(0, .lst es full), (1, .func (.func g) [] cs), (7, .int .i64 es.length), (8, .int .i64 i)]) (fun i H => ∃ G, H = H0 ++ G) es.length (by omega) (by simp) hH ?_ ?_
    · rintro i hi H ⟨G, rfl⟩
      have hir : es[i]? = some es[i] := by simp [hi]
      have hl : (es[i]).length = 2 := hsz _ (List.getElem_mem hi)
      have ht : List.take 2 es[i] = es[i] := List.take_of_length_le (by omega)
      have hp := findIdx_no hx i hi
      obtain ⟨G', hG⟩ := hg _ (List.getElem_mem hi) G
      rw [hp] at hG
      simp (disch := omega) [*, -doCall_auto]
    · rintro H ⟨G, rfl⟩
      simp (disch := omega) [*, findI]
/-- Is there one? (With a closure that leads to memory of the caller's own.) -/
theorem contains_sample (H0 : Heap) (es : Rows) (full : Bool) (g : FuncId) (cs : List AV) (p : Row → Bool) (hno : ∀ H, frzAll (frz 5 H) cs = none) (hb : es.length ≤ 9223372036854775807) (hsz : ∀ r ∈ es, r.length = 2) (hg : ∀ r ∈ es, Clo H0 g (.agg r :: cs) (.bool (p r))) (H : Heap) (hH : ∃ G, H = H0 ++ G) :
    WP (C Q 74 [.lst es full, .func (.func g) [] cs] H) (fun x => x.1 = .bool (es.any p) ∧ ∃ G, x.2 = H0 ++ G) := by
  obtain ⟨⟨a, H'⟩, h1, h2, G', h3⟩ := index_sample H0 es full g cs p hb hsz hg H hH
  simp only at h2 h3
  subst h2 h3
  refine C_W c74 0 (by kernel_rfl) (by kernel_rfl) rfl ?_
  simp (disch := omega) [c74, h1, hno, findI_any]

theorem index_int (H0 : Heap) (es : Rows) (full : Bool) (g : FuncId) (cs : List AV) (p : Row → Bool) (hb : es.length ≤ 9223372036854775807) (hsz : ∀ r ∈ es, r.length = 1) (hg : ∀ r ∈ es, Clo H0 g (headA r :: cs) (.bool (p r))) (H : Heap) (hH : ∃ G, H = H0 ++ G) :
    WP (C Q 143 [.lst es full, .func (.func g) [] cs] H) (fun x => x.1 = .int .i64 (findI p es) ∧ ∃ G, x.2 = H0 ++ G) := by
  refine C_W c143 (es.length + 1) (by kernel_rfl) (by kernel_rfl) rfl ?_
  simp (disch := omega) [c143]
  by_cases hx : es.findIdx p < es.length
  · refine W_loop (fun i => [(0, .lst es full), (1, .func (.func g) [] cs), (7, .int .i64 es.length), (8, .int .i64 i)]) (fun i H => ∃ G, H = H0 ++ G) (es.findIdx p) (by omega) (by simp) hH ?_ ?_
    · rintro i hi H ⟨G, rfl⟩
      have hi' : i < es.length := by omega
      have hir : es[i]? = some es[i] := by simp [hi']
      have hl : (es[i]).length = 1 := hsz _ (List.getElem_mem hi')
      have ht : List.take 1 es[i] = es[i] := List.take_of_length_le (by omega)
      have hu : unrow false es[i] = some (headA es[i]) := unrow_head hl
      have hp : p es[i] = false := by simpa using List.not_of_lt_findIdx hi
      obtain ⟨G', hG⟩ := hg _ (List.getElem_mem hi') G
      rw [hp] at hG
      simp (disch := omega) [*, -doCall_auto]
    · rintro H ⟨G, rfl⟩
      have hir : es[es.findIdx p]? = some es[es.findIdx p] := by simp [hx]
      have hl : (es[es.findIdx p]).length = 1 := hsz _ (List.getElem_mem hx)
      have ht : List.take 1 es[es.findIdx p] = es[es.findIdx p] := List.take_of_length_le (by omega)
      have hu : unrow false es[es.findIdx p] = some (headA es[es.findIdx p]) := unrow_head hl
      have hp : p es[es.findIdx p] = true := List.findIdx_getElem (w := hx)
      obtain ⟨G', hG⟩ := hg _ (List.getElem_mem hx) G
      rw [hp] at hG
      simp (disch := omega) [*, -doCall_auto, findI]
  · refine W_loop (fun i => [(0, .lst es full), (1, .func (.func g) [] cs), (7, .int .i64 es.length), (8, .int .i64 i)]) (fun i H => ∃ G, H = H0 ++ G) es.length (by omega) (by simp) hH ?_ ?_
    · rintro i hi H ⟨G, rfl⟩
      have hir : es[i]? = some es[i] := by simp [hi]
      have hl : (es[i]).length = 1 := hsz _ (List.getElem_mem hi)
      have ht : List.take 1 es[i] = es[i] := List.take_of_length_le (by omega)
      have hu : unrow false es[i] = some (headA es[i]) := unrow_head hl
      have hp := findIdx_no hx i hi
      obtain ⟨G', hG⟩ := hg _ (List.getElem_mem hi) G
      rw [hp] at hG
      simp (disch := omega) [*, -doCall_auto]
    · rintro H ⟨G, rfl⟩
      simp (disch := omega) [*, findI]
/-- Is there one? (With a closure that leads to memory of the caller's own.) -/
theorem contains_int (H0 : Heap) (es : Rows) (full : Bool) (g : FuncId) (cs : List AV) (p : Row → Bool) (hno : ∀ H, frzAll (frz 5 H) cs = none) (hb : es.length ≤ 9223372036854775807) (hsz : ∀ r ∈ es, r.length = 1) (hg : ∀ r ∈ es, Clo H0 g (headA r :: cs) (.bool (p r))) (H : Heap) (hH : ∃ G, H = H0 ++ G) :
    WP (C Q 66 [.lst es full, .func (.func g) [] cs] H) (fun x => x.1 = .bool (es.any p) ∧ ∃ G, x.2 = H0 ++ G) := by
  obtain ⟨⟨a, H'⟩, h1, h2, G', h3⟩ := index_int H0 es full g cs p hb hsz hg H hH
  simp only at h2 h3
  subst h2 h3
  refine C_W c66 0 (by kernel_rfl) (by kernel_rfl) rfl ?_
  simp (disch := omega) [c66, h1, hno, findI_any]

theorem index_u64 (H0 : Heap) (es : Rows) (full : Bool) (g : FuncId) (cs : List AV) (p : Row → Bool) (hb : es.length ≤ 9223372036854775807) (hsz : ∀ r ∈ es, r.length = 1) (hg : ∀ r ∈ es, Clo H0 g (headA r :: cs) (.bool (p r))) (H : Heap) (hH : ∃ G, H = H0 ++ G) :
    WP (C Q 209 [.lst es full, .func (.func g) [] cs] H) (fun x => x.1 = .int .i64 (findI p es) ∧ ∃ G, x.2 = H0 ++ G) := by
  refine C_W c209 (es.length + 1) (by kernel_rfl) (by kernel_rfl) rfl ?_
  simp (disch := omega) [c209]
  by_cases hx : es.findIdx p < es.length
  · refine W_loop (fun i => [(0, .lst es full), (1, .func (.func g) [] cs), (7, .int .i64 es.length), (8, .int .i64 i)]) (fun i H => ∃ G, H = H0 ++ G) (es.findIdx p) (by omega) (by simp) hH ?_ ?_
    · rintro i hi H ⟨G, rfl⟩
      have hi' : i < es.length := by omega
      have hir : es[i]? = some es[i] := by simp [hi']
      have hl : (es[i]).length = 1 := hsz _ (List.getElem_mem hi')
      have ht : List.take 1 es[i] = es[i] := List.take_of_length_le (by omega)
      have hu : unrow false es[i] = some (headA es[i]) := unrow_head hl
      have hp : p es[i] = false := by simpa using List.not_of_lt_findIdx hi
      obtain ⟨G', hG⟩ := hg _ (List.getElem_mem hi') G
      rw [hp] at hG
      simp (disch := omega) [*, -doCall_auto]
    · rintro H ⟨G, rfl⟩
      have hir : es[es.findIdx p]? = some es[es.findIdx p] := by simp [hx]
      have hl : (es[es.findIdx p]).length = 1 := hsz _ (List.getElem_mem hx)
      have ht : List.take 1 es[es.findIdx p] = es[es.findIdx p] := List.take_of_length_le (by omega)
      have hu : unrow false es[es.findIdx p] = some (headA es[es.findIdx p]) := unrow_head hl
      have hp : p es[es.findIdx p] = true := List.findIdx_getElem (w := hx)
      obtain ⟨G', hG⟩ := hg _ (List.getElem_mem hx) G
      rw [hp] at hG
      simp (disch := omega) [*, -doCall_auto, findI]
  · refine W_loop (fun i => [(0, .lst es full), (1, .func (.func g) [] cs), (7, .int .i64 es.length), (8, .int .i64 i)]) (fun i H => ∃ G, H = H0 ++ G) es.length (by omega) (by simp) hH ?_ ?_
    · rintro i hi H ⟨G, rfl⟩
      have hir : es[i]? = some es[i] := by simp [hi]
      have hl : (es[i]).length = 1 := hsz _ (List.getElem_mem hi)
      have ht : List.take 1 es[i] = es[i] := List.take_of_length_le (by omega)
      have hu : unrow false es[i] = some (headA es[i]) := unrow_head hl
      have hp := findIdx_no hx i hi
      obtain ⟨G', hG⟩ := hg _ (List.getElem_mem hi) G
      rw [hp] at hG
      simp (disch := omega) [*, -doCall_auto]
    · rintro H ⟨G, rfl⟩
      simp (disch := omega) [*, findI]
/-- Is there one? (With a closure that leads to memory of the caller's own.) -/
theorem contains_u64 (H0 : Heap) (es : Rows) (full : Bool) (g : FuncId) (cs : List AV) (p : Row → Bool) (hno : ∀ H, frzAll (frz 5 H) cs = none) (hb : es.length ≤ 9223372036854775807) (hsz : ∀ r ∈ es, r.length = 1) (hg : ∀ r ∈ es, Clo H0 g (headA r :: cs) (.bool (p r))) (H : Heap) (hH : ∃ G, H = H0 ++ G) :
    WP (C Q 145 [.lst es full, .func (.func g) [] cs] H) (fun x => x.1 = .bool (es.any p) ∧ ∃ G, x.2 = H0 ++ G) := by
  obtain ⟨⟨a, H'⟩, h1, h2, G', h3⟩ := index_u64 H0 es full g cs p hb hsz hg H hH
  simp only at h2 h3
  subst h2 h3
  refine C_W c145 0 (by kernel_rfl) (by kernel_rfl) rfl ?_
  simp (disch := omega) [c145, h1, hno, findI_any]
end Go.Abs
