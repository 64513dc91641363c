import Derived.Test.YtjjcfcbhelecgaaGreatF5
import Derived.Test.YtjjcfcbhelecgaaGreatAbsLaw
set_option linter.unusedVariables false
set_option linter.unusedSimpArgs false
namespace Go.Abs
def cI : Cell := .int .i64
def cSmp : List Cell := [.sl [cI], cI]
def cCnf : List Cell := [cI, cI, cI, cI, cI, cI, cI, cI, cI, cI, cI, cI, cI, cI, .int .u64, .sl cSmp]
theorem has_int {k : IntKind} {a : AV} (h : Has (.int k) a) : ∃ n, a = .int k n ∧ (Lit.int k n).wf = true := by
  cases h; exact ⟨_, rfl, by assumption⟩
theorem has_sl {row : List Cell} {a : AV} (h : Has (.sl row) a) : ∃ es full, a = .lst es full ∧ (∀ r ∈ es, r.length = row.length) ∧ es.length ≤ maxLen ∧ ∀ r ∈ es, ∀ i (h1 : i < r.length) (h2 : i < row.length), Has row[i] r[i] := by
  cases h; exact ⟨_, _, rfl, by assumption, by assumption, by assumption⟩
theorem rows_smps : ∀ {es : Rows}, (∀ r ∈ es, r.length = cSmp.length) → (∀ r ∈ es, ∀ i (h1 : i < r.length) (h2 : i < cSmp.length), Has cSmp[i] r[i]) → ∃ l, es = smps l
  | [], _, _ => ⟨[], rfl⟩
  | r :: es, hl, ht => by
    obtain ⟨l, rfl⟩ := rows_smps (es := es) (fun x hx => hl x (by simp [hx])) (fun x hx => ht x (by simp [hx]))
    have h1 := hl r (by simp)
    match r, h1 with
    | [a, b], _ =>
      have ha := ht [a, b] (by simp) 0 (by simp) (by simp [cSmp])
      have hb := ht [a, b] (by simp) 1 (by simp) (by simp [cSmp])
      obtain ⟨xs, f, rfl, _⟩ := has_sl (row := [cI]) ha
      obtain ⟨y, rfl, _⟩ := has_int (k := .i64) hb
      exact ⟨⟨xs, f, y⟩ :: l, rfl⟩
theorem typed_cnf {row : Row} (h : Typed cCnf row) : ∃ c : Cnf, row = c.cells ∧ c.l.length ≤ 9223372036854775807 := by
  obtain ⟨hl, ht⟩ := h
  match row, hl with
  | [a0, a1, a2, a3, a4, a5, a6, a7, a8, a9, a10, a11, a12, a13, a14, a15], _ =>
    obtain ⟨n0, rfl, _⟩ := has_int (k := .i64) (ht 0 (by simp) (by simp [cCnf]))
    obtain ⟨n1, rfl, _⟩ := has_int (k := .i64) (ht 1 (by simp) (by simp [cCnf]))
    obtain ⟨n2, rfl, _⟩ := has_int (k := .i64) (ht 2 (by simp) (by simp [cCnf]))
    obtain ⟨n3, rfl, _⟩ := has_int (k := .i64) (ht 3 (by simp) (by simp [cCnf]))
    obtain ⟨n4, rfl, _⟩ := has_int (k := .i64) (ht 4 (by simp) (by simp [cCnf]))
    obtain ⟨n5, rfl, _⟩ := has_int (k := .i64) (ht 5 (by simp) (by simp [cCnf]))
    obtain ⟨n6, rfl, _⟩ := has_int (k := .i64) (ht 6 (by simp) (by simp [cCnf]))
    obtain ⟨n7, rfl, _⟩ := has_int (k := .i64) (ht 7 (by simp) (by simp [cCnf]))
    obtain ⟨n8, rfl, _⟩ := has_int (k := .i64) (ht 8 (by simp) (by simp [cCnf]))
    obtain ⟨n9, rfl, _⟩ := has_int (k := .i64) (ht 9 (by simp) (by simp [cCnf]))
    obtain ⟨n10, rfl, _⟩ := has_int (k := .i64) (ht 10 (by simp) (by simp [cCnf]))
    obtain ⟨n11, rfl, _⟩ := has_int (k := .i64) (ht 11 (by simp) (by simp [cCnf]))
    obtain ⟨n12, rfl, _⟩ := has_int (k := .i64) (ht 12 (by simp) (by simp [cCnf]))
    obtain ⟨n13, rfl, _⟩ := has_int (k := .i64) (ht 13 (by simp) (by simp [cCnf]))
    obtain ⟨n14, rfl, _⟩ := has_int (k := .u64) (ht 14 (by simp) (by simp [cCnf]))
    obtain ⟨es, full, rfl, h1, h2, h3⟩ := has_sl (row := cSmp) (ht 15 (by simp) (by simp [cCnf]))
    obtain ⟨l, rfl⟩ := rows_smps h1 h3
    refine ⟨⟨n0, n1, n2, n3, n4, n5, n6, n7, n8, n9, n10, n11, n12, n13, n14, l, full⟩, rfl, ?_⟩
    rw [smps_length] at h2
    simpa [maxLen] using h2
theorem confBends_law (as : List AV) (h : AllTyped [(true, cCnf)] as) : pure1 (C Q) 5 as = some (.bool true) := by
  cases h with
  | cons h hs =>
    cases hs
    cases h with
    | agg tys row h =>
      obtain ⟨c, rfl, hb⟩ := typed_cnf h
      exact confBends c hb
end Go.Abs
