/- Tables and rows out of the row's data. -/
import Derived.Test.YtpphdaphbkepfaaHp2
set_option linter.unusedVariables false
namespace Go.Proofs.Ytpphdaphbkepfaa.Aw
open Go Go.RowKit
def FitsK (K : List (List Int)) (S : List Int) : Prop := S.length ≤ 2000000000000000000 ∧ K.length ≤ 2000000000000000000 ∧ ∀ x ∈ K, x.length ≤ 2000000000000000000
theorem FitsK.nil {K : List (List Int)} {S : List Int} (h : FitsK K S) : FitsK K [] := ⟨by simp, h.2.1, h.2.2⟩
def shKeyed : List Sh := [.sl 24 (.sl 8 (.int .i64)), .sl 8 (.int .i64)]
theorem decInts2 {rows : List (List IC)} (h : ∀ r ∈ rows, Dec (.int .i64) r) : ∃ l : List Int, rows = hid real (List.map encI l) := by
  obtain ⟨l, rfl, _⟩ := decInts h
  exact ⟨l, rfl⟩
theorem decKeys {rows : List (List IC)} (h : ∀ r ∈ rows, Dec (.sl 8 (.int .i64)) r) : ∃ K : List (List Int), rows = hid real (List.map (encK real) K) ∧ ∀ x ∈ K, x.length ≤ 2000000000000000000 := by
  induction rows with
  | nil => exact ⟨[], rfl, by simp⟩
  | cons r rs ih =>
    obtain ⟨K, hK, hb⟩ := ih fun x hx => h x (List.mem_cons_of_mem _ hx)
    obtain ⟨q, rfl, hq, hl⟩ := h r List.mem_cons_self
    obtain ⟨l, rfl⟩ := decInts2 hq
    refine ⟨l :: K, by rw [hK]; rfl, fun x hx => ?_⟩
    rcases List.mem_cons.1 hx with rfl | hx
    · have : (List.map encI x).length * 8 ≤ 140737488351232 := hl
      rw [List.length_map] at this
      omega
    · exact hb x hx
theorem decKeyed {ics : List IC} (h : Decs shKeyed ics) : ∃ (K : List (List Int)) (S : List Int), ics = [.sl 1 false (hid real (List.map (encK real) K)), .sl 1 false (hid real (List.map encI S))] ∧ FitsK K S := by
  obtain ⟨a1, b1, rfl, ⟨r1, rfl, h1, l1⟩, a2, b2, rfl, ⟨r2, rfl, h2, l2⟩, rfl⟩ := h
  obtain ⟨K, rfl, hK⟩ := decKeys h1
  obtain ⟨S, rfl⟩ := decInts2 h2
  have e1 : (List.map (encK real) K).length * 24 ≤ 140737488351232 := l1
  have e2 : (List.map encI S).length * 8 ≤ 140737488351232 := l2
  rw [List.length_map] at e1 e2
  exact ⟨K, S, rfl, by omega, by omega, hK⟩
theorem decRow {x : IC} (h : Dec (.sl 8 (.int .i64)) [x]) : ∃ l : List Int, x = .sl 1 false (hid real (List.map encI l)) := by
  obtain ⟨r, e, h1, h2⟩ := h
  obtain ⟨l, rfl⟩ := decInts2 h1
  simp only [List.cons.injEq, and_true] at e
  exact ⟨l, e⟩
theorem decRows {x : IC} (h : Dec (.sl 24 (.sl 8 (.int .i64))) [x]) : ∃ K : List (List Int), x = .sl 1 false (hid real (List.map (encK real) K)) ∧ FitsK K [] := by
  obtain ⟨r, e, h1, h2⟩ := h
  obtain ⟨K, rfl, hK⟩ := decKeys h1
  simp only [List.cons.injEq, and_true] at e
  have e1 : (List.map (encK real) K).length * 24 ≤ 140737488351232 := h2
  rw [List.length_map] at e1
  exact ⟨K, e, by simp, by omega, hK⟩
end Go.Proofs.Ytpphdaphbkepfaa.Aw
