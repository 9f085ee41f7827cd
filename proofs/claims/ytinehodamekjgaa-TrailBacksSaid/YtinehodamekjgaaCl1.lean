/- Cells out of the row's data. -/
import Derived.Test.YtinehodamekjgaaTr10
set_option linter.unusedVariables false
namespace Go.Proofs.Ytinehodamekjgaa.Aw
open Go Go.RowKit
def shCells : List Sh := [.sl 8 (.int .i64), .sl 16 (.st [.int .i64, .int .i64]), .sl 8 (.int .i64)]
theorem decCells {ics : List IC} (h : Decs shCells ics) : ∃ c : Cl, ics = [.sl 1 false (ints c.V), .sl 2 false (nts c.N), .sl 1 false (ints c.M)] ∧ c.fits := by
  obtain ⟨a1, b1, rfl, ⟨r1, rfl, h1, l1⟩, a2, b2, rfl, ⟨r2, rfl, h2, l2⟩, a3, b3, rfl, ⟨r3, rfl, h3, l3⟩, rfl⟩ := h
  obtain ⟨V, rfl, _⟩ := decInts h1
  obtain ⟨N, rfl, _⟩ := decPairs h2
  obtain ⟨M, rfl, _⟩ := decInts h3
  refine ⟨⟨V, N, M⟩, rfl, ⟨?_, ?_, ?_⟩⟩
  · simp only [List.length_map] at l1; show V.length ≤ _; omega
  · simp only [List.length_map] at l2; show N.length ≤ _; omega
  · simp only [List.length_map] at l3; show M.length ≤ _; omega
end Go.Proofs.Ytinehodamekjgaa.Aw
