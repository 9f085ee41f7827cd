/- TrailTwo's argument out of the row's data. -/
import Derived.Test.YtinehodamekjgaaCl1
import Derived.Test.YtinehodamekjgaaTr11
set_option linter.unusedVariables false
namespace Go.Proofs.Ytinehodamekjgaa.Aw
open Go Go.RowKit
def shTwo : List Sh := [.st shCells, .int .i64, .int .i64, .int .i64]
theorem decTwo {ics : List IC} (h : Decs shTwo ics) : ∃ (c : Cl) (x y z : Int), ics = [.sl 1 false (ints c.V), .sl 2 false (nts c.N), .sl 1 false (ints c.M), I x, I y, I z] ∧ c.fits := by
  obtain ⟨a, b, rfl, h1, a2, b2, rfl, ⟨x, rfl, _⟩, a3, b3, rfl, ⟨y, rfl, _⟩, a4, b4, rfl, ⟨z, rfl, _⟩, rfl⟩ := h
  obtain ⟨c, rfl, hf⟩ := decCells h1
  exact ⟨c, x, y, z, rfl, hf⟩
end Go.Proofs.Ytinehodamekjgaa.Aw
