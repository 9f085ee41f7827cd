/- TrailBacks' arguments out of the row's data. -/
import Derived.Test.YtinehodamekjgaaCl1
import Derived.Test.YtinehodamekjgaaBk3
set_option linter.unusedVariables false
namespace Go.Proofs.Ytinehodamekjgaa.Aw
open Go Go.RowKit
theorem decTriples {rows : List (List IC)} (h : ∀ r ∈ rows, Dec (.st [.int .i64, .int .i64, .int .i64]) r) : ∃ l : List (Int × Int × Int), rows = actRows l := by
  induction rows with
  | nil => exact ⟨[], rfl⟩
  | cons r rs ih =>
    obtain ⟨l, rfl⟩ := ih fun r hr => h r (List.mem_cons_of_mem _ hr)
    obtain ⟨a, b, rfl, ⟨n, rfl, hn⟩, c, d, rfl, ⟨m, rfl, hm⟩, e, f, rfl, ⟨q, rfl, hq⟩, rfl⟩ := h r List.mem_cons_self
    exact ⟨(n, m, q) :: l, rfl⟩
theorem decActs {x : IC} (h : Dec (.sl 24 (.st [.int .i64, .int .i64, .int .i64])) [x]) : ∃ l : List (Int × Int × Int), x = .sl 3 false (actRows l) ∧ l.length ≤ 140737488351232 := by
  obtain ⟨rows, e, h1, h2⟩ := h
  obtain ⟨l, rfl⟩ := decTriples h1
  refine ⟨l, (List.cons.inj e).1, ?_⟩
  simp only [List.length_map] at h2
  omega
end Go.Proofs.Ytinehodamekjgaa.Aw
