/- Texts of the proof, put together: the abstract walk, contracts of the functions that the statement reaches, plain laws, part 6 of 6. -/
import Derived.Test.YtkkjlmcnfoncdaaCAe
import Derived.Test.YtkkjlmcnfoncdaaCAc
/- The document's example of layer 12, part 3: it is right. -/
set_option linter.unusedVariables false
set_option linter.unusedSimpArgs false
set_option linter.unusedSectionVars false
namespace Go.Proofs.Ytkkjlmcnfoncdaa.Aw
open Go Go.RowKit
set_option maxRecDepth 10000
attribute [local irreducible] AWp AOL QS One AOLg QSg NX QX TRg TX AllO Fin3
attribute [local irreducible] W.TRg W.TX W.AllO W.Fin3
abbrev st3 (A : Ar) (f : AV) : List AObj := [.var true 26 [.ic (.sl 1 false (hid A (List.map (encK A) K4))), .ic (.sl 1 false (hid A (List.map encI (layM K4))))], .var true 31 [.ic (.sl 1 false (hid A (List.map encI []))), .ic (.sl 1 false (hid A (List.map encI [0, 1]))), .ic (.sl 2 false (hid A (List.map encN [(-1, 0), (-1, 0)]))), .ic (.sl 1 false (hid A (List.map encI []))), .ic (.sl 1 false (hid A (List.map (encK A) K2'))), .ic (.sl 1 false (hid A (List.map (encK A) K2)))], .var true 3 [.ic (.lit (.int .i64 1))], .var true 106 [f]]
variable {A : Ar} (hA : A = real)
include hA
end Go.Proofs.Ytkkjlmcnfoncdaa.Aw

/- Laws IfgReps and IfgMore. -/
set_option linter.unusedVariables false
set_option linter.unusedSimpArgs false
set_option linter.unusedSectionVars false
namespace Go.Proofs.Ytkkjlmcnfoncdaa.Aw
open Go Go.RowKit
set_option maxRecDepth 10000
attribute [local irreducible] AWp AOL QS One AOLg QSg NX QX TRg TX AllO Fin3
variable {A : Ar} (hA : A = real)
include hA
end Go.Proofs.Ytkkjlmcnfoncdaa.Aw

/- Law IfgMore. -/
set_option linter.unusedVariables false
set_option linter.unusedSimpArgs false
set_option linter.unusedSectionVars false
namespace Go.Proofs.Ytkkjlmcnfoncdaa.Aw
open Go Go.RowKit
set_option maxRecDepth 10000
attribute [local irreducible] AWp AOL QS One AOLg QSg NX QX TRg TX AllO Fin3
variable {A : Ar} (hA : A = real)
include hA
end Go.Proofs.Ytkkjlmcnfoncdaa.Aw

/- Graphs out of the row's data; the laws of layer 12, as their rows ask for them. -/
set_option linter.unusedVariables false
set_option linter.unusedSimpArgs false
set_option linter.unusedSectionVars false
namespace Go.Proofs.Ytkkjlmcnfoncdaa.Aw
open Go Go.RowKit
set_option maxRecDepth 10000
theorem decSgs {rows : List (List IC)} (h : ∀ r ∈ rows, Dec (.st [.str, .str]) r) : ∃ l : List Sg, rows = hid real (List.map (encG real) l) ∧ FitG l := by
  induction rows with
  | nil => exact ⟨[], rfl, by simp [FitG]⟩
  | cons r rs ih =>
    obtain ⟨l, hl, hb⟩ := ih fun x hx => h x (List.mem_cons_of_mem _ hx)
    obtain ⟨a1, b1, rfl, ⟨n, rfl, hn⟩, a2, b2, rfl, ⟨g, rfl, hg⟩, rfl⟩ := h r List.mem_cons_self
    refine ⟨(n, g) :: l, by rw [hl]; rfl, fun x hx => ?_⟩
    rcases List.mem_cons.1 hx with rfl | hx
    · exact ⟨by show n.size ≤ _; omega, by show g.size ≤ _; omega⟩
    · exact hb x hx
theorem decKeys2 {rows : List (List IC)} (h : ∀ r ∈ rows, Dec (.sl 8 (.int .i64)) r) : ∃ K : List (List Int), rows = hid real (List.map (encK real) K) ∧ ∀ x ∈ K, x.length ≤ 140737488351232 := by
  induction rows with
  | nil => exact ⟨[], rfl, by simp⟩
  | cons r rs ih =>
    obtain ⟨K, hK, hb⟩ := ih fun x hx => h x (List.mem_cons_of_mem _ hx)
    obtain ⟨q, e, h1, h2⟩ := h r List.mem_cons_self
    obtain ⟨l, rfl, _⟩ := decInts h1
    simp only [List.length_map] at h2
    refine ⟨l :: K, by rw [hK, e]; rfl, fun x hx => ?_⟩
    rcases List.mem_cons.1 hx with rfl | hx
    · omega
    · exact hb x hx
def shGraph : List Sh := [.sl 8 (.int .i64), .st shCells, .sl 24 (.sl 8 (.int .i64)), .sl 24 (.sl 8 (.int .i64))]
theorem decGraph {ics : List IC} (h : Decs shGraph ics) : ∃ (R V : List Int) (N : List (Int × Int)) (M : List Int) (P Q : List (List Int)), ics = [.sl 1 false (List.map encI R), .sl 1 false (List.map encI V), .sl 2 false (List.map encN N), .sl 1 false (List.map encI M), .sl 1 false (hid real (List.map (encK real) P)), .sl 1 false (hid real (List.map (encK real) Q))] ∧ FitGr R V N M P Q := by
  obtain ⟨a0, b0, rfl, ⟨r, rfl, h3, h4⟩, a1, b1, rfl, h1, a2, b2, rfl, ⟨r2, e2, g2, k2⟩, a3, b3, rfl, ⟨r3, e3, g3, k3⟩, rfl⟩ := h
  obtain ⟨c, rfl, hf⟩ := decCells h1
  obtain ⟨R, rfl, _⟩ := decInts h3
  obtain ⟨P, rfl, p2⟩ := decKeys2 g2
  obtain ⟨Q, rfl, q2⟩ := decKeys2 g3
  subst e2 e3
  have e1 : (List.map (encK real) P).length * 24 ≤ 140737488351232 := k2
  have e4 : (List.map (encK real) Q).length * 24 ≤ 140737488351232 := k3
  rw [List.length_map] at e1 e4
  simp only [List.length_map] at h4
  exact ⟨R, c.V, c.N, c.M, P, Q, rfl, ⟨by omega, hf.v, hf.n, hf.m, by omega, by omega, p2, q2⟩⟩
def shReps : List Sh := [.sl 32 (.st [.str, .str]), .st shKeyed, .st shGraph, .int .i64, .int .i64]
theorem decReps {ics : List IC} (h : Decs shReps ics) : ∃ (l : List Sg) (K : List (List Int)) (S R V : List Int) (N : List (Int × Int)) (M : List Int) (P Q : List (List Int)) (x y : Int), ics = [.sl 2 false (hid real (List.map (encG real) l)), .sl 1 false (hid real (List.map (encK real) K)), .sl 1 false (hid real (List.map encI S)), .sl 1 false (List.map encI R), .sl 1 false (List.map encI V), .sl 2 false (List.map encN N), .sl 1 false (List.map encI M), .sl 1 false (hid real (List.map (encK real) P)), .sl 1 false (hid real (List.map (encK real) Q)), I x, I y] ∧ FitG l ∧ FitsK K S ∧ FitGr R V N M P Q := by
  obtain ⟨a0, b0, rfl, ⟨r, rfl, h0, _⟩, a1, b1, rfl, h1, a2, b2, rfl, h2, a3, b3, rfl, ⟨x, rfl, _⟩, a4, b4, rfl, ⟨y, rfl, _⟩, rfl⟩ := h
  obtain ⟨l, rfl, hl⟩ := decSgs h0
  obtain ⟨K, S, rfl, hf⟩ := decKeyed h1
  obtain ⟨R, V, N, M, P, Q, rfl, hg⟩ := decGraph h2
  exact ⟨l, K, S, R, V, N, M, P, Q, x, y, rfl, hl, hf, hg⟩
def shMore : List Sh := [.sl 32 (.st [.str, .str]), .st shKeyed, .st shGraph, .int .u8]
variable {A : Ar} (hA : A = real)
include hA
end Go.Proofs.Ytkkjlmcnfoncdaa.Aw

/- Laws CycNext and CycAdds, as their rows ask for them. -/
set_option linter.unusedVariables false
set_option linter.unusedSectionVars false
namespace Go.Proofs.Ytkkjlmcnfoncdaa.Aw
open Go Go.RowKit
variable {A : Ar} (hA : A = real)
include hA
theorem cnextL (l : List Sg) (hl : FitG l) (K : List (List Int)) (S : List Int) (hk : FitsK K S) (R V : List Int) (N : List (Int × Int)) (M : List Int) (P Q : List (List Int)) (hg : FitGr R V N M P Q) (x y : Int) :
    PureCalls Try.prog 6 [.agg [.sl 2 false (hid A (List.map (encG A) l)), .sl 1 false (hid A (List.map (encK A) K)), .sl 1 false (hid A (List.map encI S)), .sl 1 false (List.map encI R), .sl 1 false (List.map encI V), .sl 2 false (List.map encN N), .sl 1 false (List.map encI M), .sl 1 false (hid A (List.map (encK A) P)), .sl 1 false (hid A (List.map (encK A) Q)), I x, I y]] (BP true) := by
  have := cnext_law hA l hl K S hk R V N M P Q hg x y
  rwa [hid_eq hA (List.map encI R), hid_eq hA (List.map encI V), hid_eq hA (List.map encN N), hid_eq hA (List.map encI M)] at this
theorem caddsL (l : List Sg) (hl : FitG l) (K : List (List Int)) (S : List Int) (hk : FitsK K S) (R V : List Int) (N : List (Int × Int)) (M : List Int) (P Q : List (List Int)) (hg : FitGr R V N M P Q) (x y : Int) :
    PureCalls Try.prog 7 [.agg [.sl 2 false (hid A (List.map (encG A) l)), .sl 1 false (hid A (List.map (encK A) K)), .sl 1 false (hid A (List.map encI S)), .sl 1 false (List.map encI R), .sl 1 false (List.map encI V), .sl 2 false (List.map encN N), .sl 1 false (List.map encI M), .sl 1 false (hid A (List.map (encK A) P)), .sl 1 false (hid A (List.map (encK A) Q)), I x, I y]] (BP true) := by
  have := cadds_law hA l hl K S hk R V N M P Q hg x y
  rwa [hid_eq hA (List.map encI R), hid_eq hA (List.map encI V), hid_eq hA (List.map encN N), hid_eq hA (List.map encI M)] at this
end Go.Proofs.Ytkkjlmcnfoncdaa.Aw
