/- TrailBacks, walked. -/
import Derived.Test.YtinehodamekjgaaBk1
set_option linter.unusedVariables false
namespace Go.Proofs.Ytinehodamekjgaa.Aw
open Go Go.RowKit
set_option maxRecDepth 10000
abbrev actRows (l : List (Int × Int × Int)) : List (List IC) := l.map fun a => [I a.1, I a.2.1, I a.2.2]
abbrev cobj (c : Cl) : AObj := .var true 25 [.ic (.sl 1 false (ints c.V)), .ic (.sl 2 false (nts c.N)), .ic (.sl 1 false (ints c.M))]
/-- d's rows are short. -/
structure Sz (c d : Cl) (L : List Int) (k : Nat) : Prop where
  v : d.V.length ≤ 600 + k
  n : d.N.length ≤ 600 + k
  m : d.M.length = c.M.length + 1 + L.length
  l : L.length ≤ k
variable {A : Ar} (hA : A = real)
include hA
theorem keep_cl (c : Cl) (h : c.small) (hne : c.M ≠ []) : PureCalls Try.prog 20 [c.pv] (.tup [(⟨c.V, c.N, c.M.dropLast⟩ : Cl).pv, .c (I 0)]) := by
  have hm := h.m
  have := keep_c1 hA (ints c.V) (nts c.N) (ints c.M) (by simpa using hne) (by simp; omega)
  rw [show (ints c.M).dropLast = ints c.M.dropLast by simp [ints, List.map_dropLast]] at this
  exact this
/-- One step of the script, as a whole: what stands in the script's variables behind it. -/
theorem set_any (c : Cl) (h : c.small) (z v : Int) : ∃ (c' : Cl) (e : Int), PureCalls Try.prog 16 [c.pv, .c (I z), .c (I v)] (.tup [c'.pv, .c (I e)]) ∧ (c' = c ∨ ∃ (i : Nat) (u : Int), c.V[i]? = some u ∧ c' = c.put i u v) := by
  by_cases hz : 0 ≤ z ∧ z < c.V.length
  · obtain ⟨i, rfl⟩ : ∃ i : Nat, z = (i : Int) := ⟨z.toNat, by omega⟩
    have hi : i < c.V.length := by omega
    exact ⟨_, _, set_cl hA c h i _ v (List.getElem?_eq_getElem hi), .inr ⟨i, _, List.getElem?_eq_getElem hi, rfl⟩⟩
  · exact ⟨c, 1, set_c0 hA _ _ _ z v (by simp only [List.length_map]; omega), .inl rfl⟩
end Go.Proofs.Ytinehodamekjgaa.Aw
