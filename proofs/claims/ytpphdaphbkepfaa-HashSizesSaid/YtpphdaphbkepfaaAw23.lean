/- The abstract walk, part 23: a row of nothing is one of whatever type. -/
import Derived.Test.YtpphdaphbkepfaaAw22
set_option linter.unusedVariables false
set_option linter.unusedSimpArgs false
namespace Go.Proofs.Ytpphdaphbkepfaa.Aw
open Go Go.RowKit
inductive ILe : IC → IC → Prop where
  | refl (x : IC) : ILe x x
  | nil (a c : Nat) (b : Bool) : ILe (.sl a b []) (.sl c false [])
inductive ILes : List IC → List IC → Prop where
  | nil : ILes [] []
  | cons {x y : IC} {r r' : List IC} (h : ILe x y) (k : ILes r r') : ILes (x :: r) (y :: r')
inductive PLe : PV → PV → Prop where
  | refl (x : PV) : PLe x x
  | c {x y : IC} (h : ILe x y) : PLe (.c x) (.c y)
  | agg {xs ys : List IC} (h : ILes xs ys) : PLe (.agg xs) (.agg ys)
inductive PLes : List PV → List PV → Prop where
  | nil : PLes [] []
  | cons {x y : PV} {r r' : List PV} (h : PLe x y) (k : PLes r r') : PLes (x :: r) (y :: r')
theorem IR.le {w : World} {ok : Nat → Prop} {x y : IC} {v : Value} (h : IR w ok x v) (k : ILe x y) : IR w ok y v := by
  cases k with
  | refl => exact h
  | nil a c b =>
    obtain ⟨A, n, rfl, _, h2, _⟩ := h.slice
    exact .nil _ _ _ _ (by simp) h2
theorem ILes.get {xs ys : List IC} (h : ILes xs ys) : xs.length = ys.length ∧ ∀ (k : Nat) (y : IC), ys[k]? = some y → ∃ x, xs[k]? = some x ∧ ILe x y := by
  induction h with
  | nil => simp
  | cons h k ih =>
    refine ⟨by simp [ih.1], fun j y hj => ?_⟩
    cases j with
    | zero => simp at hj; subst hj; exact ⟨_, rfl, h⟩
    | succ j => exact ih.2 j y (by simpa using hj)
theorem PLes.get {xs ys : List PV} (h : PLes xs ys) : xs.length = ys.length ∧ ∀ (k : Nat) (y : PV), ys[k]? = some y → ∃ x, xs[k]? = some x ∧ PLe x y := by
  induction h with
  | nil => simp
  | cons h k ih =>
    refine ⟨by simp [ih.1], fun j y hj => ?_⟩
    cases j with
    | zero => simp at hj; subst hj; exact ⟨_, rfl, h⟩
    | succ j => exact ih.2 j y (by simpa using hj)
theorem PR.le {w : World} {ok : Nat → Prop} {x y : PV} {v : Value} (h : PR w ok x v) (k : PLe x y) : PR w ok y v := by
  cases k with
  | refl => exact h
  | c k =>
    cases h with
    | c x v h => exact .c _ _ (h.le k)
  | agg k =>
    cases h with
    | agg xs vs h1 h2 =>
      refine .agg _ _ (by rw [h1]; exact k.get.1) fun j y hj => ?_
      obtain ⟨x, hx, hle⟩ := k.get.2 j y hj
      exact (h2 j x hx).le hle
theorem PureCalls.weaken {P : Program} {f : FuncId} {pvs pvs' : List PV} {r : PV} (h : PureCalls P f pvs' r) (k : PLes pvs pvs') : PureCalls P f pvs r :=
  ⟨h.1, fun ok w vals hsz hv => h.2 ok w vals (by rw [hsz]; exact k.get.1) fun j y hj => by
    obtain ⟨x, hx, hle⟩ := k.get.2 j y hj
    exact (hv j x hx).le hle⟩
end Go.Proofs.Ytpphdaphbkepfaa.Aw
