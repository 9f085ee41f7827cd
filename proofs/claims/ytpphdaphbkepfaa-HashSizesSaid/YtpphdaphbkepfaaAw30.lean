/- The abstract walk, part 30: the rules that read the named arithmetic, as two facts. -/
import Derived.Test.YtpphdaphbkepfaaAw29
set_option linter.unusedVariables false
set_option linter.unusedSimpArgs false
namespace Go.Proofs.Ytpphdaphbkepfaa.Aw
open Go Go.RowKit
theorem zz {A : Ar} (hA : A = real) : (∀ (k : IntKind) (a b : Int), A .add k a b = k.wrap (a + b)) ∧ (∀ (k : IntKind) (a b : Int), A .sub k a b = k.wrap (a - b)) ∧ (∀ (k : IntKind) (a b : Int), A .mul k a b = k.wrap (a * b)) ∧ (∀ a b : Int, A .eq a b = decide (a = b)) ∧ (∀ a b : Int, A .lt a b = decide (a < b)) ∧ (∀ a b : Int, A .le a b = decide (a ≤ b)) ∧
    (∀ a b : ByteArray, A .seq a b = decide (a.toList = b.toList)) ∧ (∀ (k : IntKind) (a : Int), A .wrap k a = k.wrap a) ∧ (∀ xs : List (List IC), A .len xs = (xs.length : Int)) ∧ (∀ b : ByteArray, A .slen b = (b.size : Int)) ∧ (∀ b : Bool, A .no b = !b) ∧ (∀ (α : Type) (f : Unit → α), A (.hid α) f = f ()) ∧
    (∀ k : Nat, cN k = (k : Int)) ∧ (∀ (α β : Type) (f : α → β) (l : List α), (List.map f l).length = l.length) ∧ (∀ (α : Type) (a b : List α), (a ++ b).length = a.length + b.length) ∧ (∀ (α : Type) (l : List α) (n : Nat), (l.take n).length = min n l.length) ∧ (∀ (α : Type) (l : List α) (n : Nat), (l.drop n).length = l.length - n) ∧
    (∀ (α : Type) (x : α) (n : Nat), (List.replicate n x).length = n) ∧ (∀ (α : Type) (l : List α) (n : Nat) (x : α), (l.set n x).length = l.length) ∧ (∀ (α : Type) (l : List α) (x : α), (x :: l).length = l.length + 1) ∧ (∀ (α : Type), ([] : List α).length = 0) ∧ (maxLen = 9223372036854775807) ∧
    (∀ z : Int, -9223372036854775808 ≤ z → z ≤ 9223372036854775807 → IntKind.i64.wrap z = z) ∧ (∀ z : Int, 0 ≤ z → z ≤ 255 → IntKind.u8.wrap z = z) ∧ (∀ z : Int, 0 ≤ z → z ≤ 4294967295 → IntKind.u32.wrap z = z) ∧ (∀ z : Int, 0 ≤ z → z ≤ 18446744073709551615 → IntKind.u64.wrap z = z) ∧
    (∀ a b : Int, 0 ≤ a → a.tdiv b = a / b) ∧ (∀ a b : Int, 0 ≤ a → a.tmod b = a % b) := by
  subst hA
  exact ⟨fun _ _ _ => rfl, fun _ _ _ => rfl, fun _ _ _ => rfl, fun _ _ => rfl, fun _ _ => rfl, fun _ _ => rfl, fun _ _ => rfl, fun _ _ => rfl, fun _ => rfl, fun _ => rfl, fun _ => rfl, fun _ _ => rfl, fun _ => rfl, fun _ _ _ _ => List.length_map _, fun _ _ _ => List.length_append, fun _ _ _ => List.length_take, fun _ _ _ => List.length_drop,
    fun _ _ _ => List.length_replicate, fun _ _ _ _ => List.length_set, fun _ _ _ => rfl, fun _ => rfl, rfl, fun _ => wI64, fun _ => wU8, fun _ => wU32, fun _ => wU64, fun _ _ => tdvN, fun _ _ => tmdN⟩
theorem zb : (∀ (p : Prop) [Decidable p], (decide p = true) = p) ∧ (∀ (p : Prop) [Decidable p], (decide p = false) = ¬ p) ∧ (∀ b : Bool, ((!b) = true) = (b = false)) ∧ (∀ b : Bool, ((!b) = false) = (b = true)) ∧ (∀ b : Bool, (!(!b)) = b) ∧ ((!true) = false) ∧ ((!false) = true) ∧ (∀ n : Nat, ((n : Int)).toNat = n) ∧ ((¬ True) = False) ∧ (∀ b : Bool, (b == b) = true) ∧ (decide True = true) ∧ (decide False = false) ∧ (∀ b : Bool, (true == b) = b) ∧ (∀ b : Bool, (false == b) = !b) :=
  ⟨fun _ _ => decide_eq_true_eq, fun p _ => by simp, fun b => by simp, fun b => by simp, fun b => by simp, rfl, rfl, fun _ => rfl, by simp, fun b => by simp, by simp, by simp, fun b => by simp, fun b => by simp⟩
theorem zw : (∀ n : Int, IntKind.i64.wrap n = (n + 9223372036854775808) % 18446744073709551616 - 9223372036854775808) ∧ (∀ n : Int, IntKind.u8.wrap n = n % 256) ∧ (∀ n : Int, IntKind.u32.wrap n = n % 4294967296) ∧ (∀ n : Int, IntKind.u64.wrap n = n % 18446744073709551616) ∧ (∀ a b : Int, a.tdiv b = if 0 ≤ a then a / b else -(-a / b)) ∧ (∀ a b : Int, a.tmod b = if 0 ≤ a then a % b else -(-a % b)) :=
  ⟨IntKind.wrap_i64, IntKind.wrap_u8, IntKind.wrap_u32, IntKind.wrap_u64, tdivI, tmodI⟩
theorem AllR.pass {P : Program} {ops : Array Oper} {fuel : Nat} {listed : Array Bool} {s : St} {Q : St → Prop} {l : List Nat} (h : AllR P ops fuel listed s Q l) : AllR P ops fuel listed s Q l := h
theorem AnyQ.pass {P : Program} {ops : Array Oper} {fuel : Nat} {listed : Array Bool} {s : St} {Q : St → Prop} (h : AnyQ P ops fuel listed s Q) : AnyQ P ops fuel listed s Q := h
end Go.Proofs.Ytpphdaphbkepfaa.Aw
