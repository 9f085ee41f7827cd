/- The abstract walk, part 25: bits and shifts. -/
import Derived.Test.YtpphdaphbkepfaaAw24
set_option linter.unusedVariables false
set_option linter.unusedSimpArgs false
namespace Go.Proofs.Ytpphdaphbkepfaa.Aw
open Go Go.RowKit
def bitsV (op : BinOp) (k : IntKind) (a b : Int) : Int := match op with
  | .and => k.wrap (BitVec.ofInt k.bits a &&& BitVec.ofInt k.bits b).toNat
  | .or => k.wrap (BitVec.ofInt k.bits a ||| BitVec.ofInt k.bits b).toNat
  | .xor => k.wrap (BitVec.ofInt k.bits a ^^^ BitVec.ofInt k.bits b).toNat
  | _ => k.wrap (BitVec.ofInt k.bits a &&& ~~~ BitVec.ofInt k.bits b).toNat
def isBits : BinOp → Bool
  | .and | .or | .xor | .andNot => true
  | _ => false
theorem does_bits {P : Program} {s : St} (op : BinOp) (hop : isBits op = true) (t : TypeId) (x y : Operand) (k : IntKind) (a b : Int) (hx : s.ev x = .ic (.lit (.int k a))) (hy : s.ev y = .ic (.lit (.int k b))) :
    Does P s (fun ρ => do pure (.value (← (do eqGuard op t x y (ρ x) (ρ y); binOp op t (ρ x) (ρ y) : Sem Value)))) (.ic (.lit (.int k (bitsV op k a b)))) s.st :=
  .pure fun G g w act hrel => by
    have h1 := hrel.ev x
    have h2 := hrel.ev y
    rw [hx] at h1
    rw [hy] at h2
    have e1 := h1.lit_inv
    have e2 := h2.lit_inv
    refine ⟨_, ?_, .ic _ _ (.lit _ rfl)⟩
    cases op <;> simp [isBits] at hop <;> simp [e1, e2, eqGuard, binOp, Op.intBits, bitsV]
theorem One.bits {r : Option Nat} {P : Program} {ops : Array Oper} {i : Nat} {s : St} {op : BinOp} {t t' : TypeId} {x y : Operand} {k : IntKind} {a b c : Int} (h : opAt ops i s = some (.binOp op t x y t')) (hop : isBits op = true) (hx : s.ev x = .ic (.lit (.int k a))) (hy : s.ev y = .ic (.lit (.int k b)))
    (hc : bitsV op k a b = c) : One r P ops i s (.ic (.lit (.int k c))) s.st := by
  subst hc
  exact .does h rfl fun o ho => (does_bits op hop t x y k a b hx hy).congr fun ρ => by simp only [execOp, ho]
theorem does_shr {P : Program} {s : St} (t : TypeId) (x y : Operand) (k k' : IntKind) (a b : Int) (hx : s.ev x = .ic (.lit (.int k a))) (hy : s.ev y = .ic (.lit (.int k' b))) (h0 : 0 ≤ b) :
    Does P s (fun ρ => do pure (.value (← (do eqGuard .shr t x y (ρ x) (ρ y); binOp .shr t (ρ x) (ρ y) : Sem Value)))) (.ic (.lit (.int k (a.fdiv (2 ^ min b.toNat k.bits))))) s.st :=
  .pure fun G g w act hrel => by
    have h1 := hrel.ev x
    have h2 := hrel.ev y
    rw [hx] at h1
    rw [hy] at h2
    have e1 := h1.lit_inv
    have e2 := h2.lit_inv
    refine ⟨_, ?_, .ic _ _ (.lit _ rfl)⟩
    have hn : ¬ b < 0 := by omega
    simp [e1, e2, eqGuard, binOp, Op.shift, hn]
theorem One.shr {r : Option Nat} {P : Program} {ops : Array Oper} {i : Nat} {s : St} {t t' : TypeId} {x y : Operand} {k k' : IntKind} {a b c : Int} (h : opAt ops i s = some (.binOp .shr t x y t')) (hx : s.ev x = .ic (.lit (.int k a))) (hy : s.ev y = .ic (.lit (.int k' b))) (h0 : 0 ≤ b)
    (hc : a.fdiv (2 ^ min b.toNat k.bits) = c) : One r P ops i s (.ic (.lit (.int k c))) s.st := by
  subst hc
  exact .does h rfl fun o ho => (does_shr t x y k k' a b hx hy h0).congr fun ρ => by simp only [execOp, ho]
theorem One.quoV {r : Option Nat} {P : Program} {ops : Array Oper} {i : Nat} {s : St} {t t' : TypeId} {x y : Operand} {k : IntKind} {a b c : Int} (h : opAt ops i s = some (.binOp .quo t x y t')) (hx : s.ev x = .ic (.lit (.int k a))) (hy : s.ev y = .ic (.lit (.int k b))) (hb : b ≠ 0) (hc : k.wrap (a.tdiv b) = c) : One r P ops i s (.ic (.lit (.int k c))) s.st := by
  subst hc
  exact One.quo h hx hy hb
theorem One.remV {r : Option Nat} {P : Program} {ops : Array Oper} {i : Nat} {s : St} {t t' : TypeId} {x y : Operand} {k : IntKind} {a b c : Int} (h : opAt ops i s = some (.binOp .rem t x y t')) (hx : s.ev x = .ic (.lit (.int k a))) (hy : s.ev y = .ic (.lit (.int k b))) (hb : b ≠ 0) (hc : a.tmod b = c) : One r P ops i s (.ic (.lit (.int k c))) s.st := by
  subst hc
  exact One.rem h hx hy hb
end Go.Proofs.Ytpphdaphbkepfaa.Aw
