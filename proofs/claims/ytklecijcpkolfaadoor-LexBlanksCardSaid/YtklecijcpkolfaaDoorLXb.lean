/- Texts of the proof, put together: the abstract walk, contracts of the functions that the statement reaches, plain laws, part 2 of 4. -/
import Derived.Test.YtklecijcpkolfaaDoorLXa
import Derived.IntWalk
import Derived.Laws.StructEq
import Derived.ChangeKeysEq
import Derived.ChangeArms
import Derived.SizedLaws
import Derived.DataReads
import Derived.WideShapes
import Derived.ChangeMaps5
import Derived.Laws.Cover3
import Derived.Test.YtklecijcpkolfaaDoorProg
import Derived.KernelRfl
import Derived.MapKept
import Derived.Laws.BytesString
import Derived.ChangeShapes
/- The abstract walk, part 14: single operations with conditions; regions that draw their order, by computation. -/
set_option linter.unusedVariables false
set_option linter.unusedSimpArgs false
namespace Go.Proofs.YtklecijcpkolfaaDoor.Aw
open Go Go.RowKit

/-- Operation i, from s: it leaves x and the store st'. -/
def One (r : Option Nat) (P : Program) (ops : Array Oper) (i : Nat) (s : St) (x : AV) (st' : List AObj) : Prop :=
  ∀ (rest : List Nat) (Q : St → Prop), AOL r P ops rest (putS s (dstOf ops i) x st') Q → AOL r P ops (i :: rest) s Q

/-- The operation, if it is carried out. -/
def opAt (ops : Array Oper) (i : Nat) (s : St) : Option Op := match ops[i]? with
  | some o => match gd ops s o.guard with
    | some true => bif dstOk s o.dst then some o.op else none
    | _ => none
  | none => none

theorem opAt_some {ops : Array Oper} {i : Nat} {s : St} {op : Op} (h : opAt ops i s = some op) : ∃ o, ops[i]? = some o ∧ gd ops s o.guard = some true ∧ dstOk s o.dst = true ∧ o.op = op ∧ dstOf ops i = o.dst := by
  unfold opAt at h
  split at h
  · rename_i o ho
    split at h
    · rename_i hg
      cases hd : dstOk s o.dst with
      | false => rw [hd] at h; simp at h
      | true =>
        rw [hd] at h
        refine ⟨o, ho, hg, hd, by simpa using h, by simp [dstOf, ho]⟩
    · simp at h
  · simp at h

section one
variable {r : Option Nat} {P : Program} {ops : Array Oper} {i : Nat} {s : St} {tab : List TI}

theorem One.does {op : Op} {x : AV} {st' : List AObj} (h : opAt ops i s = some op) (hn : notDefer op = true) (hD : ∀ o : Oper, o.op = op → Does P s (fun ρ => execOp ρ o) x st') : One r P ops i s x st' := fun rest Q k => by
  obtain ⟨o, ho, hg, hd, hop, he⟩ := opAt_some h
  rw [he] at k
  exact AOL.step ho hg hd (by rw [hop]; exact hn) (hD o hop) k

def slT (tab : List TI) (t : TypeId) : Option (TypeId × TI) := match tab[t]? with
  | some i => match i.k with
    | .slice e => match tab[e]? with
      | some j => bif i.there then some (e, j) else none
      | none => none
    | _ => none
  | none => none
theorem slT_ok (hT : TabOk P tab) {t e : TypeId} {j : TI} (h : slT tab t = some (e, j)) : (tyi P t).there = true ∧ (tyi P t).k = .slice e ∧ j = tyi P e := by
  unfold slT at h
  split at h
  · rename_i i hi
    have := hT t i hi
    subst this
    split at h
    · rename_i e' hk
      split at h
      · rename_i j' hj
        have := hT e' j' hj
        subst this
        cases hb : (tyi P t).there with
        | false => rw [hb] at h; simp at h
        | true =>
          rw [hb] at h
          simp only [cond_true, Option.some.injEq, Prod.mk.injEq] at h
          obtain ⟨rfl, rfl⟩ := h
          exact ⟨rfl, hk, rfl⟩
      · simp at h
    · simp at h
  · simp at h
def tiAt (tab : List TI) (t : TypeId) : Option TI := match tab[t]? with
  | some i => bif i.there then some i else none
  | none => none
theorem tiAt_ok (hT : TabOk P tab) {t : TypeId} {i : TI} (h : tiAt tab t = some i) : i = tyi P t ∧ i.there = true := by
  unfold tiAt at h
  split at h
  · rename_i j hj
    have := hT t j hj
    cases hb : j.there with
    | false => rw [hb] at h; simp at h
    | true =>
      rw [hb] at h
      simp only [cond_true, Option.some.injEq] at h
      subst h
      exact ⟨this, hb⟩
  · simp at h

theorem One.elem (hT : TabOk P tab) {t e : TypeId} {j : TI} {x y : Operand} {ex : Bool} {xs : List (List IC)} {k : IntKind} {n : Int} {row : List IC} (h : opAt ops i s = some (.indexAddr t x y)) (ht : slT tab t = some (e, j))
    (hx : s.ev x = .ic (.sl j.size ex xs)) (hy : s.ev y = .ic (.lit (.int k n))) (h0 : 0 ≤ n) (hr : xs[n.toNat]? = some row) : One r P ops i s (.at row) s.st := by
  obtain ⟨h1, h2, rfl⟩ := slT_ok hT ht
  exact .does h rfl fun o hop => (does_elem t e x y _ ex xs k n row h1 h2 rfl hx hy h0 hr).congr fun ρ => by simp only [execOp, hop]

theorem One.elemOwn (hT : TabOk P tab) {t e : TypeId} {j : TI} {x y : Operand} {q ver : Nat} {m : Bool} {xs : List (List IC)} {k : IntKind} {n : Int} (h : opAt ops i s = some (.indexAddr t x y)) (ht : slT tab t = some (e, j))
    (hx : s.ev x = .own q ver) (hs : s.st[q]? = some (.row m ver e j.size xs)) (hy : s.ev y = .ic (.lit (.int k n))) (h0 : 0 ≤ n) (hr : n < (xs.length : Int)) : One r P ops i s (.rat q ver n.toNat 0) s.st := by
  obtain ⟨h1, h2, rfl⟩ := slT_ok hT ht
  exact .does h rfl fun o hop => (does_elemOwn t e x y q ver m _ xs k n h1 h2 rfl hx hs hy h0 hr).congr fun ρ => by simp only [execOp, hop]

theorem One.cut_h (hT : TabOk P tab) {t e : TypeId} {j : TI} {x z : Operand} {ex : Bool} {xs : List (List IC)} {k : IntKind} {n : Int} (h : opAt ops i s = some (.slice t x none (some z) none)) (ht : slT tab t = some (e, j))
    (hx : s.ev x = .ic (.sl j.size ex xs)) (hz : s.ev z = .ic (.lit (.int k n))) (h0 : 0 ≤ n) (h1 : n ≤ (xs.length : Int)) : One r P ops i s (.ic (.sl j.size false (xs.take n.toNat))) s.st := by
  obtain ⟨g1, g2, rfl⟩ := slT_ok hT ht
  exact .does h rfl fun o hop => (does_cut_h t e x _ ex xs g1 g2 rfl hx hz h0 h1).congr fun ρ => by simp only [execOp, hop]
theorem One.cut_l (hT : TabOk P tab) {t e : TypeId} {j : TI} {x y : Operand} {ex : Bool} {xs : List (List IC)} {k : IntKind} {n : Int} (h : opAt ops i s = some (.slice t x (some y) none none)) (ht : slT tab t = some (e, j))
    (hx : s.ev x = .ic (.sl j.size ex xs)) (hy : s.ev y = .ic (.lit (.int k n))) (h0 : 0 ≤ n) (h1 : n ≤ (xs.length : Int)) : One r P ops i s (.ic (.sl j.size false (xs.drop n.toNat))) s.st := by
  obtain ⟨g1, g2, rfl⟩ := slT_ok hT ht
  exact .does h rfl fun o hop => (does_cut_l t e x _ ex xs g1 g2 rfl hx hy h0 h1).congr fun ρ => by simp only [execOp, hop]
theorem One.cut_lh (hT : TabOk P tab) {t e : TypeId} {j : TI} {x y z : Operand} {ex : Bool} {xs : List (List IC)} {k k' : IntKind} {l n : Int} (h : opAt ops i s = some (.slice t x (some y) (some z) none)) (ht : slT tab t = some (e, j))
    (hx : s.ev x = .ic (.sl j.size ex xs)) (hy : s.ev y = .ic (.lit (.int k l))) (hz : s.ev z = .ic (.lit (.int k' n))) (h0 : 0 ≤ l) (h1 : l ≤ n) (h2 : n ≤ (xs.length : Int)) : One r P ops i s (.ic (.sl j.size false ((xs.take n.toNat).drop l.toNat))) s.st := by
  obtain ⟨g1, g2, rfl⟩ := slT_ok hT ht
  exact .does h rfl fun o hop => (does_cut_lh t e x _ ex xs g1 g2 rfl hx hy hz h0 h1 h2).congr fun ρ => by simp only [execOp, hop]
theorem One.clip (hT : TabOk P tab) {t e : TypeId} {j : TI} {x y z : Operand} {ex : Bool} {xs : List (List IC)} {k k' : IntKind} {l n : Int} (h : opAt ops i s = some (.slice t x none (some y) (some z))) (ht : slT tab t = some (e, j))
    (hx : s.ev x = .ic (.sl j.size ex xs)) (hy : s.ev y = .ic (.lit (.int k l))) (hz : s.ev z = .ic (.lit (.int k' n))) (hl : l = (xs.length : Int)) (hn : n = (xs.length : Int)) : One r P ops i s (.ic (.sl j.size true xs)) s.st := by
  obtain ⟨g1, g2, rfl⟩ := slT_ok hT ht
  subst hl hn
  exact .does h rfl fun o hop => (does_clip t e x _ ex xs g1 g2 rfl hx hy hz).congr fun ρ => by simp only [execOp, hop]

theorem One.append (hT : TabOk P tab) {t e : TypeId} {j : TI} {x y : Operand} {ex : Bool} {sz' : Nat} {xs ys : List (List IC)} (h : opAt ops i s = some (.call { callee := .builtin .append, args := #[x, y], argTypes := #[t, t] })) (ht : slT tab t = some (e, j))
    (hj : j.zero.isSome = true) (hx : s.ev x = .ic (.sl sz' true xs)) (hs' : sz' = j.size ∨ xs = []) (hy : s.ev y = .ic (.sl j.size ex ys)) (hn : (xs.length + ys.length) * j.bytes ≤ 140737488355328) (hm : xs.length + ys.length ≤ maxLen) :
    One r P ops i s (.ic (.sl j.size false (xs ++ ys))) s.st := by
  obtain ⟨g1, g2, rfl⟩ := slT_ok hT ht
  exact .does h rfl fun o hop => (does_appendX t o.type e x y _ sz' ex xs ys g1 g2 rfl hj hx hs' hy hn hm).congr fun ρ => by simp only [execOp, hop, bcall, call1]
theorem One.appendOwn (hT : TabOk P tab) {t e : TypeId} {j : TI} {x y : Operand} {ex : Bool} {q ver : Nat} {xs ys : List (List IC)} (h : opAt ops i s = some (.call { callee := .builtin .append, args := #[x, y], argTypes := #[t, t] })) (ht : slT tab t = some (e, j))
    (hj : (Nat.blt 0 j.size && (j.zero.map (·.length) == some j.size)) = true) (hx : s.ev x = .own q ver) (hs : s.st[q]? = some (.row true ver e j.size xs)) (hy : s.ev y = .ic (.sl j.size ex ys)) (hn : (xs.length + ys.length) * j.bytes ≤ 140737488355328) (hm : xs.length + ys.length ≤ maxLen) :
    One r P ops i s (.own q (ver + 1)) (s.st.set q (.row true (ver + 1) e j.size (xs ++ ys))) := by
  obtain ⟨g1, g2, rfl⟩ := slT_ok hT ht
  simp only [Bool.and_eq_true, beq_iff_eq] at hj
  exact .does h rfl fun o hop => (does_appendOwn t o.type e x y q ver _ ex xs ys g1 g2 rfl hj.1 hj.2 hx hs hy hn hm).congr fun ρ => by simp only [execOp, hop, bcall, call1]
theorem One.make (hT : TabOk P tab) {t e : TypeId} {j : TI} {x y : Operand} {z : List Value} {k k' : IntKind} {n : Int} (h : opAt ops i s = some (.makeSlice t x y)) (ht : slT tab t = some (e, j)) (hz : j.zero = some z) (hj : (Nat.beq z.length j.size && z.all (·.oneCell')) = true)
    (hx : s.ev x = .ic (.lit (.int k n))) (hy : s.ev y = .ic (.lit (.int k' n))) (h0 : 0 ≤ n) (hb : j.bytes * n.toNat ≤ 281474976710656) (hm : n.toNat ≤ maxLen) : One r P ops i s (.own s.st.length 0) (s.st ++ [.row true 0 e j.size (List.replicate n.toNat (z.map zIC))]) := by
  obtain ⟨g1, g2, rfl⟩ := slT_ok hT ht
  simp only [Bool.and_eq_true] at hj
  exact .does h rfl fun o hop => (does_make t e x y _ z k k' n g1 g2 rfl hz hj.1 hj.2 hx hy h0 hb hm).congr fun ρ => by simp only [execOp, hop]
theorem One.lenOwn (hT : TabOk P tab) {t e e' : TypeId} {j : TI} {x : Operand} {q ver sz : Nat} {m : Bool} {xs : List (List IC)} (h : opAt ops i s = some (.call { callee := .builtin .len, args := #[x], argTypes := #[t] })) (ht : slT tab t = some (e, j)) (hx : s.ev x = .own q ver)
    (hs : s.st[q]? = some (.row m ver e' sz xs)) {n : Int} (hn : (xs.length : Int) = n) : One r P ops i s (.ic (.lit (.int .i64 n))) s.st := by
  obtain ⟨g1, g2, rfl⟩ := slT_ok hT ht
  subst hn
  exact .does h rfl fun o hop => (does_lenOwn t o.type e x q ver m e' sz xs g2 hx hs).congr fun ρ => by simp only [execOp, hop, bcall, call1]
theorem One.fieldRat (hT : TabOk P tab) {t : TypeId} {j : TI} {x : Operand} {f : Nat} {fs : List (Nat × Nat × Bool)} {off n : Nat} {ag m : Bool} {q ver row o e sz : Nat} {xs : List (List IC)} (h : opAt ops i s = some (.fieldAddr t x f)) (ht : tiAt tab t = some j) (hk : j.k = .struct fs) (hf : fs[f]? = some (off, n, ag)) (hn : n ≠ 0)
    (hx : s.ev x = .rat q ver row o) (hs : s.st[q]? = some (.row m ver e sz xs)) : One r P ops i s (.rat q ver row (o + off)) s.st := by
  obtain ⟨rfl, hth⟩ := tiAt_ok hT ht
  exact .does h rfl fun o' hop => (does_fieldRat t x f fs off n ag q ver row o m e sz xs hth hk hf hn hx hs).congr fun ρ => by simp only [execOp, hop]
theorem One.loadRat (hT : TabOk P tab) {t : TypeId} {j : TI} {x : Operand} {q ver n o e sz : Nat} {m : Bool} {xs : List (List IC)} {row : List IC} {v : AV} (h : opAt ops i s = some (.load t x)) (ht : tiAt tab t = some j) (hx : s.ev x = .rat q ver n o) (hs : s.st[q]? = some (.row m ver e sz xs))
    (hrow : xs[n]? = some row) (hr : bif j.agg then Nat.ble (o + j.size) row.length = true ∧ v = .agg (((row.drop o).take j.size).map .ic) else row[o]?.map AV.ic = some v) : One r P ops i s v s.st := by
  obtain ⟨rfl, hth⟩ := tiAt_ok hT ht
  exact .does h rfl fun o' hop => (does_loadRat t x q ver n o e sz m xs row v hth hx hs hrow hr).congr fun ρ => by simp only [execOp, hop]
theorem One.storeRat (hT : TabOk P tab) {t : TypeId} {j : TI} {x y : Operand} {q ver n o e sz : Nat} {xs : List (List IC)} {row : List IC} {ys : List AV} {yc : List IC} (h : opAt ops i s = some (.store t x y)) (ht : tiAt tab t = some j) (hx : s.ev x = .rat q ver n o)
    (hs : s.st[q]? = some (.row true ver e sz xs)) (hrow : xs[n]? = some row) (hy : cellsOk (s.ev y) = some ys) (hyc : allIC ys = some yc) (hl : Nat.beq yc.length j.size = true) (ho : o + yc.length ≤ row.length) :
    One r P ops i s .any (s.st.set q (.row true ver e sz (xs.set n (row.take o ++ yc ++ row.drop (o + yc.length))))) := by
  obtain ⟨rfl, hth⟩ := tiAt_ok hT ht
  exact .does h rfl fun o' hop => (does_storeRat t x y q ver n o e sz xs row ys yc hth hx hs hrow hy hyc hl ho).congr fun ρ => by simp only [execOp, hop]

theorem One.quo {t t' : TypeId} {x y : Operand} {k : IntKind} {a b : Int} (h : opAt ops i s = some (.binOp .quo t x y t')) (hx : s.ev x = .ic (.lit (.int k a))) (hy : s.ev y = .ic (.lit (.int k b))) (hb : b ≠ 0) : One r P ops i s (.ic (.lit (.int k (k.wrap (a.tdiv b))))) s.st :=
  .does h rfl fun o hop => (does_quo t x y k a b hx hy hb).congr fun ρ => by simp only [execOp, hop]
theorem One.rem {t t' : TypeId} {x y : Operand} {k : IntKind} {a b : Int} (h : opAt ops i s = some (.binOp .rem t x y t')) (hx : s.ev x = .ic (.lit (.int k a))) (hy : s.ev y = .ic (.lit (.int k b))) (hb : b ≠ 0) : One r P ops i s (.ic (.lit (.int k (a.tmod b)))) s.st :=
  .does h rfl fun o hop => (does_rem t x y k a b hx hy hb).congr fun ρ => by simp only [execOp, hop]
theorem One.eqBool (hT : TabOk P tab) {t t' : TypeId} {j : TI} {x y : Operand} {a b : Bool} (h : opAt ops i s = some (.binOp .eql t x y t')) (ht : tiAt tab t = some j) (hk : j.k = .bool) (hx : s.ev x = .ic (.lit (.bool a))) (hy : s.ev y = .ic (.lit (.bool b))) : One r P ops i s (.ic (.lit (.bool (a == b)))) s.st := by
  obtain ⟨rfl, hth⟩ := tiAt_ok hT ht
  exact .does h rfl fun o hop => (does_eqBool t x y a b hk hx hy).congr fun ρ => by simp only [execOp, hop]
theorem One.neBool (hT : TabOk P tab) {t t' : TypeId} {j : TI} {x y : Operand} {a b : Bool} (h : opAt ops i s = some (.binOp .neq t x y t')) (ht : tiAt tab t = some j) (hk : j.k = .bool) (hx : s.ev x = .ic (.lit (.bool a))) (hy : s.ev y = .ic (.lit (.bool b))) : One r P ops i s (.ic (.lit (.bool (!(a == b))))) s.st := by
  obtain ⟨rfl, hth⟩ := tiAt_ok hT ht
  exact .does h rfl fun o hop => (does_neBool t x y a b hk hx hy).congr fun ρ => by simp only [execOp, hop]
theorem One.concat {t t' : TypeId} {x y : Operand} {a b : ByteArray} (h : opAt ops i s = some (.binOp .add t x y t')) (hx : s.ev x = .ic (.lit (.string a))) (hy : s.ev y = .ic (.lit (.string b))) (hb : a.size + b.size ≤ 9223372036854775807) : One r P ops i s (.ic (.lit (.string (a ++ b)))) s.st :=
  .does h rfl fun o hop => (does_concat t x y a b hx hy hb).congr fun ρ => by simp only [execOp, hop]
theorem One.byte (hT : TabOk P tab) {t : TypeId} {j : TI} {x y : Operand} {b : ByteArray} {k : IntKind} {n : Int} (h : opAt ops i s = some (.index t x y)) (ht : tiAt tab t = some j) (hk : j.k = .string) (hx : s.ev x = .ic (.lit (.string b))) (hy : s.ev y = .ic (.lit (.int k n))) (h0 : 0 ≤ n) (h1 : n < (b.size : Int)) :
    One r P ops i s (.ic (.lit (.int .u8 (sb b n)))) s.st := by
  obtain ⟨rfl, hth⟩ := tiAt_ok hT ht
  exact .does h rfl fun o hop => (does_byte t x y b k n hk hx hy h0 h1).congr fun ρ => by simp only [execOp, hop]

/-- A call whose contract needs no store. -/
theorem One.call {x : Operand} {args : Array Operand} {ts : Array TypeId} {f : FuncId} {first cap : List AV} {pvs : List PV} {y : PV} (own : Bool) (h : opAt ops i s = some (.call { callee := .value x, args := args, argTypes := ts })) (hf : s.ev x = .fn (.func f) first cap)
    (hx : toPVs own s.st (first ++ args.toList.map s.ev ++ cap) = some pvs) (hc : PureCalls P f pvs y) (hn : (!own || noSl y) = true) : One r P ops i s y.av s.st := fun rest Q k => by
  obtain ⟨o, ho, hg, hd, hop, he⟩ := opAt_some h
  rw [he] at k
  exact AOL.pcall own ho hop hg hd hf hx hc hn k
/-- A call in the store. -/
theorem AOL.scall {rest : List Nat} {Q : St → Prop} {x : Operand} {args : Array Operand} {ts : Array TypeId} {f : FuncId} {first cap : List AV} {R : AV → List AObj → Prop} (h : opAt ops i s = some (.call { callee := .value x, args := args, argTypes := ts })) (hf : s.ev x = .fn (.func f) first cap)
    (hc : ACalls P f (first ++ args.toList.map s.ev ++ cap) s.st R) (k : ∀ y st', R y st' → AOL r P ops rest (putS s (dstOf ops i) y st') Q) : AOL r P ops (i :: rest) s Q := by
  obtain ⟨o, ho, hg, hd, hop, he⟩ := opAt_some h
  rw [he] at k
  exact AOL.acall ho hop hg hd hf hc k
end one

/-! ### quiet operations in any order -/
/-- The operation's own looks, at s. -/
def lookS (ops : Array Oper) (i : Nat) (s : St) : St := match ops[i]? with
  | some o => restr s (o.looksAt ops)
  | none => s

/-- The operations of the list leave the store as it is; in order they lead to a state with Q. -/
def QS (P : Program) (ops : Array Oper) : List Nat → St → (St → Prop) → Prop
  | [], s, Q => Q s
  | i :: rest, s, Q => ∃ d x, dstOf ops i = some d ∧ One none P ops i (lookS ops i s) x s.st ∧ QS P ops rest ⟨s.nt, (d, x) :: s.env, s.st⟩ Q

theorem QS.one {P : Program} {ops : Array Oper} {i : Nat} {rest : List Nat} {s : St} {Q : St → Prop} {d : Nat} {x : AV} (hd : dstOf ops i = some d) (h : One none P ops i (lookS ops i s) x s.st) (k : QS P ops rest ⟨s.nt, (d, x) :: s.env, s.st⟩ Q) : QS P ops (i :: rest) s Q := ⟨d, x, hd, h, k⟩

theorem lookS_st (ops : Array Oper) (i : Nat) (s : St) : (lookS ops i s).st = s.st := by unfold lookS; split <;> rfl

/-- Operations that change no store. -/
def stillOp : Op → Bool
  | .alloc _ => false
  | .box _ _ => false
  | .store _ _ _ => false
  | _ => true
theorem ev1_still {A : Ar} {tab : List TI} {s : St} {op : Op} {x : AV} {st' : List AObj} (h : ev1 A tab s op = some (x, st')) (hs : stillOp op = true) : st' = s.st := by
  cases op with
  | alloc t => simp [stillOp] at hs
  | box t y => simp [stillOp] at hs
  | store t y z => simp [stillOp] at hs
  | unOp op t y =>
    cases op <;> simp only [ev1] at h <;> (try split at h) <;> simp_all
  | call c =>
    simp only [ev1, evLen] at h
    repeat' split at h
    all_goals first
      | (simp only [Option.some.injEq, Prod.mk.injEq] at h; exact h.2.symm)
      | (simp at h; done)
      | (simp only [cond] at h; split at h <;> simp_all)
  | _ =>
    simp only [ev1] at h
    repeat' split at h
    all_goals first
      | (simp only [Option.some.injEq, Prod.mk.injEq] at h; exact h.2.symm)
      | (simp at h; done)
      | (simp only [cond] at h; repeat' split at h
         all_goals first | (simp at h; done) | (simp only [Option.some.injEq, Prod.mk.injEq] at h; exact h.2.symm))

/-- On through quiet operations as far as they go. -/
def qadv (A : Ar) (tab : List TI) (ops : Array Oper) : List Nat → St → List Nat × St
  | [], s => ([], s)
  | i :: rest, s => match ops[i]? with
    | some o => match o.dst with
      | some d => match gd ops (lookS ops i s) o.guard with
        | some true => match ev1 A tab (lookS ops i s) o.op with
          | some (x, _) => bif stillOp o.op && dstOk (lookS ops i s) o.dst then qadv A tab ops rest ⟨s.nt, (d, x) :: s.env, s.st⟩ else (i :: rest, s)
          | none => (i :: rest, s)
        | some false => bif dstOk (lookS ops i s) o.dst then qadv A tab ops rest ⟨s.nt, (d, .tup []) :: s.env, s.st⟩ else (i :: rest, s)
        | none => (i :: rest, s)
      | none => (i :: rest, s)
    | none => (i :: rest, s)

theorem QS.adv {P : Program} {A : Ar} {tab : List TI} (hA : A = real) (hT : TabOk P tab) {ops : Array Oper} {Q : St → Prop} : ∀ (l : List Nat) (s : St), QS P ops (qadv A tab ops l s).1 (qadv A tab ops l s).2 Q → QS P ops l s Q
  | [], s, h => h
  | i :: rest, s, h => by
    simp only [qadv] at h
    cases ho : ops[i]? with
    | none => simp only [ho] at h; exact h
    | some o =>
      simp only [ho] at h
      cases hd : o.dst with
      | none => simp only [hd] at h; exact h
      | some d =>
        simp only [hd] at h
        have hdo : dstOf ops i = some d := by simp [dstOf, ho, hd]
        cases hg : gd ops (lookS ops i s) o.guard with
        | none => simp only [hg] at h; exact h
        | some b =>
          cases b with
          | true =>
            simp only [hg] at h
            cases he : ev1 A tab (lookS ops i s) o.op with
            | none => simp only [he] at h; exact h
            | some p =>
              obtain ⟨x, st'⟩ := p
              simp only [he] at h
              cases hc : (stillOp o.op && dstOk (lookS ops i s) (some d)) with
              | false => rw [hc] at h; exact h
              | true =>
                rw [hc] at h
                simp only [cond_true] at h
                simp only [Bool.and_eq_true] at hc
                have hst := ev1_still he hc.1
                rw [lookS_st] at hst
                subst hst
                refine ⟨d, x, hdo, fun rest' Q' k => ?_, QS.adv hA hT rest _ h⟩
                refine AOL.step ho hg (by rw [hd]; exact hc.2) (ev1_nd he) (ev1_mem hA hT he) ?_
                rw [hdo, ← hd] at k
                exact k
          | false =>
            simp only [hg] at h
            cases hc : dstOk (lookS ops i s) (some d) with
            | false => rw [hc] at h; exact h
            | true =>
              rw [hc] at h
              simp only [cond_true] at h
              refine ⟨d, .tup [], hdo, fun rest' Q' k => ?_, QS.adv hA hT rest _ h⟩
              refine AOL.skip ho hg (by rw [hd]; exact hc) ?_
              rw [hdo, ← lookS_st ops i s, ← hd] at k
              exact k

theorem QS.to {P : Program} {A : Ar} {tab : List TI} (hA : A = real) (hT : TabOk P tab) {ops : Array Oper} {Q : St → Prop} {l l' : List Nat} {s s' : St} (h : qadv A tab ops l s = (l', s')) (k : QS P ops l' s' Q) : QS P ops l s Q :=
  QS.adv hA hT l s (by rw [h]; exact k)

theorem look_cons_ne {k t : Nat} {x : AV} {env : List (Nat × AV)} (h : k ≠ t) : look ((k, x) :: env) t = look env t := by
  have : Nat.beq k t = false := by
    cases hb : Nat.beq k t with
    | false => rfl
    | true => exact absurd (Nat.eq_of_beq_eq_true hb) h
  simp [look, this]
theorem look_cons_eq {k : Nat} {x : AV} {env : List (Nat × AV)} : look ((k, x) :: env) k = x := by simp [look, Nat.beq_refl]
theorem restr_congr {T s : St} {ts : List Nat} (hn : T.nt = s.nt) (hs : T.st = s.st) (h : ∀ t ∈ ts, T.get t = s.get t) : restr T ts = restr s ts := by
  unfold restr
  rw [hn, hs]
  congr 1
  exact List.map_congr_left fun t ht => by rw [h t ht]

/-- What a run of quiet operations is, put together. -/
theorem QS.collect {P : Program} {ops : Array Oper} {q : Nat} (hq : q ≤ ops.size) (hD : ∀ i o, i < q → ops[i]? = some o → ∃ d, o.dst = some d ∧ ∀ j, j < ops.size → dstOf ops j = some d → j = i)
    (hL : ∀ i o, i < q → ops[i]? = some o → ∀ t ∈ o.looksAt ops, ∀ j, j < q → dstOf ops j = some t → j < i) {Q : St → Prop} :
    ∀ (n k : Nat) (s : St), k + n = q → QS P ops ((List.range n).map (k + ·)) s Q → ∃ env, Q ⟨s.nt, env ++ s.env, s.st⟩ ∧ (∀ p ∈ env, ∃ i, k ≤ i ∧ i < q ∧ dstOf ops i = some p.1) ∧
      (∀ t, (∀ j, k ≤ j → j < q → dstOf ops j ≠ some t) → look (env ++ s.env) t = s.get t) ∧
      ∀ i o d, k ≤ i → i < q → ops[i]? = some o → o.dst = some d → ∃ x, look (env ++ s.env) d = x ∧ One none P ops i (restr ⟨s.nt, env ++ s.env, s.st⟩ (o.looksAt ops)) x s.st
  | 0, k, s, hk, h => ⟨[], h, by simp, fun t _ => rfl, fun i o d h1 h2 => by omega⟩
  | n + 1, k, s, hk, h => by
    rw [List.range_succ_eq_map, List.map_cons, List.map_map] at h
    simp only [QS, Nat.add_zero] at h
    obtain ⟨d, x, hd, hone, hrest⟩ := h
    have hrest' : QS P ops ((List.range n).map (k + 1 + ·)) ⟨s.nt, (d, x) :: s.env, s.st⟩ Q := by
      have : (List.range n).map ((fun x => k + x) ∘ Nat.succ) = (List.range n).map (k + 1 + ·) := List.map_congr_left fun j _ => by simp; omega
      rw [this] at hrest
      exact hrest
    obtain ⟨env, hQ, he, hl, ho⟩ := QS.collect hq hD hL n (k + 1) _ (by omega) hrest'
    refine ⟨env ++ [(d, x)], by simpa using hQ, fun p hp => ?_, fun t ht => ?_, fun i o d' h1 h2 hoi hdi => ?_⟩
    · rcases List.mem_append.1 hp with hp | hp
      · obtain ⟨i, a, b, c⟩ := he p hp
        exact ⟨i, by omega, b, c⟩
      · obtain rfl := List.mem_singleton.1 hp
        exact ⟨k, Nat.le_refl _, by omega, hd⟩
    · have := hl t fun j hj1 hj2 => ht j (by omega) hj2
      simp only [List.append_assoc, List.singleton_append]
      rw [this]
      exact look_cons_ne fun e => ht k (Nat.le_refl _) (by omega) (by rw [hd, e])
    · simp only [List.append_assoc, List.singleton_append]
      by_cases e : i = k
      · subst e
        obtain ⟨d2, hd2, huniq⟩ := hD i o h2 hoi
        have hdo : dstOf ops i = some d2 := by simp [dstOf, hoi, hd2]
        rw [hd] at hdo
        obtain rfl := Option.some.inj hdo
        rw [hdi] at hd2
        obtain rfl := Option.some.inj hd2
        have hsame : look (env ++ (d', x) :: s.env) d' = x := by
          rw [hl d' fun j hj1 hj2 hjd => by have := huniq j (by omega) hjd; omega]
          exact look_cons_eq
        refine ⟨x, hsame, ?_⟩
        have hre : restr ⟨s.nt, env ++ (d', x) :: s.env, s.st⟩ (o.looksAt ops) = lookS ops i s := by
          unfold lookS
          rw [hoi]
          refine restr_congr rfl rfl fun t ht => ?_
          have hlt := hL i o h2 hoi t ht
          show look (env ++ (d', x) :: s.env) t = _
          rw [hl t fun j hj1 hj2 hjd => by have := hlt j (by omega) hjd; omega]
          refine look_cons_ne fun e => ?_
          subst e
          have := hlt i (by omega) hd
          omega
        rw [hre]
        exact hone
      · exact ho i o d' (by omega) h2 hoi hdi

end Go.Proofs.YtklecijcpkolfaaDoor.Aw

/- The abstract walk, part 15: the named arithmetic, read. -/
namespace Go.Proofs.YtklecijcpkolfaaDoor.Aw
open Go Go.RowKit
section ar
variable {A : Ar} (hA : A = real)
include hA
end ar
theorem wok {z : Int} (h1 : -9223372036854775808 ≤ z) (h2 : z ≤ 9223372036854775807) : IntKind.i64.wrap z = z := IntWalk.i64_in z ⟨h1, h2⟩
abbrev I (z : Int) : IC := .lit (.int .i64 z)
abbrev Bo (b : Bool) : IC := .lit (.bool b)

end Go.Proofs.YtklecijcpkolfaaDoor.Aw

/- The abstract walk, part 16: ranges over functions. -/
set_option linter.unusedVariables false
set_option linter.unusedSimpArgs false
namespace Go.Proofs.YtklecijcpkolfaaDoor.Aw
open Go Go.RowKit

/-- The loop that stands in the store at i, asked for a round. -/
def AYield (P : Program) (i : Nat) (xs : List AV) (st : List AObj) (R : AV → List AObj → Prop) : Prop :=
  (∃ c, st[i]? = some (.lp c) ∧ xs.length = c.ps.size) ∧ ∀ (rr : Option Nat) (G : Nat → Prop) (g : Ghost) (w : World) (vals : Array Value) (l : Nat) (r : Loop), vals.size = xs.length → SR G st g w →
    (∀ (k : Nat) (x : AV), xs[k]? = some x → AR G st g w x (vals.getD k undef)) → g i = .pointer (some ⟨l, 0, none⟩) → w.heap[l]? = some (.loop r) →
    RoundIn (FW rr) 0 P l r.fn ((r.params.zip vals).foldl (fun tmps (t, a) => tmps.setIfInBounds t a) r.tmps) r.assign r.body w
      fun e w' => ∃ v x st' g', e = .returned v ∧ R x st' ∧ AR G st' g' w' x v ∧ SR G st' g' w' ∧ Evo st g w st' g' w'

/-- yield's arguments in the round's frame. -/
def pz : List Nat → List AV → List (Nat × AV) → List (Nat × AV)
  | p :: ps, x :: xs, env => pz ps xs ((p, x) :: env)
  | _, _, env => env

theorem pz_ar {G : Nat → Prop} {s : List AObj} {g : Ghost} {w : World} {nt : Nat} : ∀ (ps : List Nat) (xs : List AV) (vs : List Value) (env : List (Nat × AV)) (tmps : Array Value), tmps.size = nt → (∀ p ∈ ps, p < nt) → xs.length = vs.length →
    (∀ (k : Nat) (x : AV), xs[k]? = some x → AR G s g w x (vs.getD k undef)) → (∀ t, AR G s g w (look env t) (tmps.getD t undef)) →
    ((ps.zip vs).foldl (fun tmps (q : Nat × Value) => tmps.setIfInBounds q.1 q.2) tmps).size = nt ∧ ∀ t, AR G s g w (look (pz ps xs env) t) (((ps.zip vs).foldl (fun tmps (q : Nat × Value) => tmps.setIfInBounds q.1 q.2) tmps).getD t undef)
  | [], xs, vs, env, tmps, h1, h2, h3, h4, h5 => ⟨h1, h5⟩
  | p :: ps, [], vs, env, tmps, h1, h2, h3, h4, h5 => by
    obtain rfl : vs = [] := List.length_eq_zero_iff.1 h3.symm
    exact ⟨h1, h5⟩
  | p :: ps, x :: xs, [], env, tmps, h1, h2, h3, h4, h5 => by simp at h3
  | p :: ps, x :: xs, v :: vs, env, tmps, h1, h2, h3, h4, h5 => by
    simp only [List.zip_cons_cons, List.foldl_cons, pz]
    refine pz_ar ps xs vs _ _ (by simpa using h1) (fun q hq => h2 q (List.mem_cons_of_mem _ hq)) (by simpa using h3) (fun k y hk => by simpa using h4 (k + 1) y (by simpa using hk)) (fun t => ?_)
    rw [getD_set _ _ _ _ _ (by rw [h1]; exact h2 p List.mem_cons_self)]
    by_cases e : p = t
    · subst e
      rw [if_pos rfl, look_cons_eq]
      exact h4 0 x rfl
    · rw [if_neg e, look_cons_ne e]
      exact h5 t

/-- How a round's body may be left. -/
def YQ (i : Nat) (c : RC) (R : AV → List AObj → Prop) : Exit → St → Prop := fun e s => s.st[i]? = some (.lp { c with state := .busy }) ∧ match e with
  | .normal => R (.ic (.lit (.bool true))) (s.st.set i (.lp c))
  | .ret => R (.ic (.lit (.bool false))) (s.st.set i (.lp { c with state := .done, pend := some .ret }))
  | .exit id => R (.ic (.lit (.bool false))) (s.st.set i (.lp { c with state := .done, pend := some (.exit id) }))
  | _ => False

/-- A record turned in place. -/
theorem SR.relp {G : Nat → Prop} {s : List AObj} {g : Ghost} {w : World} (h : SR G s g w) {i l : Nat} {c c' : RC} {r : Loop} (hi : s[i]? = some (.lp c)) (hg : g i = .pointer (some ⟨l, 0, none⟩)) (hh : w.heap[l]? = some (.loop r))
    (r' : Loop) (e1 : r'.state = c'.state) (e2 : r'.pending = c'.pend) (e3 : r'.params = r.params) (e4 : r'.assign = r.assign) (e5 : r'.body = r.body) (e6 : r'.tmps = r.tmps) (c3 : c'.ps = c.ps) (c4 : c'.asn = c.asn) (c5 : c'.body = c.body) (c6 : c'.nt = c.nt) (c7 : c'.env = c.env) :
    Evo s g w (s.set i (.lp c')) g (w.putObj l (.loop r')) ∧ SR G (s.set i (.lp c')) g (w.putObj l (.loop r')) := by
  have hlt := (Array.getElem?_eq_some_iff.1 hh).1
  obtain ⟨b, rc, g1, hG, hh', f1, f2, f3, f4, f5, f6, f7⟩ := h.obj i _ hi
  rw [hg] at g1
  obtain rfl : l = b := by simpa using g1
  rw [hh] at hh'
  obtain rfl : r = rc := by simpa using hh'
  refine h.turn i (.lp c) (.lp c') l hi rfl (by rw [hg]; rfl) rfl (by simp) (by simp) rfl rfl rfl (by simp) (fun k hk => World.putObj_heap_other hk) (fun k => ?_) (fun c2 _ => ⟨c, rfl⟩)
  exact ⟨l, r', hg, hG, World.putObj_heap_same hlt, e1, e2, by rw [e3, f3, c3], by rw [e4, f4, c4], by rw [e5, f5, c5], by rw [e6, f6, c6], fun t => by rw [e6, c7]; exact (f7 t).evo k⟩

theorem AYield.of {P : Program} {i : Nat} {xs : List AV} {st : List AObj} {R : AV → List AObj → Prop} {c : RC} (hi : st[i]? = some (.lp c)) (hs : c.state = .ready) (hp : c.pend = none) (hlen : xs.length = c.ps.size) (hps : c.ps.toList.all (fun p => Nat.blt p c.nt) = true)
    (h : ∀ l, AWp (some l) P c.asn ⟨c.nt, pz c.ps.toList xs c.env, st⟩ (fun e s1 => e = .normal ∧ s1.st[i]? = some (.lp c) ∧ AWp (some l) P c.body ⟨s1.nt, s1.env, s1.st.set i (.lp { c with state := .busy })⟩ (YQ i c R))) : AYield P i xs st R := by
  refine ⟨⟨c, hi, hlen⟩, fun rr G g w vals l r hsz hr hval hgl hh => ?_⟩
  obtain ⟨b, rc, g1, hG, hh', f1, f2, f3, f4, f5, f6, f7⟩ := hr.obj i _ hi
  rw [hgl] at g1
  obtain rfl : l = b := by simpa using g1
  rw [hh] at hh'
  obtain rfl : r = rc := by simpa using hh'
  have hpz := pz_ar (G := G) (s := st) (g := g) (w := w) (nt := c.nt) c.ps.toList xs vals.toList c.env r.tmps f6 (fun p hp => by rw [List.all_eq_true] at hps; exact Nat.le_of_ble_eq_true (hps p hp)) (by simpa using hsz.symm)
    (fun k x hk => by rw [← getD_toList]; exact hval k x hk) f7
  have hfold : (r.params.zip vals).foldl (fun tmps (t, a) => tmps.setIfInBounds t a) r.tmps = (c.ps.toList.zip vals.toList).foldl (fun tmps (q : Nat × Value) => tmps.setIfInBounds q.1 q.2) r.tmps := by
    rw [f3, ← Array.foldl_toList, Array.toList_zip]
  rw [hfold, f4, f5]
  generalize (c.ps.toList.zip vals.toList).foldl (fun tmps (q : Nat × Value) => tmps.setIfInBounds q.1 q.2) r.tmps = T at hpz
  refine roundIn_of_wpIn (F := FW rr) trivial ?_
  have hrel : Rel G ⟨c.nt, pz c.ps.toList xs c.env, st⟩ g w { tmps := T, defers := [] } := ⟨hpz.2, hpz.1, hr⟩
  refine h l G g w _ 0 _ hrel (Nat.zero_le _) ⟨[], rfl, by simp, by simp⟩ ?_
  rintro e s1 g1 w1 a1 ⟨rfl, hi1, hbody⟩ hr1 hev1 hd1
  have hg1 : g1 i = .pointer (some ⟨l, 0, none⟩) := ((hev1.lp i c (List.getElem?_eq_some_iff.1 hi).1 hi1).2).trans hgl
  obtain ⟨b1, r1, q1, hG1, hh1, k1, k2, k3, k4, k5, k6, k7⟩ := hr1.sr.obj i _ hi1
  rw [hg1] at q1
  obtain rfl : l = b1 := by simpa using q1
  obtain ⟨hev2, hsr2⟩ := hr1.sr.relp hi1 hg1 hh1 { r1 with state := .busy } (c' := { c with state := .busy }) rfl k2 rfl rfl rfl rfl rfl rfl rfl rfl rfl
  refine ⟨_, run_beginRound hh1 (by rw [k1, hs]), ?_⟩
  refine hbody G g1 _ a1 0 _ ⟨fun t => (hr1.slots t).evo hev2, hr1.size, hsr2⟩ (Nat.zero_le _) (hd1.evo hr1.sr hev2) ?_
  rintro e s3 g3 w3 a3 ⟨hi3, hq⟩ hr3 hev3 hd3
  have hil : i < s1.st.length := (List.getElem?_eq_some_iff.1 hi1).1
  have hg3 : g3 i = .pointer (some ⟨l, 0, none⟩) := ((hev3.lp i _ (by simpa using hil) hi3).2).trans hg1
  obtain ⟨b3, r3, q3, hG3, hh3, m1, m2, m3, m4, m5, m6, m7⟩ := hr3.sr.obj i _ hi3
  rw [hg3] at q3
  obtain rfl : l = b3 := by simpa using q3
  have fin : ∀ (jump : Option Code) (c' : RC), c'.state = (if jump.isNone then .ready else .done) → c'.pend = jump → c'.ps = c.ps → c'.asn = c.asn → c'.body = c.body → c'.nt = c.nt → c'.env = c.env → R (.ic (.lit (.bool jump.isNone))) (s3.st.set i (.lp c')) →
      ∃ v w', (Instr.endRound l jump).run P w3 = .ok v w' ∧ ∃ v' x st' g', Ending.returned v = .returned v' ∧ R x st' ∧ AR G st' g' w' x v' ∧ SR G st' g' w' ∧ Evo st g w st' g' w' := by
    intro jump c' d1 d2 d3 d4 d5 d6 d7 hR
    obtain ⟨hev4, hsr4⟩ := hr3.sr.relp hi3 hg3 hh3 { r3 with state := if jump.isNone then .ready else .done, pending := jump } (c' := c') d1.symm d2.symm rfl rfl rfl rfl d3 d4 d5 d6 d7
    exact ⟨_, _, run_endRound jump hh3, _, _, _, _, rfl, hR, .ic _ _ (.lit _ rfl), hsr4, ((hev1.trans hev2).trans hev3).trans hev4⟩
  cases e with
  | normal => exact fin none c (by rw [hs]; rfl) hp rfl rfl rfl rfl rfl hq
  | ret => exact fin (some .ret) { c with state := .done, pend := some .ret } rfl rfl rfl rfl rfl rfl rfl hq
  | exit id => exact fin (some (.exit id)) { c with state := .done, pend := some (.exit id) } rfl rfl rfl rfl rfl rfl rfl hq
  | goto t => exact hq.elim
  | panic ch => exact hq.elim
  | outgrown => exact hq.elim

end Go.Proofs.YtklecijcpkolfaaDoor.Aw

/- The abstract walk, part 17: what was laid in a round is forgotten at its end. -/
set_option linter.unusedVariables false
set_option linter.unusedSimpArgs false
namespace Go.Proofs.YtklecijcpkolfaaDoor.Aw
open Go Go.RowKit

mutual
/-- The value names objects below n alone. -/
def closedB (n : Nat) : AV → Bool
  | .any => true
  | .ic _ => true
  | .own i _ => Nat.blt i n
  | .ptr i _ => Nat.blt i n
  | .at _ => true
  | .rat i _ _ _ => Nat.blt i n
  | .fn _ a b => closedBs n a && closedBs n b
  | .agg xs => closedBs n xs
  | .tup xs => closedBs n xs
  | .yl i => Nat.blt i n
def closedBs (n : Nat) : List AV → Bool
  | [] => true
  | x :: r => closedB n x && closedBs n r
end
def closedE (n : Nat) : List (Nat × AV) → Bool
  | [] => true
  | p :: r => closedB n p.2 && closedE n r
def closedO (n : Nat) : AObj → Bool
  | .dead => true
  | .var _ _ cs => closedBs n cs
  | .row _ _ _ _ _ => true
  | .lp c => closedE n c.env

theorem closedBs_get {n : Nat} {l : List AV} (h : closedBs n l = true) : ∀ (k : Nat) (x : AV), l[k]? = some x → closedB n x = true := by
  induction l with
  | nil => simp
  | cons y r ih =>
    simp only [closedBs, Bool.and_eq_true] at h
    intro k x hk
    cases k with
    | zero => simp at hk; subst hk; exact h.1
    | succ k => exact ih h.2 k x (by simpa using hk)
theorem closedBs_of {n : Nat} {l : List AV} (h : ∀ (k : Nat) (x : AV), l[k]? = some x → closedB n x = true) : closedBs n l = true := by
  induction l with
  | nil => rfl
  | cons y r ih => simp only [closedBs, Bool.and_eq_true]; exact ⟨h 0 y rfl, ih fun k x hk => h (k + 1) x (by simpa using hk)⟩
theorem closedE_look {n : Nat} {env : List (Nat × AV)} (h : closedE n env = true) (t : Nat) : closedB n (look env t) = true := by
  induction env with
  | nil => rfl
  | cons p r ih =>
    obtain ⟨k, x⟩ := p
    simp only [closedE, Bool.and_eq_true] at h
    simp only [look]
    cases Nat.beq k t with
    | true => exact h.1
    | false => exact ih h.2

/-- What stands for a value names objects that are there. -/
theorem AR.closed {G : Nat → Prop} {s : List AObj} {g : Ghost} {w : World} {x : AV} {v : Value} (h : AR G s g w x v) {n : Nat} (hn : s.length ≤ n) : closedB n x = true := by
  have lt : ∀ i, i < s.length → Nat.blt i n = true := fun i hi => Nat.ble_eq_true_of_le (show i + 1 ≤ n by omega)
  induction h with
  | any v => rfl
  | ic x v h => rfl
  | own i ver v hi hv h1 => exact lt i hi
  | ptr i off v hi hv h1 => exact lt i hi
  | «at» cs b o val hb hok hcell hin => rfl
  | rat i ver j off v hi hv h1 => exact lt i hi
  | fn f first cap vf vc h1 h2 h3 h4 ih3 ih4 =>
    simp only [closedB, Bool.and_eq_true]
    exact ⟨closedBs_of ih3, closedBs_of ih4⟩
  | agg xs vs h1 h2 h3 ih => exact closedBs_of ih
  | tup xs vs h1 h2 ih => exact closedBs_of ih
  | yl i v hi hv h1 => exact lt i hi

theorem own_take {s : List AObj} {g : Ghost} {b n : Nat} (h : Own (s.take n) g b) : Own s g b := by
  obtain ⟨i, o, hi, hm, hg⟩ := h
  rw [List.getElem?_take] at hi
  split at hi
  · exact ⟨i, o, hi, hm, hg⟩
  · simp at hi
theorem get_take {s : List AObj} {n i : Nat} {o : AObj} (h : (s.take n)[i]? = some o) : i < n ∧ s[i]? = some o := by
  rw [List.getElem?_take] at h
  split at h
  · exact ⟨by assumption, h⟩
  · simp at h

theorem IR.trim {G : Nat → Prop} {s : List AObj} {g : Ghost} {w : World} {x : IC} {v : Value} (h : IR w (Good G s g) x v) (n : Nat) : IR w (Good G (s.take n) g) x v :=
  h.mono (fun _ _ _ => rfl) (fun b _ hb => ⟨hb.1, fun ho => hb.2 (own_take ho)⟩) (Nat.le_refl _)

theorem AR.trim {G : Nat → Prop} {s : List AObj} {g : Ghost} {w : World} {x : AV} {v : Value} (h : AR G s g w x v) {n : Nat} (hc : closedB n x = true) (hl : n ≤ s.length) : AR G (s.take n) g w x v := by
  have lt : ∀ i, Nat.blt i n = true → i < (s.take n).length := fun i hi => by
    have := Nat.le_of_ble_eq_true hi
    rw [List.length_take]
    omega
  induction h with
  | any v => exact .any v
  | ic x v h => exact .ic x v (h.trim n)
  | own i ver v hi hv h1 => exact .own i ver v (lt i hc) (fun m v' e sz xs hs => hv m v' e sz xs (get_take hs).2) h1
  | ptr i off v hi hv h1 => exact .ptr i off v (lt i hc) (fun m t cs hs => hv m t cs (get_take hs).2) h1
  | «at» cs b o val hb hok hcell hin => exact .«at» cs b o val hb ⟨hok.1, fun ho => hok.2 (own_take ho)⟩ hcell (fun j x hj => (hin j x hj).trim n)
  | rat i ver j off v hi hv h1 => exact .rat i ver j off v (lt i hc) (fun m v' e sz xs hs => hv m v' e sz xs (get_take hs).2) h1
  | fn f first cap vf vc h1 h2 h3 h4 ih3 ih4 =>
    simp only [closedB, Bool.and_eq_true] at hc
    exact .fn f first cap vf vc h1 h2 (fun k x hk => ih3 k x hk (closedBs_get hc.1 k x hk)) (fun k x hk => ih4 k x hk (closedBs_get hc.2 k x hk))
  | agg xs vs h1 h2 h3 ih => exact .agg xs vs h1 (fun k x hk => ih k x hk (closedBs_get hc k x hk)) h3
  | tup xs vs h1 h2 ih => exact .tup xs vs h1 (fun k x hk => ih k x hk (closedBs_get hc k x hk))
  | yl i v hi hv h1 => exact .yl i v (lt i hc) (fun c hs => hv c (get_take hs).2) h1

def OClosed (n : Nat) : AObj → Prop
  | .var _ _ cs => closedBs n cs = true
  | .lp c => ∀ t, closedB n (look c.env t) = true
  | _ => True

theorem OR.closed {G : Nat → Prop} {s : List AObj} {g : Ghost} {w : World} {i : Nat} {o : AObj} (h : OR G s g w i o) {n : Nat} (hn : s.length ≤ n) : OClosed n o := by
  cases o with
  | dead => trivial
  | row => trivial
  | var m t cs =>
    obtain ⟨b, vs, h1, h2, h3, h4, h5, h6⟩ := h
    exact closedBs_of fun k x hk => (h6 k x hk).closed hn
  | lp c =>
    obtain ⟨b, r, h1, h2, h3, e1, e2, e3, e4, e5, e6, h4⟩ := h
    exact fun t => (h4 t).closed hn

theorem OR.trim {G : Nat → Prop} {s : List AObj} {g : Ghost} {w : World} {i : Nat} {o : AObj} (h : OR G s g w i o) {n : Nat} (hl : n ≤ s.length) (hc : OClosed n o) : OR G (s.take n) g w i o := by
  cases o with
  | dead => trivial
  | row m ver e sz xs =>
    obtain ⟨cells, h1, h2, h3⟩ := h
    exact ⟨cells, h1, h2, h3.mono fun x v hr => hr.trim n⟩
  | var m t cs =>
    obtain ⟨b, vs, h1, h2, h3, h4, h5, h6⟩ := h
    exact ⟨b, vs, h1, h2, h3, h4, h5, fun k x hk => (h6 k x hk).trim (closedBs_get hc k x hk) hl⟩
  | lp c =>
    obtain ⟨b, r, h1, h2, h3, e1, e2, e3, e4, e5, e6, h4⟩ := h
    exact ⟨b, r, h1, h2, h3, e1, e2, e3, e4, e5, e6, fun t => (h4 t).trim (hc t) hl⟩

/-- Each object is as it was, or names objects below n alone. -/
def trimOk (n : Nat) : List AObj → List AObj → Prop
  | o :: os, p :: ps => (p = o ∨ closedO n p = true) ∧ trimOk n os ps
  | [], ps => ps.all (closedO n) = true
  | _ :: _, [] => True
theorem trimOk_get {n : Nat} : ∀ {l l' : List AObj}, trimOk n l l' → ∀ (i : Nat) (p : AObj), l'[i]? = some p → l[i]? = some p ∨ closedO n p = true
  | [], l', h, i, p, hp => by
    simp only [trimOk, List.all_eq_true] at h
    exact .inr (h p (List.mem_of_getElem? hp))
  | o :: os, [], h, i, p, hp => by simp at hp
  | o :: os, q :: qs, h, i, p, hp => by
    cases i with
    | zero =>
      simp at hp
      subst hp
      rcases h.1 with h | h
      · exact .inl (by rw [h]; rfl)
      · exact .inr h
    | succ i =>
      have := trimOk_get h.2 i p (by simpa using hp)
      simpa using this

theorem trimS {G : Nat → Prop} {s s' : List AObj} {g g' : Ghost} {w w' : World} (h0 : SR G s g w) (h : SR G s' g' w') (k : Evo s g w s' g' w') {n : Nat} (h1 : s.length ≤ n) (h2 : n ≤ s'.length) (ht : trimOk n s (s'.take n)) :
    SR G (s'.take n) g' w' ∧ Evo s g w (s'.take n) g' w' := by
  refine ⟨⟨fun i o hi => ?_, fun i j o o' b hi hj => h.inj i j o o' b (get_take hi).2 (get_take hj).2, h.new⟩,
    ⟨k.os, k.tape, k.output, k.size, k.heap, fun b hb ho => k.own b hb (own_take ho), by rw [List.length_take]; omega, fun i m t cs hi hs => k.var i m t cs hi (get_take hs).2,
      fun i m ver e sz xs hi hs => k.row i m ver e sz xs hi (get_take hs).2, fun i c hi hs => k.lp i c hi (get_take hs).2⟩⟩
  refine (h.obj i o (get_take hi).2).trim h2 ?_
  rcases trimOk_get ht i o hi with ho | ho
  · exact (h0.obj i o ho).closed h1
  · cases o with
    | var m t cs => exact ho
    | lp c => exact fun t => closedE_look ho t
    | _ => trivial

/-- The state with the objects below n alone, and these slots. -/
def Trim (n : Nat) (st : List AObj) (env : List (Nat × AV)) (s' : St) : Prop := n ≤ s'.st.length ∧ trimOk n st (s'.st.take n) ∧ closedE n env = true ∧ ∀ p ∈ env, s'.get p.1 = p.2

theorem AWp.trim {r : Option Nat} {P : Program} {c : Code} {s : St} {Q : Exit → St → Prop} (n : Nat) (hn : s.st.length ≤ n) (h : AWp r P c s fun e s' => ∃ env, Trim n s.st env s' ∧ Q e ⟨s'.nt, env, s'.st.take n⟩) : AWp r P c s Q := fun G g w a B QQ hr hB hd kk => by
  refine h G g w a B QQ hr hB hd ?_
  rintro e s' g' w' a' ⟨env, ⟨h2, ht, hce, hget⟩, hQ⟩ hr' hev hd'
  obtain ⟨hsr, hev'⟩ := trimS hr.sr hr'.sr hev hn h2 ht
  refine kk e _ g' w' a' hQ ⟨fun t => ?_, hr'.size, hsr⟩ hev' hd'
  show AR G (s'.st.take n) g' w' (look env t) _
  rcases look_mem env t with e0 | ⟨p, hp, e1, e2⟩
  · rw [e0]; exact .any _
  · have hcl := closedE_look hce t
    rw [← e2] at hcl ⊢
    have hx := hr'.slots t
    rw [← e1] at hx
    rw [hget p hp] at hx
    rw [← e1]
    exact hx.trim hcl h2

def subE (s : St) : List (Nat × AV) → Prop
  | [] => True
  | p :: r => s.get p.1 = p.2 ∧ subE s r
theorem subE_mem {s : St} {env : List (Nat × AV)} (h : subE s env) : ∀ p ∈ env, s.get p.1 = p.2 := by
  induction env with
  | nil => simp
  | cons q r ih =>
    intro p hp
    rcases List.mem_cons.1 hp with rfl | hp
    · exact h.1
    · exact ih h.2 p hp
theorem subE.nil {s : St} : subE s [] := trivial
theorem subE.cons {s : St} {t : Nat} {x : AV} {r : List (Nat × AV)} (h : s.get t = x) (k : subE s r) : subE s ((t, x) :: r) := ⟨h, k⟩
theorem Sub.of {s : St} {nt : Nat} {env : List (Nat × AV)} {st : List AObj} (h1 : s.nt = nt) (h2 : s.st = st) (h : subE s env) : Sub ⟨nt, env, st⟩ s := by
  subst h1 h2
  exact ⟨rfl, rfl, subE_mem h⟩
theorem Blk.here {id : Nat} {Q : Exit → St → Prop} {s : St} (h : Q .normal s) : Blk id Q (.exit id) s := by simpa [Blk] using h
theorem Blk.other {id id' : Nat} {Q : Exit → St → Prop} {s : St} (hn : id' ≠ id) (h : Q (.exit id') s) : Blk id Q (.exit id') s := by simpa [Blk, hn] using h
theorem Thn.exit {Q1 : St → Prop} {Q : Exit → St → Prop} {id : Nat} {s : St} (h : Q (.exit id) s) : Thn Q1 Q (.exit id) s := h
theorem trimOk.nil {n : Nat} : trimOk n [] [] := rfl
theorem trimOk.same {n : Nat} {o : AObj} {os ps : List AObj} (k : trimOk n os ps) : trimOk n (o :: os) (o :: ps) := ⟨.inl rfl, k⟩
theorem trimOk.turn {n : Nat} {o p : AObj} {os ps : List AObj} (h : closedO n p = true) (k : trimOk n os ps) : trimOk n (o :: os) (p :: ps) := ⟨.inr h, k⟩
theorem Trim.of {n : Nat} {st : List AObj} {env : List (Nat × AV)} {s' : St} (h1 : Nat.ble n s'.st.length = true) (h2 : trimOk n st (s'.st.take n)) (h3 : closedE n env = true) (h4 : subE s' env) : Trim n st env s' := ⟨Nat.le_of_ble_eq_true h1, h2, h3, subE_mem h4⟩
end Go.Proofs.YtklecijcpkolfaaDoor.Aw

/- The abstract walk, part 18: moves that may come at any time. -/
set_option linter.unusedVariables false
set_option linter.unusedSimpArgs false
namespace Go.Proofs.YtklecijcpkolfaaDoor.Aw
open Go Go.RowKit
section draw
variable {r : Option Nat} {P : Program} {ops : Array Oper}
def mvOf (ops : Array Oper) (f : Nat) : Option (Nat × Operand) := match ops[f]? with
  | some o => match o.op, o.guard, o.dst with
    | .move x, none, some d => bif o.after.isEmpty then some (d, x) else none
    | _, _, _ => none
  | none => none
theorem mvOf_ok {ops : Array Oper} {f d : Nat} {x : Operand} (h : mvOf ops f = some (d, x)) : ∃ o, ops[f]? = some o ∧ o.op = .move x ∧ o.guard = none ∧ o.dst = some d ∧ o.after = #[] := by
  unfold mvOf at h
  split at h
  · rename_i o ho
    split at h
    · rename_i y d' h1 h2 h3
      cases hb : o.after.isEmpty with
      | false => rw [hb] at h; simp at h
      | true =>
        rw [hb] at h
        simp only [cond_true, Option.some.injEq, Prod.mk.injEq] at h
        obtain ⟨rfl, rfl⟩ := h
        exact ⟨o, ho, h1, h2, h3, by simpa using hb⟩
    · simp at h
  · simp at h
/-- The free moves may be taken first. -/
def takeB (nt : Nat) (ops : Array Oper) : List Nat → Array Bool → Bool
  | [], _ => true
  | f :: fr, listed => (match mvOf ops f with | some (d, _) => Nat.blt d nt | none => false) && !listed.getD f true && Region.free .any ops listed f && takeB nt ops fr (listed.setIfInBounds f true)
/-- .. and lead to this state. -/
def frS (ops : Array Oper) : List Nat → St → St
  | [], s => s
  | f :: fr, s => match mvOf ops f with
    | some (d, x) => frS ops fr ⟨s.nt, (d, s.ev x) :: s.env, s.st⟩
    | none => frS ops fr s

theorem takes {G : Nat → Prop} {g : Ghost} {w : World} {QQ : Exit → Act → World → Prop} (hs : Region.noSelect ops = true) {nt q : Nat} :
    ∀ (fr : List Nat) (s : St) (listed : Array Bool) (a : Act) (fuel : Nat), s.nt = nt → listed.size = ops.size → (∀ f ∈ fr, f < q) → q ≤ ops.size → takeB nt ops fr listed = true → Rel G s g w a → left listed q + (ops.size - q) = fuel →
      (∀ j, q ≤ j → j < ops.size → listed.getD j true = false) → Closed ops listed →
      (∀ listed' a' fuel', listed'.size = ops.size → left listed' q + (ops.size - q) = fuel' → (∀ j, q ≤ j → j < ops.size → listed'.getD j true = false) → (∀ f, f ∈ fr ∨ listed.getD f true = true ∧ f < ops.size → listed'.getD f true = true) → (∀ f, f < ops.size → listed'.getD f true = true → f ∈ fr ∨ listed.getD f true = true) →
        Closed ops listed' → Rel G (frS ops fr s) g w a' → a'.defers = a.defers → wpAnyIn (FW none) 0 P .any ops (fun e a w => e = .normal ∧ QQ e a w) fuel' listed' a' w) →
      wpAnyIn (FW none) 0 P .any ops (fun e a w => e = .normal ∧ QQ e a w) fuel listed a w
  | [], s, listed, a, fuel, hn, hsz, hfq, hqs, hb, hr, hl, h2, hc, k => k listed a fuel hsz hl h2 (fun f hf => by rcases hf with hf | hf; simp at hf; exact hf.1) (fun f _ hf => .inr hf) hc hr rfl
  | f :: fr, s, listed, a, fuel, hn, hsz, hfq, hqs, hb, hr, hl, h2, hc, k => by
    simp only [takeB, Bool.and_eq_true, Bool.not_eq_true'] at hb
    obtain ⟨⟨⟨hb1, hb2⟩, hb3⟩, hb4⟩ := hb
    cases hm : mvOf ops f with
    | none => simp [hm] at hb1
    | some p =>
      obtain ⟨d, x⟩ := p
      simp only [hm] at hb1
      have hd := Nat.le_of_ble_eq_true hb1
      obtain ⟨o, ho, hop, hg, hdst, haf⟩ := mvOf_ok hm
      have hfl : f < ops.size := (Array.getElem?_eq_some_iff.1 ho).1
      have hfq' := hfq f List.mem_cons_self
      have hleft := left_set (listed := listed) (i := f) (q := q) (by omega) hfq' hb2
      have hready : f ∈ Region.ready .any ops listed := ready_of ho hb2 (by rw [haf]; simp)
      have hy : YieldsFenced P ops o (a.eval x) a := by
        refine ⟨.inl ⟨by unfold Region.wanted; rw [hg], fun w => by simp [execOp, hop]⟩, fun w => by simp [Oper.about, hop]⟩
      obtain ⟨m, rfl⟩ : ∃ m, fuel = m + 1 := ⟨fuel - 1, by omega⟩
      refine wpAnyIn_take (i := f) rfl ho hs hb3 (by simpa using hready) (fun c a w h => by simp at h) hy ?_
      have hrel : Rel G ⟨s.nt, (d, s.ev x) :: s.env, s.st⟩ g w (a.put o.dst (a.eval x)) := by
        rw [hdst]
        exact hr.put d (by omega) (.refl _ _ _) hr.sr (hr.ev x)
      refine takes hs fr ⟨s.nt, (d, s.ev x) :: s.env, s.st⟩ (listed.setIfInBounds f true) (a.put o.dst (a.eval x)) m hn (by simpa using hsz) (fun f' hf' => hfq f' (List.mem_cons_of_mem _ hf')) hqs hb4 hrel (by omega) (fun j hj1 hj2 => ?_) (closed_set hc ho (by omega) (by rw [haf]; simp)) ?_
      · rw [getD_setB _ _ _ _ (by omega), if_neg (by omega)]
        exact h2 j hj1 hj2
      · intro listed' a' fuel' e1 e2 e3 e4 e5 e6 e7 e8
        refine k listed' a' fuel' e1 e2 e3 (fun f' hf' => ?_) (fun f' hf1 hf2 => ?_) e6 (by simpa only [frS, hm] using e7) (by rw [e8]; cases o.dst <;> rfl)
        · rcases hf' with hf' | hf'
          · rcases List.mem_cons.1 hf' with rfl | hf'
            · exact e4 f' (.inr ⟨by rw [getD_setB _ _ _ _ (by omega), if_pos rfl], hfl⟩)
            · exact e4 f' (.inl hf')
          · refine e4 f' (.inr ⟨?_, hf'.2⟩)
            rw [getD_setB _ _ _ _ (by omega)]
            split
            · rfl
            · exact hf'.1
        · rcases e5 f' hf1 hf2 with h | h
          · exact .inl (List.mem_cons_of_mem _ h)
          · rw [getD_setB _ _ _ _ (by omega)] at h
            split at h
            · rename_i e; subst e; exact .inl List.mem_cons_self
            · exact .inr h

/-- What is asked of the region's text. -/
def drawFB (ops : Array Oper) (q : Nat) (fr : List Nat) : Bool :=
  Nat.ble q ops.size && fr.all (fun f => Nat.blt f q) && Region.noSelect ops &&
  (List.range ops.size).all (fun i => match ops[i]? with
    | some o => o.after.all (fun e => !bindsE e || Nat.blt e.on i) &&
      (bif Nat.blt i q then
        (match o.dst with | some d => (List.range ops.size).all (fun j => Nat.beq i j || !(dstOf ops j == some d)) | none => false) &&
        (o.looksAt ops).all (fun t => (List.range ops.size).all (fun j => !(dstOf ops j == some t) || (Nat.blt j q && o.after.any (fun e => bindsE e && Nat.beq e.on j))))
      else (List.range i).all (fun j => fr.contains j || aheadB ops ops.size i j))
    | none => false)

end draw
end Go.Proofs.YtklecijcpkolfaaDoor.Aw

/- The abstract walk, part 19: rounds whose own objects are forgotten. -/
set_option linter.unusedVariables false
set_option linter.unusedSimpArgs false
namespace Go.Proofs.YtklecijcpkolfaaDoor.Aw
open Go Go.RowKit

/-- How a round's body may be left; n: the objects that stay. -/
def YT (n i : Nat) (st : List AObj) (b c : RC) (R : AV → List AObj → Prop) : Exit → St → Prop := fun e s => s.st[i]? = some (.lp b) ∧ n ≤ s.st.length ∧ match e with
  | .normal => trimOk n st ((s.st.set i (.lp c)).take n) ∧ R (.ic (.lit (.bool true))) ((s.st.set i (.lp c)).take n)
  | .ret => ∀ d, d = { c with state := .done, pend := some .ret } → trimOk n st ((s.st.set i (.lp d)).take n) ∧ R (.ic (.lit (.bool false))) ((s.st.set i (.lp d)).take n)
  | .exit id => ∀ d, d = { c with state := .done, pend := some (.exit id) } → trimOk n st ((s.st.set i (.lp d)).take n) ∧ R (.ic (.lit (.bool false))) ((s.st.set i (.lp d)).take n)
  | _ => False

end Go.Proofs.YtklecijcpkolfaaDoor.Aw

/- The abstract walk, part 20: empty slices that are new; structs of numbers, compared. -/
set_option linter.unusedVariables false
set_option linter.unusedSimpArgs false
namespace Go.Proofs.YtklecijcpkolfaaDoor.Aw
open Go Go.RowKit
theorem does_build0 {P : Program} {s : St} (t e : TypeId) (sz : Nat) (ht : (tyi P t).there = true) (hk : (tyi P t).k = .slice e) (hsz : (tyi P e).size = sz) :
    Does P s (fun ρ => do pure (.value (← Instr.buildSlice t 0 ((#[] : Array (Nat × Operand)).map fun (i, x) => (i, ρ x))))) (.own s.st.length 0) (s.st ++ [.row true 0 e sz []]) := fun G g w a hrel => by
  have hu := tk_slice hk
  obtain ⟨i0, hi0⟩ := info_there (there_elem ht hu)
  have hsize : i0.size = sz := by have : P.cellsOf e = sz := hsz; simpa [Program.cellsOf, hi0] using this
  have hrun : (Instr.buildSlice t 0 ((#[] : Array (Nat × Operand)).map fun (i, x) => (i, a.eval x))).run P w = .ok (.slice (some ⟨w.heap.size, 0, none⟩) 0 0) (w.alloc (.cells #[] e)) := by
    have e0 : Array.map (fun _ => (default : Value)) (Array.range 0) = #[] := by apply Array.eq_empty_of_size_eq_zero; simp
    simp [Instr.buildSlice, run_underlying hu, sizeOf, typeInfo, hi0, Instr.fill, newRow, e0]
  have hg : w.grownBy (w.alloc (.cells #[] e)) none := ⟨rfl, rfl, rfl, by simp, fun b hb _ => Below.heap_alloc _ _ _ hb⟩
  obtain ⟨g', hev, hsr, har⟩ := SR.newRow hrel e sz [] (.slice (some ⟨w.heap.size, 0, none⟩) 0 0) [] hg (fun b hb => by simp [gb] at hb; omega)
    ⟨by simp, .inr ⟨w.heap.size, 0, #[], rfl, Nat.zero_le _, heap_alloc_new _ _, Nat.le_refl _, by simp [maxLen], by simp, by simp⟩⟩ (fun ok => .nil _ _ _)
  exact ⟨_, _, g', _, by simp only [Sem.run_bind, hrun, Result.andThen_ok, Sem.run_pure], .inl rfl, hev, hsr, har⟩
theorem One.build0 {r : Option Nat} {P : Program} {ops : Array Oper} {i : Nat} {s : St} {tab : List TI} (hT : TabOk P tab) {t e : TypeId} {j : TI} (h : opAt ops i s = some (.buildSlice t 0 #[])) (ht : slT tab t = some (e, j)) : One r P ops i s (.own s.st.length 0) (s.st ++ [.row true 0 e j.size []]) := by
  obtain ⟨g1, g2, rfl⟩ := slT_ok hT ht
  exact .does h rfl fun o hop => (does_build0 t e _ g1 g2 rfl).congr fun ρ => by simp only [execOp, hop]

/-- The type is a struct of n numbers. -/
def intsB (P : Program) (t : TypeId) (n : Nat) : Bool := match P.underlying t with
  | some (.struct fs) => !P.stoodInHeld t && !(P.eqGuardType P.depth t) && Nat.beq fs.size n && (List.range n).all (fun i => match fs[i]? with
    | some f => Nat.beq f.offset i && f.name != "_" && P.plainKey f.type && (match P.underlying f.type with | some (.int .i64) => true | _ => false)
    | none => false)
  | _ => false

end Go.Proofs.YtklecijcpkolfaaDoor.Aw

/- The abstract walk, part 21: the row's data, read. -/
set_option linter.unusedVariables false
set_option linter.unusedSimpArgs false
namespace Go.Proofs.YtklecijcpkolfaaDoor.Aw
open Go Go.RowKit

/-- The shape of a type's values. by: an element's bytes. -/
inductive Sh where
  | int (k : IntKind) | bool | str | sl (by' : Nat) (e : Sh) | st (fs : List Sh)
mutual
def Sh.sz : Sh → Nat
  | .int _ => 1
  | .bool => 1
  | .str => 1
  | .sl _ _ => 1
  | .st fs => szs fs
def szs : List Sh → Nat
  | [] => 0
  | s :: r => s.sz + szs r
end
mutual
def shB (P : Program) : Sh → TypeId → Bool
  | .int k, t => match P.underlying t with | some (.int k') => decide (k = k') | _ => false
  | .bool, t => match P.underlying t with | some .bool => true | _ => false
  | .str, t => match P.underlying t with | some .string => true | _ => false
  | .sl b e, t => match P.underlying t with | some (.slice e') => shB P e e' && Nat.beq (P.bytesOf e') b && Nat.beq (P.cellsOf e') e.sz && !Nat.beq e.sz 0 | _ => false
  | .st fs, t => match P.underlying t with | some (.struct f) => shBs P fs f.toList 0 && Nat.beq (P.cellsOf t) (szs fs) | _ => false
def shBs (P : Program) : List Sh → List Field → Nat → Bool
  | [], [], _ => true
  | s :: r, f :: fs, off => Nat.beq f.offset off && Nat.beq (P.cellsOf f.type) s.sz && shB P s f.type && shBs P r fs (off + s.sz)
  | _, _, _ => false
end
mutual
def Dec : Sh → List IC → Prop
  | .int k, cs => ∃ n, cs = [.lit (.int k n)] ∧ (Lit.int k n).wf = true
  | .bool, cs => ∃ b, cs = [.lit (.bool b)]
  | .str, cs => ∃ s : ByteArray, cs = [.lit (.string s)] ∧ s.size ≤ 140737488351232
  | .sl b e, cs => ∃ rows : List (List IC), cs = [.sl e.sz false rows] ∧ (∀ r ∈ rows, Dec e r) ∧ rows.length * b ≤ 140737488351232
  | .st fs, cs => Decs fs cs
def Decs : List Sh → List IC → Prop
  | [], cs => cs = []
  | s :: r, cs => ∃ a b, cs = a ++ b ∧ Dec s a ∧ Decs r b
end

/-- Cells that stand for data. -/
def Rows (W : World) (ics : List IC) (cs : List Value) : Prop := ics.length = cs.length ∧ ∀ (k : Nat) (y : IC) (v : Value), ics[k]? = some y → cs[k]? = some v → IR W (fun b => b < W.heap.size) y v

theorem Rows.append {W : World} {a b : List IC} {cs ds : List Value} (h : Rows W a cs) (k : Rows W b ds) : Rows W (a ++ b) (cs ++ ds) := by
  refine ⟨by rw [List.length_append, List.length_append, h.1, k.1], fun j y v hy hv => ?_⟩
  by_cases e : j < a.length
  · rw [List.getElem?_append_left e] at hy
    rw [List.getElem?_append_left (by rw [← h.1]; exact e)] at hv
    exact h.2 j y v hy hv
  · rw [List.getElem?_append_right (by omega)] at hy
    rw [List.getElem?_append_right (by rw [← h.1]; omega), ← h.1] at hv
    exact k.2 _ y v hy hv
theorem Rows.one {W : World} {x : IC} {v : Value} (h : IR W (fun b => b < W.heap.size) x v) : Rows W [x] [v] := ⟨rfl, fun k y u hy hu => by
  have : k = 0 := by have := (List.getElem?_eq_some_iff.1 hy).1; simp at this; omega
  subst this
  simp at hy hu
  subst hy hu
  exact h⟩

section dec
variable {H : Type} {enc : TypeId × Value → H} {P : Program} {W : World}

theorem all_append {l r : List Nat} (h : (l ++ r).all (· ≤ reachBytes) = true) : l.all (· ≤ reachBytes) = true ∧ r.all (· ≤ reachBytes) = true := by
  simpa [List.all_append] using h

theorem weightsAll_mem {e : TypeId} {ds : List (DataW H)} (h : (DataW.weightsAll P e ds).all (· ≤ reachBytes) = true) : ∀ (i : Nat) (d : DataW H), ds[i]? = some d → (d.weights P e).all (· ≤ reachBytes) = true := by
  induction ds with
  | nil => simp
  | cons x r ih =>
    simp only [DataW.weightsAll] at h
    obtain ⟨h1, h2⟩ := all_append h
    intro i d hd
    cases i with
    | zero => simp at hd; subst hd; exact h1
    | succ i => exact ih h2 i d (by simpa using hd)

theorem cells_get {base : Nat} {a : Addr} {n : Nat} {cs : List Value} (h : W.cells? base a n = some cs) : cs.length = n ∧ ∀ (k : Nat) (v : Value), cs[k]? = some v → W.cell? (a.add k) = some v := by
  unfold World.cells? at h
  split at h
  · have h1 : cs.length = n := by simpa using mapM_some_length h
    refine ⟨h1, fun k v hv => ?_⟩
    have hk : k < n := by rw [← h1]; exact (List.getElem?_eq_some_iff.1 hv).1
    have := mapM_some_get h k k (by simp [hk])
    rw [this, hv]
  · simp at h

theorem cell_block {a : Addr} {v : Value} (h : W.cell? a = some v) : a = ⟨a.block, a.off, none⟩ ∧ a.block < W.heap.size := by
  obtain ⟨b, o, s⟩ := a
  unfold World.cell? at h
  cases hb : W.heap[b]? with
  | none => simp [hb] at h
  | some ob =>
    refine ⟨?_, (Array.getElem?_eq_some_iff.1 hb).1⟩
    cases ob with
    | cells c e f =>
      simp only [hb] at h
      cases s with
      | none => rfl
      | some s => simp at h
    | _ => simp [hb] at h

mutual
theorem dec (s : Sh) (t : TypeId) (fuel : Nat) (cs : List Value) (x : DataW H × List MemPlace) (hB : shB P s t = true) (h : DataW.trod enc P W 0 (fun _ => true) true fuel t cs = some x) (hw : (x.1.weights P t).all (· ≤ reachBytes) = true) :
    ∃ ics, Dec s ics ∧ Rows W ics cs ∧ cs.length = s.sz := by
  match s, hB with
  | .int k, hB =>
    simp only [shB] at hB
    split at hB
    · rename_i k' hu
      obtain rfl := of_decide_eq_true hB
      obtain ⟨n, rfl, _, hwf⟩ := DataW.trod_int hu h
      exact ⟨_, ⟨n, rfl, hwf⟩, .one (.lit _ rfl), rfl⟩
    · simp at hB
  | .bool, hB =>
    simp only [shB] at hB
    split at hB
    · rename_i hu
      obtain ⟨b, rfl, _⟩ := DataW.trod_bool hu h
      exact ⟨_, ⟨b, rfl⟩, .one (.lit _ rfl), rfl⟩
    · simp at hB
  | .str, hB =>
    simp only [shB] at hB
    split at hB
    · rename_i hu
      obtain ⟨b, rfl, rfl, _⟩ := DataW.trod_string hu h
      refine ⟨_, ⟨b, rfl, ?_⟩, .one (.lit _ rfl), rfl⟩
      simp only [DataW.weights, List.all_cons, List.all_nil, Bool.and_true, decide_eq_true_eq] at hw
      have : b.data.toList.length = b.size := by rw [Array.length_toList]; rfl
      rw [this] at hw
      exact hw
    · simp at hB
  | .sl b e, hB =>
    simp only [shB] at hB
    split at hB
    · rename_i e' hu
      simp only [Bool.and_eq_true, Bool.not_eq_true'] at hB
      obtain ⟨⟨⟨b1, b2⟩, b3⟩, b4⟩ := hB
      have b2 := Nat.eq_of_beq_eq_true b2
      have b3 := Nat.eq_of_beq_eq_true b3
      have b4 : e.sz ≠ 0 := fun e0 => by rw [e0] at b4; simp at b4
      rcases DataW.trod_slice hu h with ⟨rfl, rfl⟩ | ⟨a, len, cap, elems, rest, n, rfl, rfl, rfl, _, hl, hm, hlen, hel, hsp, _⟩
      · exact ⟨_, ⟨[], rfl, by simp, by simp⟩, .one (.nil _ _ _ _ (by simp) (Nat.zero_le _)), rfl⟩
      · simp only [DataW.weights, hu, List.all_cons, Bool.and_eq_true, decide_eq_true_eq, List.length_map] at hw
        obtain ⟨hw1, hw2⟩ := hw
        obtain ⟨hw2, _⟩ := all_append hw2
        have hrl := (hsp rfl).1
        have hcells : ∀ i, i < len → ∃ ecs, W.cells? 0 (a.add (i * e.sz)) e.sz = some ecs ∧ ∃ r, Dec e r ∧ Rows W r ecs ∧ ecs.length = e.sz := fun i hi => by
          have hi' := hel i hi
          rw [b3] at hi'
          have hei := List.getElem?_eq_getElem (show i < elems.length by omega)
          rw [hei] at hi'
          cases hc : W.cells? 0 (a.add (i * e.sz)) e.sz with
          | none => rw [hc] at hi'; simp at hi'
          | some ecs =>
            rw [hc, Option.bind_some] at hi'
            obtain ⟨r, h1, h2, h3⟩ := dec e e' n ecs elems[i] b1 hi' (weightsAll_mem hw2 i _ (by rw [List.getElem?_map, hei]; rfl))
            exact ⟨ecs, rfl, r, h1, h2, h3⟩
        have hex : ∃ rows : Nat → List IC, ∀ i, i < len → ∃ ecs, W.cells? 0 (a.add (i * e.sz)) e.sz = some ecs ∧ Dec e (rows i) ∧ Rows W (rows i) ecs ∧ ecs.length = e.sz := by
          refine ⟨fun i => Classical.epsilon fun r => ∃ ecs, W.cells? 0 (a.add (i * e.sz)) e.sz = some ecs ∧ Dec e r ∧ Rows W r ecs ∧ ecs.length = e.sz, fun i hi => ?_⟩
          obtain ⟨ecs, q1, r, q2, q3, q4⟩ := hcells i hi
          exact Classical.epsilon_spec (p := fun r => ∃ ecs, W.cells? 0 (a.add (i * e.sz)) e.sz = some ecs ∧ Dec e r ∧ Rows W r ecs ∧ ecs.length = e.sz) ⟨r, ecs, q1, q2, q3, q4⟩
        obtain ⟨rows, hrows⟩ := hex
        have hget : ∀ (j : Nat) (r : List IC), ((List.range len).map rows)[j]? = some r → j < len ∧ r = rows j := fun j r hj => by
          rw [List.getElem?_map] at hj
          simp only [Option.map_eq_some_iff] at hj
          obtain ⟨q, hq, rfl⟩ := hj
          have := List.getElem?_eq_some_iff.1 hq
          obtain ⟨g1, g2⟩ := this
          simp at g1 g2
          exact ⟨g1, by rw [g2]⟩
        have hlenR : ((List.range len).map rows).length = len := by simp
        refine ⟨[.sl e.sz false ((List.range len).map rows)], ⟨_, rfl, fun r hr => ?_, ?_⟩, .one ?_, rfl⟩
        · obtain ⟨i, hi, rfl⟩ := List.mem_map.1 hr
          obtain ⟨_, _, h2, _⟩ := hrows i (List.mem_range.1 hi)
          exact h2
        · rw [hlenR]
          rw [b2] at hw1
          have : len * b ≤ (elems.length + rest.length) * b := Nat.mul_le_mul_right _ (by omega)
          exact Nat.le_trans this hw1
        · rcases Nat.eq_zero_or_pos len with hz | hz
          · subst hz
            simp only [List.range_zero, List.map_nil]
            exact .nil _ _ _ _ (by simp) hm
          · obtain ⟨ecs, q1, _, _, q4⟩ := hrows 0 hz
            obtain ⟨_, hc0⟩ := cells_get q1
            have h00 := hc0 0 _ (List.getElem?_eq_getElem (by omega))
            rw [Nat.zero_mul] at h00
            have ha0 : (a.add 0).add 0 = a := by simp [Addr.add]
            rw [ha0] at h00
            obtain ⟨hab, hblt⟩ := cell_block h00
            have hir := IR.sl (w := W) (ok := fun b => b < W.heap.size) e.sz false ((List.range len).map rows) a.block a.off cap (fun j k => (W.cell? ((⟨a.block, a.off, none⟩ : Addr).add (j * e.sz + k))).getD undef) hblt (by rw [hlenR]; exact hl) hm (by simp) hblt
              (fun j r hj => by
                obtain ⟨hj1, rfl⟩ := hget j r hj
                obtain ⟨ecs, _, _, p3, p4⟩ := hrows j hj1
                rw [p3.1, p4])
              (fun j r k y hj hk => by
                obtain ⟨hj1, rfl⟩ := hget j r hj
                obtain ⟨ecs, p1, _, p3, p4⟩ := hrows j hj1
                have hkl : k < ecs.length := by rw [← p3.1]; exact (List.getElem?_eq_some_iff.1 hk).1
                have := (cells_get p1).2 k _ (List.getElem?_eq_getElem hkl)
                rw [hab, add_block, add_block] at this
                rw [add_block]
                rw [show a.off + (j * e.sz + k) = a.off + j * e.sz + k by omega, this]
                rfl)
              (fun j r k y hj hk => by
                obtain ⟨hj1, rfl⟩ := hget j r hj
                obtain ⟨ecs, p1, _, p3, p4⟩ := hrows j hj1
                have hkl : k < ecs.length := by rw [← p3.1]; exact (List.getElem?_eq_some_iff.1 hk).1
                have := (cells_get p1).2 k _ (List.getElem?_eq_getElem hkl)
                rw [hab, add_block, add_block] at this
                rw [add_block]
                rw [show a.off + (j * e.sz + k) = a.off + j * e.sz + k by omega, this]
                exact p3.2 k y _ hk (List.getElem?_eq_getElem hkl))
            rw [hlenR] at hir
            rw [hab]
            exact hir
    · simp at hB
  | .st fs, hB =>
    simp only [shB] at hB
    split at hB
    · rename_i f hu
      simp only [Bool.and_eq_true] at hB
      obtain ⟨b1, b2⟩ := hB
      have b2 := Nat.eq_of_beq_eq_true b2
      obtain ⟨xs, n, rfl, rfl, hcl, hxl, hf⟩ := DataW.trod_struct hu h
      simp only [DataW.weights, hu] at hw
      obtain ⟨ics, h1, h2⟩ := decs fs f.toList 0 n cs (xs) b1 (by simp [hxl]) (fun i fl hi => hf i fl (by simpa using hi)) hw (by omega)
      refine ⟨ics, h1, ?_, by simp only [Sh.sz]; omega⟩
      rw [List.drop_zero, List.take_of_length_le (by omega)] at h2
      exact h2
    · simp at hB
theorem decs (ss : List Sh) (fs : List Field) (off n : Nat) (cs : List Value) (xs : List (DataW H × List MemPlace)) (hB : shBs P ss fs off = true) (hx : xs.length = fs.length)
    (hf : ∀ (i : Nat) (f : Field), fs[i]? = some f → DataW.trod enc P W 0 (fun _ => true) true n f.type ((cs.drop f.offset).take (P.cellsOf f.type)) = xs[i]?) (hw : (DataW.weightsEach P (fs.map (·.type)) (xs.map (·.1))).all (· ≤ reachBytes) = true) (hl : off + szs ss ≤ cs.length) :
    ∃ ics, Decs ss ics ∧ Rows W ics ((cs.drop off).take (szs ss)) := by
  match ss, fs, xs with
  | [], [], _ => exact ⟨[], rfl, by simp [szs], by simp⟩
  | [], f :: fs, _ => simp [shBs] at hB
  | s :: ss, [], _ => simp [shBs] at hB
  | s :: ss, f :: fs, [] => simp at hx
  | s :: ss, f :: fs, x :: xs =>
    simp only [shBs, Bool.and_eq_true] at hB
    obtain ⟨⟨⟨b1, b2⟩, b3⟩, b4⟩ := hB
    have b1 := Nat.eq_of_beq_eq_true b1
    have b2 := Nat.eq_of_beq_eq_true b2
    simp only [List.map_cons, DataW.weightsEach] at hw
    obtain ⟨w1, w2⟩ := all_append hw
    simp only [szs] at hl
    have h0 := hf 0 f rfl
    rw [b1, b2] at h0
    obtain ⟨i1, d1, r1, _⟩ := dec s f.type n _ x b3 (by simpa using h0) w1
    obtain ⟨i2, d2, r2⟩ := decs ss fs (off + s.sz) n cs xs b4 (by simpa using hx) (fun i f' hi => by simpa using hf (i + 1) f' (by simpa using hi)) w2 (by omega)
    refine ⟨i1 ++ i2, ⟨i1, i2, rfl, d1, d2⟩, ?_⟩
    have hcat := r1.append r2
    have : (cs.drop off).take (s.sz + szs ss) = (cs.drop off).take s.sz ++ (cs.drop (off + s.sz)).take (szs ss) := by
      rw [← List.drop_drop, ← List.take_add]
    simp only [szs]
    rw [this]
    exact hcat
end
end dec
end Go.Proofs.YtklecijcpkolfaaDoor.Aw

/- The abstract walk, part 22: regions that draw their order, order by order. -/
set_option linter.unusedVariables false
set_option linter.unusedSimpArgs false
namespace Go.Proofs.YtklecijcpkolfaaDoor.Aw
open Go Go.RowKit

/-- From s, where the operations of 'listed' have come, all the others in any order; behind them Q. -/
def AnyQ (P : Program) (ops : Array Oper) (fuel : Nat) (listed : Array Bool) (s : St) (Q : St → Prop) : Prop :=
  ∀ (G : Nat → Prop) (g : Ghost) (w : World) (a : Act) (QQ : Exit → Act → World → Prop), Rel G s g w a → (∀ s' g' w' a', Q s' → Rel G s' g' w' a' → Evo s.st g w s'.st g' w' → a'.defers = a.defers → QQ Exit.normal a' w') → wpAnyIn (FW none) 0 P .any ops (fun e a w => e = .normal ∧ QQ e a w) fuel listed a w

/-- Each operation of the list, and the others behind it. -/
inductive AllR (P : Program) (ops : Array Oper) (fuel : Nat) (listed : Array Bool) (s : St) (Q : St → Prop) : List Nat → Prop where
  | nil : AllR P ops fuel listed s Q []
  | cons {i : Nat} {r : List Nat} {x : AV} {st' : List AObj} (h : One none P ops i s x st') (k : AnyQ P ops fuel (listed.setIfInBounds i true) (putS s (dstOf ops i) x st') Q) (hr : AllR P ops fuel listed s Q r) : AllR P ops fuel listed s Q (i :: r)

theorem AllR.mem {P : Program} {ops : Array Oper} {fuel : Nat} {listed : Array Bool} {s : St} {Q : St → Prop} {l : List Nat} (h : AllR P ops fuel listed s Q l) : ∀ i ∈ l, ∃ x st', One none P ops i s x st' ∧ AnyQ P ops fuel (listed.setIfInBounds i true) (putS s (dstOf ops i) x st') Q := by
  induction h with
  | nil => simp
  | cons h k hr ih =>
    intro j hj
    rcases List.mem_cons.1 hj with rfl | hj
    · exact ⟨_, _, h, k⟩
    · exact ih j hj

theorem AnyQ.all {P : Program} {ops : Array Oper} {fuel : Nat} {listed : Array Bool} {s : St} {Q : St → Prop} {i : Nat} {r : List Nat} (hr : Region.ready .any ops listed = i :: r) (h : AllR P ops fuel listed s Q (i :: r)) : AnyQ P ops (fuel + 1) listed s Q := fun G g w a QQ hrel kk => by
  refine wpAnyIn_all hr (by simp) fun j hj => ?_
  obtain ⟨x, st', h1, k1⟩ := h.mem j hj
  have hlt := mem_ready (md := .any) (ops := ops) (listed := listed) (i := j) (by rw [hr]; exact hj)
  have := h1 [] (fun s' => s' = putS s (dstOf ops j) x st') (AOL.nil rfl) G g w a (fun e a' w' => match e with | .normal => wpAnyIn (FW none) 0 P .any ops (fun e a w => e = .normal ∧ QQ e a w) fuel (listed.setIfInBounds j true) a' w' | e => e = .normal ∧ QQ e a' w') hrel ?_
  · exact wpOpIn_of this
  · rintro s' g' w' a' rfl hr' hev hdf _
    refine k1 G g' w' a' QQ hr' fun s2 g2 w2 a2 q hr2 he2 hd2 => kk s2 g2 w2 a2 q hr2 (hev.trans he2) (hd2.trans hdf)
theorem AnyQ.fin {P : Program} {ops : Array Oper} {fuel : Nat} {listed : Array Bool} {s : St} {Q : St → Prop} (hr : Region.ready .any ops listed = []) (h : Q s) : AnyQ P ops fuel listed s Q := fun G g w a QQ hrel kk =>
  wpAnyIn_done hr ⟨rfl, kk s g w a h hrel (.refl _ _ _) rfl⟩ fuel

def evAt (A : Ar) (tab : List TI) (ops : Array Oper) (i : Nat) (s : St) : Option (AV × List AObj) := match ops[i]? with
  | some o => match gd ops s o.guard with
    | some true => bif dstOk s o.dst then ev1 A tab s o.op else none
    | _ => none
  | none => none
theorem One.ev {A : Ar} {tab : List TI} (hA : A = real) {r : Option Nat} {P : Program} (hT : TabOk P tab) {ops : Array Oper} {i : Nat} {s : St} {x : AV} {st' : List AObj} (h : evAt A tab ops i s = some (x, st')) : One r P ops i s x st' := by
  unfold evAt at h
  split at h
  · rename_i o ho
    split at h
    · rename_i hg
      cases hd : dstOk s o.dst with
      | false => rw [hd] at h; simp at h
      | true =>
        rw [hd] at h
        intro rest Q k
        have he : dstOf ops i = o.dst := by simp [dstOf, ho]
        rw [he] at k
        exact AOL.step ho hg hd (ev1_nd h) (ev1_mem hA hT h) k
    · simp at h
  · simp at h

end Go.Proofs.YtklecijcpkolfaaDoor.Aw

/- The abstract walk, part 23: a row of nothing is one of whatever type. -/
set_option linter.unusedVariables false
set_option linter.unusedSimpArgs false
namespace Go.Proofs.YtklecijcpkolfaaDoor.Aw
open Go Go.RowKit
inductive ILe : IC → IC → Prop where
  | refl (x : IC) : ILe x x
  | nil (a c : Nat) (b : Bool) : ILe (.sl a b []) (.sl c false [])
inductive ILes : List IC → List IC → Prop where
  | nil : ILes [] []
  | cons {x y : IC} {r r' : List IC} (h : ILe x y) (k : ILes r r') : ILes (x :: r) (y :: r')
inductive PLe : PV → PV → Prop where
  | refl (x : PV) : PLe x x
  | c {x y : IC} (h : ILe x y) : PLe (.c x) (.c y)
  | agg {xs ys : List IC} (h : ILes xs ys) : PLe (.agg xs) (.agg ys)
inductive PLes : List PV → List PV → Prop where
  | nil : PLes [] []
  | cons {x y : PV} {r r' : List PV} (h : PLe x y) (k : PLes r r') : PLes (x :: r) (y :: r')
theorem IR.le {w : World} {ok : Nat → Prop} {x y : IC} {v : Value} (h : IR w ok x v) (k : ILe x y) : IR w ok y v := by
  cases k with
  | refl => exact h
  | nil a c b =>
    obtain ⟨A, n, rfl, _, h2, _⟩ := h.slice
    exact .nil _ _ _ _ (by simp) h2
theorem ILes.get {xs ys : List IC} (h : ILes xs ys) : xs.length = ys.length ∧ ∀ (k : Nat) (y : IC), ys[k]? = some y → ∃ x, xs[k]? = some x ∧ ILe x y := by
  induction h with
  | nil => simp
  | cons h k ih =>
    refine ⟨by simp [ih.1], fun j y hj => ?_⟩
    cases j with
    | zero => simp at hj; subst hj; exact ⟨_, rfl, h⟩
    | succ j => exact ih.2 j y (by simpa using hj)
theorem PLes.get {xs ys : List PV} (h : PLes xs ys) : xs.length = ys.length ∧ ∀ (k : Nat) (y : PV), ys[k]? = some y → ∃ x, xs[k]? = some x ∧ PLe x y := by
  induction h with
  | nil => simp
  | cons h k ih =>
    refine ⟨by simp [ih.1], fun j y hj => ?_⟩
    cases j with
    | zero => simp at hj; subst hj; exact ⟨_, rfl, h⟩
    | succ j => exact ih.2 j y (by simpa using hj)
theorem PR.le {w : World} {ok : Nat → Prop} {x y : PV} {v : Value} (h : PR w ok x v) (k : PLe x y) : PR w ok y v := by
  cases k with
  | refl => exact h
  | c k =>
    cases h with
    | c x v h => exact .c _ _ (h.le k)
  | agg k =>
    cases h with
    | agg xs vs h1 h2 =>
      refine .agg _ _ (by rw [h1]; exact k.get.1) fun j y hj => ?_
      obtain ⟨x, hx, hle⟩ := k.get.2 j y hj
      exact (h2 j x hx).le hle
end Go.Proofs.YtklecijcpkolfaaDoor.Aw

/- The abstract walk, part 24: a law's arguments out of the row's data. -/
set_option linter.unusedVariables false
set_option linter.unusedSimpArgs false
namespace Go.Proofs.YtklecijcpkolfaaDoor.Aw
open Go Go.RowKit Go.WideShapes
section args
variable {H : Type} {enc : TypeId × Value → H} {P : Program} {W : World}
abbrev below (W : World) : Nat → Prop := fun b => b < W.heap.size
theorem argSl {t e : TypeId} {base : Nat} {v : Value} {d : DataW H} {ps : List MemPlace} (b : Nat) (s : Sh) (hu : P.underlying t = some (.slice e)) (hB : shB P (.sl b s) t = true) (hok : Value.okWide P W .any base t v)
    (h : DataW.Trod enc P W 0 (fun _ => true) true t v d ps) (hw : (d.weights P t).all (· ≤ reachBytes) = true) : ∃ x, Dec (.sl b s) [x] ∧ PR W (below W) (.c x) v := by
  obtain ⟨a, l, c, rfl⟩ := okWide_slice hu hok
  obtain ⟨fuel, hf⟩ := h
  obtain ⟨ics, h1, h2, _⟩ := dec (.sl b s) t fuel _ (d, ps) hB hf hw
  have hx : ∃ x, ics = [x] := by
    have := h2.1
    simp only [Value.cells, List.length_cons, List.length_nil] at this
    match ics, this with
    | [x], _ => exact ⟨x, rfl⟩
  obtain ⟨x, rfl⟩ := hx
  exact ⟨x, h1, .c _ _ (h2.2 0 x _ rfl rfl)⟩
theorem argInt {W : World} (k : IntKind) (n : Int) : PR W (below W) (.c (.lit (.int k n))) (.int k n) := .c _ _ (.lit _ rfl)
theorem argStr {W : World} (b : ByteArray) : PR W (below W) (.c (.lit (.string b))) (.string b) := .c _ _ (.lit _ rfl)
end args
theorem pr_true {W' : World} {ok : Nat → Prop} {v : Value} (h : PR W' ok (.c (.lit (.bool true))) v) : v = .bool true := by
  cases h with
  | c x v h => cases h with | lit v h => rfl
end Go.Proofs.YtklecijcpkolfaaDoor.Aw

/- The abstract walk, part 25: bits and shifts. -/
set_option linter.unusedVariables false
set_option linter.unusedSimpArgs false
namespace Go.Proofs.YtklecijcpkolfaaDoor.Aw
open Go Go.RowKit
def bitsV (op : BinOp) (k : IntKind) (a b : Int) : Int := match op with
  | .and => k.wrap (BitVec.ofInt k.bits a &&& BitVec.ofInt k.bits b).toNat
  | .or => k.wrap (BitVec.ofInt k.bits a ||| BitVec.ofInt k.bits b).toNat
  | .xor => k.wrap (BitVec.ofInt k.bits a ^^^ BitVec.ofInt k.bits b).toNat
  | _ => k.wrap (BitVec.ofInt k.bits a &&& ~~~ BitVec.ofInt k.bits b).toNat
def isBits : BinOp → Bool
  | .and | .or | .xor | .andNot => true
  | _ => false
theorem does_bits {P : Program} {s : St} (op : BinOp) (hop : isBits op = true) (t : TypeId) (x y : Operand) (k : IntKind) (a b : Int) (hx : s.ev x = .ic (.lit (.int k a))) (hy : s.ev y = .ic (.lit (.int k b))) :
    Does P s (fun ρ => do pure (.value (← (do eqGuard op t x y (ρ x) (ρ y); binOp op t (ρ x) (ρ y) : Sem Value)))) (.ic (.lit (.int k (bitsV op k a b)))) s.st :=
  .pure fun G g w act hrel => by
    have h1 := hrel.ev x
    have h2 := hrel.ev y
    rw [hx] at h1
    rw [hy] at h2
    have e1 := h1.lit_inv
    have e2 := h2.lit_inv
    refine ⟨_, ?_, .ic _ _ (.lit _ rfl)⟩
    cases op <;> simp [isBits] at hop <;> simp [e1, e2, eqGuard, binOp, Op.intBits, bitsV]
theorem One.bits {r : Option Nat} {P : Program} {ops : Array Oper} {i : Nat} {s : St} {op : BinOp} {t t' : TypeId} {x y : Operand} {k : IntKind} {a b c : Int} (h : opAt ops i s = some (.binOp op t x y t')) (hop : isBits op = true) (hx : s.ev x = .ic (.lit (.int k a))) (hy : s.ev y = .ic (.lit (.int k b)))
    (hc : bitsV op k a b = c) : One r P ops i s (.ic (.lit (.int k c))) s.st := by
  subst hc
  exact .does h rfl fun o ho => (does_bits op hop t x y k a b hx hy).congr fun ρ => by simp only [execOp, ho]
theorem does_shr {P : Program} {s : St} (t : TypeId) (x y : Operand) (k k' : IntKind) (a b : Int) (hx : s.ev x = .ic (.lit (.int k a))) (hy : s.ev y = .ic (.lit (.int k' b))) (h0 : 0 ≤ b) :
    Does P s (fun ρ => do pure (.value (← (do eqGuard .shr t x y (ρ x) (ρ y); binOp .shr t (ρ x) (ρ y) : Sem Value)))) (.ic (.lit (.int k (a.fdiv (2 ^ min b.toNat k.bits))))) s.st :=
  .pure fun G g w act hrel => by
    have h1 := hrel.ev x
    have h2 := hrel.ev y
    rw [hx] at h1
    rw [hy] at h2
    have e1 := h1.lit_inv
    have e2 := h2.lit_inv
    refine ⟨_, ?_, .ic _ _ (.lit _ rfl)⟩
    have hn : ¬ b < 0 := by omega
    simp [e1, e2, eqGuard, binOp, Op.shift, hn]
theorem One.shr {r : Option Nat} {P : Program} {ops : Array Oper} {i : Nat} {s : St} {t t' : TypeId} {x y : Operand} {k k' : IntKind} {a b c : Int} (h : opAt ops i s = some (.binOp .shr t x y t')) (hx : s.ev x = .ic (.lit (.int k a))) (hy : s.ev y = .ic (.lit (.int k' b))) (h0 : 0 ≤ b)
    (hc : a.fdiv (2 ^ min b.toNat k.bits) = c) : One r P ops i s (.ic (.lit (.int k c))) s.st := by
  subst hc
  exact .does h rfl fun o ho => (does_shr t x y k k' a b hx hy h0).congr fun ρ => by simp only [execOp, ho]
end Go.Proofs.YtklecijcpkolfaaDoor.Aw

/- The abstract walk, part 26: hidden data; steps that make headway; splitting at a guard; typed rows. -/
set_option linter.unusedVariables false
set_option linter.unusedSimpArgs false
namespace Go.Proofs.YtklecijcpkolfaaDoor.Aw
open Go Go.RowKit
/-- Data that the evaluator never looks into. -/
abbrev hid (A : Ar) {α : Type} (x : α) : α := A (.hid α) fun _ => x
theorem hid_eq {A : Ar} (hA : A = real) {α : Type} (x : α) : hid A x = x := by subst hA; rfl
theorem rhid {A : Ar} (hA : A = real) {α : Type} (f : Unit → α) : A (.hid α) f = f () := by subst hA; rfl
section go
variable {r : Option Nat} {P : Program} {A : Ar} {tab : List TI} {ops : Array Oper}
def advO (A : Ar) (tab : List TI) (ops : Array Oper) (l : List Nat) (s : St) : Option (List Nat × St) :=
  let q := adv A tab ops l s
  bif Nat.blt q.1.length l.length then some q else none
theorem AOL.go (hA : A = real) (hT : TabOk P tab) {Q : St → Prop} {l l' : List Nat} {s s' : St} (h : advO A tab ops l s = some (l', s')) (k : AOL r P ops l' s' Q) : AOL r P ops l s Q := by
  simp only [advO] at h
  refine AOL.adv hA hT l s ?_
  cases hb : Nat.blt (Aw.adv A tab ops l s).1.length l.length with
  | true =>
    simp only [hb, cond_true, Option.some.injEq] at h
    rw [h]
    exact k
  | false => simp [hb] at h
def ung (ops : Array Oper) (i : Nat) : Bool := match ops[i]? with
  | some o => o.guard.isNone
  | none => false
def advG (A : Ar) (tab : List TI) (ops : Array Oper) (l : List Nat) (s : St) : Option (List Nat × St) :=
  let p := l.takeWhile (ung ops)
  let q := adv A tab ops p s
  bif Nat.blt q.1.length p.length then some (q.1 ++ l.dropWhile (ung ops), q.2) else none
/-- The guard's slot. -/
def gdv (ops : Array Oper) (s : St) (i : Nat) : Option Bool := match ops[i]? with
  | some o => match o.guard with
    | some (j, _) => match ops[j]? with
      | some p => match p.dst with
        | some d => match s.get d with
          | .ic (.lit (.bool b)) => some b
          | _ => none
        | none => none
      | none => none
    | none => none
  | none => none
theorem AOL.gs {Q : St → Prop} {i : Nat} {rest : List Nat} {s : St} {b : Bool} (hg : gdv ops s i = some b) (h1 : b = true → AOL r P ops (i :: rest) s Q) (h2 : b = false → AOL r P ops (i :: rest) s Q) : AOL r P ops (i :: rest) s Q := by
  cases b with
  | true => exact h1 rfl
  | false => exact h2 rfl
theorem AOL.one {Q : St → Prop} {i : Nat} {rest : List Nat} {s : St} {x : AV} {st' : List AObj} (h : One r P ops i s x st') (k : AOL r P ops rest (putS s (dstOf ops i) x st') Q) : AOL r P ops (i :: rest) s Q := h rest Q k
end go
section qgo
variable {P : Program} {A : Ar} {tab : List TI} {ops : Array Oper}
def qadvO (A : Ar) (tab : List TI) (ops : Array Oper) (l : List Nat) (s : St) : Option (List Nat × St) :=
  let q := qadv A tab ops l s
  bif Nat.blt q.1.length l.length then some q else none
theorem QS.go (hA : A = real) (hT : TabOk P tab) {Q : St → Prop} {l l' : List Nat} {s s' : St} (h : qadvO A tab ops l s = some (l', s')) (k : QS P ops l' s' Q) : QS P ops l s Q := by
  simp only [qadvO] at h
  refine QS.adv hA hT l s ?_
  cases hb : Nat.blt (qadv A tab ops l s).1.length l.length with
  | true =>
    simp only [hb, cond_true, Option.some.injEq] at h
    rw [h]
    exact k
  | false => simp [hb] at h
def qadvG (A : Ar) (tab : List TI) (ops : Array Oper) (l : List Nat) (s : St) : Option (List Nat × St) :=
  let p := l.takeWhile (ung ops)
  let q := qadv A tab ops p s
  bif Nat.blt q.1.length p.length then some (q.1 ++ l.dropWhile (ung ops), q.2) else none
theorem QS.gs {Q : St → Prop} {i : Nat} {rest : List Nat} {s : St} {b : Bool} (hg : gdv ops s i = some b) (h1 : b = true → QS P ops (i :: rest) s Q) (h2 : b = false → QS P ops (i :: rest) s Q) : QS P ops (i :: rest) s Q := by
  cases b with
  | true => exact h1 rfl
  | false => exact h2 rfl
theorem QS.nil {Q : St → Prop} {s : St} (h : Q s) : QS P ops [] s Q := h
/-- The largest q that drawB takes. -/
def findQ (ops : Array Oper) : Nat → Option Nat
  | 0 => match drawB ops 0 with
    | true => some 0
    | false => none
  | n + 1 => match drawB ops (n + 1) with
    | true => some (n + 1)
    | false => findQ ops n
end qgo
section one
variable {r : Option Nat} {P : Program} {ops : Array Oper} {i : Nat} {s : St} {tab : List TI} {A : Ar}
theorem One.elemM (hA : A = real) (hT : TabOk P tab) {α : Type} [Inhabited α] {f : α → List IC} {l : List α} {t e : TypeId} {j : TI} {x y : Operand} {ex : Bool} {k : IntKind} {n : Int} (h : opAt ops i s = some (.indexAddr t x y)) (ht : slT tab t = some (e, j))
    (hx : s.ev x = .ic (.sl j.size ex (A (.hid _) fun _ => List.map f l))) (hy : s.ev y = .ic (.lit (.int k n))) (h0 : 0 ≤ n) (h1 : n < l.length) : One r P ops i s (.at (f (A (.hid _) fun _ => l.getD n.toNat default))) s.st := by
  refine One.elem hT h ht hx hy h0 ?_
  rw [rhid hA, rhid hA]
  have : n.toNat < l.length := by omega
  simp [this]
theorem One.cut_hM (hA : A = real) (hT : TabOk P tab) {α : Type} {f : α → List IC} {l : List α} {t e : TypeId} {j : TI} {x z : Operand} {ex : Bool} {k : IntKind} {n : Int} (h : opAt ops i s = some (.slice t x none (some z) none)) (ht : slT tab t = some (e, j))
    (hx : s.ev x = .ic (.sl j.size ex (A (.hid _) fun _ => List.map f l))) (hz : s.ev z = .ic (.lit (.int k n))) (h0 : 0 ≤ n) (h1 : n ≤ l.length) : One r P ops i s (.ic (.sl j.size false (A (.hid _) fun _ => List.map f (l.take n.toNat)))) s.st := by
  have := One.cut_h (r := r) hT h ht hx hz h0 (by rw [rhid hA]; simpa using h1)
  rw [rhid hA] at this ⊢
  rw [List.map_take]
  exact this
theorem One.cut_lM (hA : A = real) (hT : TabOk P tab) {α : Type} {f : α → List IC} {l : List α} {t e : TypeId} {j : TI} {x z : Operand} {ex : Bool} {k : IntKind} {n : Int} (h : opAt ops i s = some (.slice t x (some z) none none)) (ht : slT tab t = some (e, j))
    (hx : s.ev x = .ic (.sl j.size ex (A (.hid _) fun _ => List.map f l))) (hz : s.ev z = .ic (.lit (.int k n))) (h0 : 0 ≤ n) (h1 : n ≤ l.length) : One r P ops i s (.ic (.sl j.size false (A (.hid _) fun _ => List.map f (l.drop n.toNat)))) s.st := by
  have := One.cut_l (r := r) hT h ht hx hz h0 (by rw [rhid hA]; simpa using h1)
  rw [rhid hA] at this ⊢
  rw [List.map_drop]
  exact this
theorem One.cut_lhM (hA : A = real) (hT : TabOk P tab) {α : Type} {f : α → List IC} {l : List α} {t e : TypeId} {j : TI} {x y z : Operand} {ex : Bool} {k k' : IntKind} {m n : Int} (h : opAt ops i s = some (.slice t x (some y) (some z) none)) (ht : slT tab t = some (e, j))
    (hx : s.ev x = .ic (.sl j.size ex (A (.hid _) fun _ => List.map f l))) (hy : s.ev y = .ic (.lit (.int k m))) (hz : s.ev z = .ic (.lit (.int k' n))) (h0 : 0 ≤ m) (h1 : m ≤ n) (h2 : n ≤ l.length) :
    One r P ops i s (.ic (.sl j.size false (A (.hid _) fun _ => List.map f ((l.take n.toNat).drop m.toNat)))) s.st := by
  have := One.cut_lh (r := r) hT h ht hx hy hz h0 h1 (by rw [rhid hA]; simpa using h2)
  rw [rhid hA] at this ⊢
  rw [List.map_drop, List.map_take]
  exact this
theorem One.clipM (hT : TabOk P tab) {t e : TypeId} {j : TI} {x y z : Operand} {ex : Bool} {xs : List (List IC)} {k k' : IntKind} {l n : Int} (h : opAt ops i s = some (.slice t x none (some y) (some z))) (ht : slT tab t = some (e, j))
    (hx : s.ev x = .ic (.sl j.size ex xs)) (hy : s.ev y = .ic (.lit (.int k l))) (hz : s.ev z = .ic (.lit (.int k' n))) (hl : l = (xs.length : Int)) (hn : n = (xs.length : Int)) : One r P ops i s (.ic (.sl j.size true xs)) s.st :=
  One.clip hT h ht hx hy hz hl hn
/-- A literal row behind a typed one. -/
theorem One.appendM (hA : A = real) (hT : TabOk P tab) {α : Type} {f : α → List IC} {l : List α} (v : α) {t e : TypeId} {j : TI} {x y : Operand} {ex : Bool} {ys : List (List IC)} (h : opAt ops i s = some (.call { callee := .builtin .append, args := #[x, y], argTypes := #[t, t] })) (ht : slT tab t = some (e, j))
    (hj : j.zero.isSome = true) (hx : s.ev x = .ic (.sl j.size true (A (.hid _) fun _ => List.map f l))) (hy : s.ev y = .ic (.sl j.size ex ys)) (hv : ys = [f v]) (hn : (l.length + 1) * j.bytes ≤ 140737488355328) (hm : l.length + 1 ≤ maxLen) :
    One r P ops i s (.ic (.sl j.size false (A (.hid _) fun _ => List.map f (l ++ [v])))) s.st := by
  subst hv
  have := One.append (r := r) hT h ht hj hx (.inl rfl) hy (by rw [rhid hA]; simpa using hn) (by rw [rhid hA]; simpa using hm)
  rw [rhid hA] at this ⊢
  rw [List.map_append]
  exact this
/-- A typed row behind another one. -/
theorem One.appendMM (hA : A = real) (hT : TabOk P tab) {α : Type} {f : α → List IC} {l l2 : List α} {t e : TypeId} {j : TI} {x y : Operand} {ex : Bool} (h : opAt ops i s = some (.call { callee := .builtin .append, args := #[x, y], argTypes := #[t, t] })) (ht : slT tab t = some (e, j))
    (hj : j.zero.isSome = true) (hx : s.ev x = .ic (.sl j.size true (A (.hid _) fun _ => List.map f l))) (hy : s.ev y = .ic (.sl j.size ex (A (.hid _) fun _ => List.map f l2))) (hn : (l.length + l2.length) * j.bytes ≤ 140737488355328) (hm : l.length + l2.length ≤ maxLen) :
    One r P ops i s (.ic (.sl j.size false (A (.hid _) fun _ => List.map f (l ++ l2)))) s.st := by
  have := One.append (r := r) hT h ht hj hx (.inl rfl) hy (by rw [rhid hA, rhid hA]; simpa using hn) (by rw [rhid hA, rhid hA]; simpa using hm)
  rw [rhid hA, rhid hA] at this
  rw [rhid hA, List.map_append]
  exact this
theorem One.appendOwnM (hA : A = real) (hT : TabOk P tab) {α : Type} {f : α → List IC} {l : List α} (v : α) {t e : TypeId} {j : TI} {x y : Operand} {ex : Bool} {q ver : Nat} {ys : List (List IC)} (h : opAt ops i s = some (.call { callee := .builtin .append, args := #[x, y], argTypes := #[t, t] })) (ht : slT tab t = some (e, j))
    (hj : (Nat.blt 0 j.size && (j.zero.map (·.length) == some j.size)) = true) (hx : s.ev x = .own q ver) (hs : s.st[q]? = some (.row true ver e j.size (A (.hid _) fun _ => List.map f l))) (hy : s.ev y = .ic (.sl j.size ex ys)) (hv : ys = [f v]) (hn : (l.length + 1) * j.bytes ≤ 140737488355328) (hm : l.length + 1 ≤ maxLen) :
    One r P ops i s (.own q (ver + 1)) (s.st.set q (.row true (ver + 1) e j.size (A (.hid _) fun _ => List.map f (l ++ [v])))) := by
  subst hv
  have := One.appendOwn (r := r) hT h ht hj hx hs hy (by rw [rhid hA]; simpa using hn) (by rw [rhid hA]; simpa using hm)
  rw [rhid hA] at this
  rw [rhid hA, List.map_append]
  exact this
theorem One.appendOwnMM (hA : A = real) (hT : TabOk P tab) {α : Type} {f : α → List IC} {l l2 : List α} {t e : TypeId} {j : TI} {x y : Operand} {ex : Bool} {q ver : Nat} (h : opAt ops i s = some (.call { callee := .builtin .append, args := #[x, y], argTypes := #[t, t] })) (ht : slT tab t = some (e, j))
    (hj : (Nat.blt 0 j.size && (j.zero.map (·.length) == some j.size)) = true) (hx : s.ev x = .own q ver) (hs : s.st[q]? = some (.row true ver e j.size (A (.hid _) fun _ => List.map f l))) (hy : s.ev y = .ic (.sl j.size ex (A (.hid _) fun _ => List.map f l2))) (hn : (l.length + l2.length) * j.bytes ≤ 140737488355328) (hm : l.length + l2.length ≤ maxLen) :
    One r P ops i s (.own q (ver + 1)) (s.st.set q (.row true (ver + 1) e j.size (A (.hid _) fun _ => List.map f (l ++ l2)))) := by
  have := One.appendOwn (r := r) hT h ht hj hx hs hy (by rw [rhid hA, rhid hA]; simpa using hn) (by rw [rhid hA, rhid hA]; simpa using hm)
  rw [rhid hA, rhid hA] at this
  rw [rhid hA, List.map_append]
  exact this
/-- .. behind an empty one of whatever kind. -/
theorem One.appendOwn0 (hA : A = real) (hT : TabOk P tab) {xs : List (List IC)} {t e : TypeId} {j : TI} {x y : Operand} {ex : Bool} {q ver : Nat} (h : opAt ops i s = some (.call { callee := .builtin .append, args := #[x, y], argTypes := #[t, t] })) (ht : slT tab t = some (e, j))
    (hj : (Nat.blt 0 j.size && (j.zero.map (·.length) == some j.size)) = true) (hx : s.ev x = .own q ver) (hs : s.st[q]? = some (.row true ver e j.size [])) (hy : s.ev y = .ic (.sl j.size ex xs)) (hn : xs.length * j.bytes ≤ 140737488355328) (hm : xs.length ≤ maxLen) :
    One r P ops i s (.own q (ver + 1)) (s.st.set q (.row true (ver + 1) e j.size xs)) := by
  have := One.appendOwn (r := r) hT h ht hj hx hs hy (by simpa using hn) (by simpa using hm)
  simpa using this
theorem One.elemOwnM (hA : A = real) (hT : TabOk P tab) {α : Type} {f : α → List IC} {l : List α} {t e : TypeId} {j : TI} {x y : Operand} {q ver : Nat} {m : Bool} {k : IntKind} {n : Int} (h : opAt ops i s = some (.indexAddr t x y)) (ht : slT tab t = some (e, j))
    (hx : s.ev x = .own q ver) (hs : s.st[q]? = some (.row m ver e j.size (A (.hid _) fun _ => List.map f l))) (hy : s.ev y = .ic (.lit (.int k n))) (h0 : 0 ≤ n) (h1 : n < l.length) : One r P ops i s (.rat q ver (A (.hid _) fun _ => n.toNat) 0) s.st := by
  have := One.elemOwn (r := r) hT h ht hx hs hy h0 (by rw [rhid hA]; simpa using h1)
  rw [rhid hA]
  exact this
theorem One.lenOwnM (hA : A = real) (hT : TabOk P tab) {t e e' : TypeId} {j : TI} {x : Operand} {q ver sz : Nat} {m : Bool} {xs : List (List IC)} (h : opAt ops i s = some (.call { callee := .builtin .len, args := #[x], argTypes := #[t] })) (ht : slT tab t = some (e, j)) (hx : s.ev x = .own q ver)
    (hs : s.st[q]? = some (.row m ver e' sz xs)) : One r P ops i s (.ic (.lit (.int .i64 (A .len xs)))) s.st :=
  One.lenOwn hT h ht hx hs (by subst hA; rfl)
/-- One cell of an own row, read. -/
theorem One.loadRatM (hA : A = real) (hT : TabOk P tab) {α : Type} [Inhabited α] {f : α → List IC} {l : List α} {t : TypeId} {j : TI} {x : Operand} {q ver o n e sz : Nat} {m : Bool} {v : IC} (h : opAt ops i s = some (.load t x)) (ht : tiAt tab t = some j) (hx : s.ev x = .rat q ver n o)
    (hs : s.st[q]? = some (.row m ver e sz (A (.hid _) fun _ => List.map f l))) (ha : j.agg = false) (hv : (f (A (.hid _) fun _ => l.getD n default))[o]? = some v) (hn : n < l.length) : One r P ops i s (.ic v) s.st := by
  refine One.loadRat hT h ht hx hs (row := f (l.getD n default)) (by rw [rhid hA]; simp [hn]) ?_
  rw [ha, cond_false]
  rw [rhid hA] at hv
  rw [hv]
  rfl
/-- A whole element of an own row, written. -/
theorem One.storeRatM (hA : A = real) (hT : TabOk P tab) {α : Type} (v : α) {f : α → List IC} {l : List α} {t : TypeId} {j : TI} {x y : Operand} {q ver n e sz : Nat} {ys : List AV} {yc : List IC} (h : opAt ops i s = some (.store t x y)) (ht : tiAt tab t = some j) (hx : s.ev x = .rat q ver n 0)
    (hs : s.st[q]? = some (.row true ver e sz (A (.hid _) fun _ => List.map f l))) (hy : cellsOk (s.ev y) = some ys) (hyc : allIC ys = some yc) (hv : yc = f v) (hl : Nat.beq yc.length j.size = true) (hsz : ∀ a : α, (f a).length = j.size) (hn : n < l.length) :
    One r P ops i s .any (s.st.set q (.row true ver e sz (A (.hid _) fun _ => List.map f (l.set n v)))) := by
  subst hv
  have := One.storeRat (r := r) (row := f l[n]) hT h ht hx hs (by rw [rhid hA]; simp [hn]) hy hyc hl (by rw [hsz, hsz]; omega)
  rw [rhid hA] at this
  rw [rhid hA, List.map_set]
  have e : (f l[n]).take 0 ++ f v ++ (f l[n]).drop (0 + (f v).length) = f v := by
    rw [List.drop_of_length_le (by rw [hsz, hsz]; omega)]; simp
  rw [e] at this
  exact this
theorem One.quoM (hA : A = real) {t t' : TypeId} {x y : Operand} {k : IntKind} {a b : Int} (h : opAt ops i s = some (.binOp .quo t x y t')) (hx : s.ev x = .ic (.lit (.int k a))) (hy : s.ev y = .ic (.lit (.int k b))) (hb : b ≠ 0) : One r P ops i s (.ic (.lit (.int k (A (.hid _) fun _ => k.wrap (a.tdiv b))))) s.st := by
  rw [rhid hA]; exact One.quo h hx hy hb
theorem One.remM (hA : A = real) {t t' : TypeId} {x y : Operand} {k : IntKind} {a b : Int} (h : opAt ops i s = some (.binOp .rem t x y t')) (hx : s.ev x = .ic (.lit (.int k a))) (hy : s.ev y = .ic (.lit (.int k b))) (hb : b ≠ 0) : One r P ops i s (.ic (.lit (.int k (A (.hid _) fun _ => a.tmod b)))) s.st := by
  rw [rhid hA]; exact One.rem h hx hy hb
theorem One.eqBoolM (hA : A = real) (hT : TabOk P tab) {t t' : TypeId} {j : TI} {x y : Operand} {a b : Bool} (h : opAt ops i s = some (.binOp .eql t x y t')) (ht : tiAt tab t = some j) (hk : j.k = .bool) (hx : s.ev x = .ic (.lit (.bool a))) (hy : s.ev y = .ic (.lit (.bool b))) : One r P ops i s (.ic (.lit (.bool (A (.hid _) fun _ => a == b)))) s.st := by
  rw [rhid hA]; exact One.eqBool hT h ht hk hx hy
theorem One.neBoolM (hA : A = real) (hT : TabOk P tab) {t t' : TypeId} {j : TI} {x y : Operand} {a b : Bool} (h : opAt ops i s = some (.binOp .neq t x y t')) (ht : tiAt tab t = some j) (hk : j.k = .bool) (hx : s.ev x = .ic (.lit (.bool a))) (hy : s.ev y = .ic (.lit (.bool b))) : One r P ops i s (.ic (.lit (.bool (A (.hid _) fun _ => !(a == b))))) s.st := by
  rw [rhid hA]; exact One.neBool hT h ht hk hx hy
theorem One.concatM (hA : A = real) {t t' : TypeId} {x y : Operand} {a b : ByteArray} (h : opAt ops i s = some (.binOp .add t x y t')) (hx : s.ev x = .ic (.lit (.string a))) (hy : s.ev y = .ic (.lit (.string b))) (hb : a.size + b.size ≤ 9223372036854775807) : One r P ops i s (.ic (.lit (.string (A (.hid _) fun _ => a ++ b)))) s.st := by
  rw [rhid hA]; exact One.concat h hx hy hb
theorem One.byteM (hA : A = real) (hT : TabOk P tab) {t : TypeId} {j : TI} {x y : Operand} {b : ByteArray} {k : IntKind} {n : Int} (h : opAt ops i s = some (.index t x y)) (ht : tiAt tab t = some j) (hk : j.k = .string) (hx : s.ev x = .ic (.lit (.string b))) (hy : s.ev y = .ic (.lit (.int k n))) (h0 : 0 ≤ n) (h1 : n < (b.size : Int)) :
    One r P ops i s (.ic (.lit (.int .u8 (A (.hid _) fun _ => sb b n)))) s.st := by
  rw [rhid hA]; exact One.byte hT h ht hk hx hy h0 h1
end one
/-! ### results -/
section res
variable {P : Program} {tab : List TI} {s : St}
def resV (tab : List TI) (s : St) : ResultVar → Option AV
  | .tmp t => some (s.get t)
  | .cell p t => match tab[t]? with
    | some i => bif i.there then (match s.get p with
      | .ptr j o => match s.st[j]? with
        | some (.var _ _ cs) => bif i.agg then (bif Nat.ble (o + i.size) cs.length then some (.agg ((cs.drop o).take i.size)) else none) else cs[o]?
        | _ => none
      | _ => none) else none
    | none => none
theorem resV_ok (hT : TabOk P tab) {rv : ResultVar} {x : AV} (h : resV tab s rv = some x) : Res1 P s rv x := by
  cases rv with
  | tmp t => simp only [resV, Option.some.injEq] at h; subst h; exact Res1.tmp t
  | cell p t =>
    simp only [resV] at h
    split at h
    · rename_i i hi
      obtain rfl := tab_get hT hi
      cases ht : (tyi P t).there with
      | false => simp [ht] at h
      | true =>
        simp only [ht, cond_true] at h
        split at h
        · rename_i j o hp
          split at h
          · rename_i m t' cs hs
            refine Res1.cell p t j o m t' cs x ht hp hs ?_
            cases ha : (tyi P t).agg with
            | true =>
              simp only [ha, cond_true] at h ⊢
              cases hb : Nat.ble (o + (tyi P t).size) cs.length with
              | true => simp only [hb, cond_true, Option.some.injEq] at h; exact ⟨rfl, h.symm⟩
              | false => simp [hb] at h
            | false => simpa [ha] using h
          · simp at h
        · simp at h
    · simp at h
def resVs (tab : List TI) (s : St) : List ResultVar → Option AV
  | [] => some (.tup [])
  | [a] => resV tab s a
  | [a, b] => match resV tab s a with
    | some x => match resV tab s b with
      | some y => some (.tup [x, y])
      | none => none
    | none => none
  | [a, b, c] => match resV tab s a with
    | some x => match resV tab s b with
      | some y => match resV tab s c with
        | some z => some (.tup [x, y, z])
        | none => none
      | none => none
    | none => none
  | _ => none
theorem RetOk.ev (hT : TabOk P tab) {fn : Func} {x : AV} (h : resVs tab s fn.results.toList = some x) : RetOk P fn s x := by
  cases hr : fn.results with
  | mk l =>
    rw [hr] at h
    match l, h with
    | [], h => simp only [resVs, Option.some.injEq] at h; subst h; exact RetOk.none hr
    | [a], h => exact RetOk.one hr (resV_ok hT (by simpa [resVs] using h))
    | [a, b], h =>
      simp only [resVs] at h
      split at h
      · rename_i x1 h1
        split at h
        · rename_i x2 h2
          simp only [Option.some.injEq] at h
          subst h
          exact RetOk.two hr (resV_ok hT h1) (resV_ok hT h2)
        · simp at h
      · simp at h
    | [a, b, c], h =>
      simp only [resVs] at h
      split at h
      · rename_i x1 h1
        split at h
        · rename_i x2 h2
          split at h
          · rename_i x3 h3
            simp only [Option.some.injEq] at h
            subst h
            exact RetOk.three hr (resV_ok hT h1) (resV_ok hT h2) (resV_ok hT h3)
          · simp at h
        · simp at h
      · simp at h
    | _ :: _ :: _ :: _ :: _, h => simp [resVs] at h
theorem rPV_then {st : List AObj} {x : AV} {y z : PV} (h : rPV st x = some y) (e : y = z) : rPV st x = some z := by rw [h, e]
end res
/-! ### loops -/
/-- Slots that code writes, as bits. -/
def bitB (m t : Nat) : Bool := Nat.beq ((m >>> t) % 2) 1
def bitS (m t : Nat) : Nat := m ||| (1 <<< t)
def wrO : List Oper → Nat → Nat
  | [], m => m
  | o :: r, m => match o.dst with
    | some d => wrO r (bitS m d)
    | none => wrO r m
def wr : Code → Nat → Nat
  | .region _ ops _, m => wrO ops.toList m
  | .seq a b, m => wr b (wr a m)
  | .cond _ a b, m => wr b (wr a m)
  | .block _ c, m => wr c m
  | .loop c, m => wr c m
  | .scope c, m => wr c m
  | _, m => m
def keepOf : Nat → List (Nat × AV) → List (Nat × AV)
  | _, [] => []
  | m, (t, x) :: r => match bitB m t with
    | true => keepOf m r
    | false => (t, x) :: keepOf (bitS m t) r
theorem bitB_eq (m t : Nat) : bitB m t = m.testBit t := by
  unfold bitB
  rw [Nat.testBit_eq_decide_div_mod_eq, Nat.shiftRight_eq_div_pow]
  cases h : Nat.beq (m / 2 ^ t % 2) 1 with
  | true => exact (decide_eq_true (Nat.eq_of_beq_eq_true h)).symm
  | false => exact (decide_eq_false (Nat.ne_of_beq_eq_false h)).symm
theorem bit_add (m t u : Nat) : bitB (bitS m t) u = (bitB m u || decide (t = u)) := by
  rw [bitB_eq, bitB_eq, bitS, Nat.testBit_or, Nat.one_shiftLeft, Nat.testBit_two_pow]
theorem keep_get : ∀ (env : List (Nat × AV)) (m : Nat), ∀ p ∈ keepOf m env, bitB m p.1 = false ∧ look env p.1 = p.2
  | [], _, p, h => by simp [keepOf] at h
  | (t, x) :: r, m, p, h => by
    simp only [keepOf] at h
    cases hm : bitB m t with
    | true =>
      rw [hm] at h
      obtain ⟨h1, h2⟩ := keep_get r m p h
      refine ⟨h1, ?_⟩
      have hne : t ≠ p.1 := fun e => by rw [← e, hm] at h1; cases h1
      rw [look_cons_ne hne]
      exact h2
    | false =>
      rw [hm] at h
      rcases List.mem_cons.1 h with rfl | h
      · exact ⟨hm, look_cons_eq⟩
      · obtain ⟨h1, h2⟩ := keep_get r _ p h
        rw [bit_add, Bool.or_eq_false_iff] at h1
        refine ⟨h1.1, ?_⟩
        rw [look_cons_ne fun e => by simp [e] at h1]
        exact h2
theorem subE_append {s : St} {a b : List (Nat × AV)} (h : subE s a) (k : subE s b) : subE s (a ++ b) := by
  induction a with
  | nil => exact k
  | cons p r ih => exact ⟨h.1, ih h.2⟩
theorem subE_of {s : St} {a : List (Nat × AV)} (h : ∀ p ∈ a, s.get p.1 = p.2) : subE s a := by
  induction a with
  | nil => trivial
  | cons p r ih => exact ⟨h p List.mem_cons_self, ih fun q hq => h q (List.mem_cons_of_mem _ hq)⟩
theorem subE.lit {s : St} {t : Nat} {a b : Value} {r : List (Nat × AV)} (h : s.get t = .ic (.lit a)) (e : a = b) (k : subE s r) : subE s ((t, .ic (.lit b)) :: r) := ⟨by rw [h, e], k⟩
theorem subE.int {s : St} {t : Nat} {q : IntKind} {a b : Int} {r : List (Nat × AV)} (h : s.get t = .ic (.lit (.int q a))) (e : a = b) (k : subE s r) : subE s ((t, .ic (.lit (.int q b))) :: r) := ⟨by rw [h, e], k⟩
theorem subE.bool {s : St} {t : Nat} {a b : Bool} {r : List (Nat × AV)} (h : s.get t = .ic (.lit (.bool a))) (e : a = b) (k : subE s r) : subE s ((t, .ic (.lit (.bool b))) :: r) := ⟨by rw [h, e], k⟩
theorem subE.str {s : St} {t : Nat} {a b : ByteArray} {r : List (Nat × AV)} (h : s.get t = .ic (.lit (.string a))) (e : a = b) (k : subE s r) : subE s ((t, .ic (.lit (.string b))) :: r) := ⟨by rw [h, e], k⟩
theorem subE.sl {s : St} {t sz : Nat} {ex : Bool} {a b : List (List IC)} {r : List (Nat × AV)} (h : s.get t = .ic (.sl sz ex a)) (e : a = b) (k : subE s r) : subE s ((t, .ic (.sl sz ex b)) :: r) := ⟨by rw [h, e], k⟩
/-- A loop over states x of some type: up x the slots that it turns, stf x the store. -/
theorem AWp.loopU {r : Option Nat} {P : Program} {c : Code} {s : St} {Q : Exit → St → Prop} {σ : Type} (up : σ → List (Nat × AV)) (stf : σ → List AObj) (mu : σ → Nat) (Inv : σ → Prop) (x0 : σ) {keep : List (Nat × AV)} (hk : keepOf (wr c 0) s.env = keep)
    (h0 : Inv x0) (he : subE s (up x0)) (hs : s.st = stf x0)
    (round : ∀ x, Inv x → AWp r P c ⟨s.nt, up x ++ keep, stf x⟩ (Thn (fun s' => ∃ x', Inv x' ∧ mu x' < mu x ∧ s'.nt = s.nt ∧ s'.st = stf x' ∧ subE s' (up x') ∧ subE s' keep) Q)) : AWp r P (.loop c) s Q := by
  subst hk
  refine AWp.loop (fun n s' => ∃ x, Inv x ∧ mu x = n ∧ Sub ⟨s.nt, up x ++ keepOf (wr c 0) s.env, stf x⟩ s') (mu x0) ⟨x0, h0, rfl, Sub.of rfl hs (subE_append he (subE_of fun p hp => (keep_get _ _ p hp).2))⟩ ?_
  rintro n s1 ⟨x, hi, rfl, hsub⟩
  refine AWp.sub hsub ((round x hi).mono ?_)
  intro e s2 h
  cases e with
  | normal =>
    obtain ⟨x', h1, h2, h3, h4, h5, h6⟩ := h
    exact ⟨mu x', h2, x', h1, rfl, Sub.of h3 h4 (subE_append h5 h6)⟩
  | _ => exact h
/-! ### typed data -/
/-- A count as a number. -/
def cN (k : Nat) : Int := k
def encI (z : Int) : List IC := [.lit (.int .i64 z)]
def encB (z : Int) : List IC := [.lit (.int .u8 z)]
def encS (b : ByteArray) : List IC := [.lit (.string b)]
def encK (A : Ar) (l : List Int) : List IC := [.sl 1 false (hid A (List.map encI l))]
abbrev slP (A : Ar) {α : Type} (sz : Nat) (f : α → List IC) (l : List α) : PV := .c (.sl sz false (hid A (List.map f l)))
abbrev intsP (A : Ar) (l : List Int) : PV := slP A 1 encI l
abbrev IP (z : Int) : PV := .c (.lit (.int .i64 z))
abbrev BP (b : Bool) : PV := .c (.lit (.bool b))
end Go.Proofs.YtklecijcpkolfaaDoor.Aw

/- The abstract walk, part 27: slices compared with nil; numbers read. -/
set_option linter.unusedVariables false
set_option linter.unusedSimpArgs false
namespace Go.Proofs.YtklecijcpkolfaaDoor.Aw
open Go Go.RowKit
theorem AOL.stepR {r : Option Nat} {P : Program} {ops : Array Oper} {i : Nat} {rest : List Nat} {s : St} {Q : St → Prop} {op : Op} (R : AV → Prop) (h : opAt ops i s = some op) (hn : notDefer op = true)
    (hD : ∀ o : Oper, o.op = op → ∀ G g w a, Rel G s g w a → ∃ v x, (execOp a.eval o).run P w = .ok (.value v) w ∧ R x ∧ AR G s.st g w x v) (k : ∀ x, R x → AOL r P ops rest (putS s (dstOf ops i) x s.st) Q) : AOL r P ops (i :: rest) s Q := by
  obtain ⟨o, ho, hg, hd, hop, he⟩ := opAt_some h
  rw [he] at k
  intro G g w a QQ hr kk
  obtain ⟨v, x, hrun, hR, hx⟩ := hD o hop G g w a hr
  simp only [wpOpsIn, ho, gd_wanted hr hg, if_true]
  refine ⟨fun _ _ => trivial, ?_⟩
  rw [semAt_of (by rw [hop]; exact hn), hrun]
  have hrel := hr.putS o.dst hd (.refl _ _ _) hr.sr hx
  exact k x hR G g w _ QQ hrel fun s' g2 w2 a2 q hr2 he hdf hfr => kk s' g2 w2 a2 q hr2 (by rw [putS_st] at he; exact he) (hdf.trans (put_defers _ _ _)) (Fr.cons ho hfr)
theorem IR.nil_none {w : World} {ok : Nat → Prop} {sz : Nat} {ex : Bool} {xs : List (List IC)} {l c : Nat} (h : IR w ok (.sl sz ex xs) (.slice none l c)) : xs = [] := by
  cases h with
  | nil => rfl
theorem AOL.eqNil {r : Option Nat} {P : Program} {tab : List TI} {ops : Array Oper} {i : Nat} {rest : List Nat} {s : St} {Q : St → Prop} (hT : TabOk P tab) {t e t' : TypeId} {j : TI} {x : Operand} {sz : Nat} {ex : Bool} {xs : List (List IC)}
    (h : opAt ops i s = some (.binOp .eql t x (.const (.slice none 0 0)) t')) (ht : slT tab t = some (e, j)) (hx : s.ev x = .ic (.sl sz ex xs)) (k : ∀ b : Bool, (b = true → xs = []) → AOL r P ops rest (putS s (dstOf ops i) (.ic (.lit (.bool b))) s.st) Q) : AOL r P ops (i :: rest) s Q := by
  obtain ⟨g1, g2, rfl⟩ := slT_ok hT ht
  refine AOL.stepR (fun y => ∃ b : Bool, y = .ic (.lit (.bool b)) ∧ (b = true → xs = [])) h rfl ?_ ?_
  · intro o hop G g w a hr
    have h1 := hr.ev x
    rw [hx] at h1
    have h2 := h1.ic_inv
    obtain ⟨A, c, hv, _⟩ := h2.slice
    refine ⟨.bool A.isNone, _, ?_, ⟨_, rfl, fun hb => ?_⟩, .ic _ _ (.lit _ rfl)⟩
    · have hr2 := run_equal_slice_nil (P := P) w t e A xs.length c (tk_slice g2)
      have ec : a.eval (.const (.slice none 0 0)) = .slice none 0 0 := rfl
      simp [execOp, hop, hv, ec, eqGuard, binOp, hr2]
    · cases A with
      | some _ => simp at hb
      | none => rw [hv] at h2; exact h2.nil_none
  · rintro y ⟨b, rfl, hb⟩
    exact k b hb
theorem tdivI (a b : Int) : a.tdiv b = if 0 ≤ a then a / b else -(-a / b) := by
  split
  · exact Int.tdiv_eq_ediv_of_nonneg ‹_›
  · rw [← Int.tdiv_eq_ediv_of_nonneg (by omega), Int.neg_tdiv]; omega
theorem tmodI (a b : Int) : a.tmod b = if 0 ≤ a then a % b else -(-a % b) := by
  split
  · exact Int.tmod_eq_emod_of_nonneg ‹_›
  · rw [← Int.tmod_eq_emod_of_nonneg (by omega), Int.neg_tmod]; omega
theorem wI64 {z : Int} (h1 : -9223372036854775808 ≤ z) (h2 : z ≤ 9223372036854775807) : IntKind.i64.wrap z = z := wok h1 h2
theorem wU8 {z : Int} (h1 : 0 ≤ z) (h2 : z ≤ 255) : IntKind.u8.wrap z = z := IntWalk.u8_in z ⟨h1, h2⟩
theorem wU32 {z : Int} (h1 : 0 ≤ z) (h2 : z ≤ 4294967295) : IntKind.u32.wrap z = z := IntWalk.u32_in z ⟨h1, h2⟩
theorem wU64 {z : Int} (h1 : 0 ≤ z) (h2 : z ≤ 18446744073709551615) : IntKind.u64.wrap z = z := IntWalk.u64_in z ⟨h1, h2⟩
theorem tdvN {a b : Int} (h : 0 ≤ a) : a.tdiv b = a / b := Int.tdiv_eq_ediv_of_nonneg h
theorem tmdN {a b : Int} (h : 0 ≤ a) : a.tmod b = a % b := Int.tmod_eq_emod_of_nonneg h
/-! ### what holds of all data -/
theorem IR.len {w : World} {ok : Nat → Prop} {sz : Nat} {ex : Bool} {xs : List (List IC)} {v : Value} (h : IR w ok (.sl sz ex xs) v) : xs.length ≤ maxLen := by
  obtain ⟨A, c, _, h1, h2, _⟩ := h.slice
  omega
theorem IR.inner {w : World} {ok : Nat → Prop} {sz : Nat} {ex : Bool} {xs : List (List IC)} {v : Value} (h : IR w ok (.sl sz ex xs) v) {r : List IC} {x : IC} (hr : r ∈ xs) (hx : x ∈ r) : ∃ u, IR w ok x u := by
  obtain ⟨j, hj⟩ := List.getElem?_of_mem hr
  obtain ⟨i, hi⟩ := List.getElem?_of_mem hx
  cases h with
  | nil => simp at hj
  | sl _ _ _ b o c val hb hl hc hx hok hsz hcell hin => exact ⟨_, hin j r i x hj hi⟩
/-- Rows of a datum, and rows in them. -/
def lens : IC → Prop
  | .sl _ _ xs => xs.length ≤ maxLen ∧ ∀ r ∈ xs, ∀ x ∈ r, match x with
    | .sl _ _ ys => ys.length ≤ maxLen
    | _ => True
  | _ => True
theorem IR.lens {w : World} {ok : Nat → Prop} {x : IC} {v : Value} (h : IR w ok x v) : Aw.lens x := by
  cases x with
  | lit => trivial
  | mp => trivial
  | sl sz ex xs =>
    refine ⟨h.len, fun r hr x hx => ?_⟩
    obtain ⟨u, hu⟩ := h.inner hr hx
    cases x with
    | lit => trivial
    | mp => trivial
    | sl => exact hu.len
def lensP : PV → Prop
  | .c x => lens x
  | .agg xs => ∀ x ∈ xs, lens x
  | .tup _ => True
theorem PR.lens {w : World} {ok : Nat → Prop} {x : PV} {v : Value} (h : PR w ok x v) : lensP x := by
  cases h with
  | c x v h => exact h.lens
  | agg xs vs h1 h2 =>
    intro x hx
    obtain ⟨i, hi⟩ := List.getElem?_of_mem hx
    exact (h2 i x hi).lens
  | tup => trivial
/-- A contract may lean on what all data are. -/
theorem PureCalls.lens {P : Program} {f : FuncId} {pvs : List PV} {r : PV} (he : entersB P f = true) (h : (∀ x ∈ pvs, lensP x) → PureCalls P f pvs r) : PureCalls P f pvs r := by
  refine ⟨he, fun ok w vals hsz hv => ?_⟩
  refine (h fun x hx => ?_).2 ok w vals hsz hv
  obtain ⟨i, hi⟩ := List.getElem?_of_mem hx
  exact (hv i x hi).lens
/-- What a call has laid and nobody names is forgotten. -/
theorem ACalls.trim {P : Program} {f : FuncId} {xs : List AV} {st : List AObj} {R R' : AV → List AObj → Prop} (n : Nat) (h : ACalls P f xs st R) (hn : st.length ≤ n)
    (ht : ∀ x st', R x st' → closedB n x = true ∧ n ≤ st'.length ∧ trimOk n st (st'.take n) ∧ R' x (st'.take n)) : ACalls P f xs st R' :=
  ⟨h.1, fun G g w vals hsz hsr hv => (h.2 G g w vals hsz hsr hv).mono fun e w' ⟨v, x, st', g', he, hR, hx, hsr', hev⟩ => by
    obtain ⟨h1, h2, h3, h4⟩ := ht x st' hR
    obtain ⟨a, b⟩ := trimS hsr hsr' hev hn h2 h3
    exact ⟨v, x, st'.take n, g', he, h4, hx.trim h1 h2, a, b⟩⟩
theorem ACalls.mono {P : Program} {f : FuncId} {xs : List AV} {st : List AObj} {R R' : AV → List AObj → Prop} (h : ACalls P f xs st R) (k : ∀ x st', R x st' → R' x st') : ACalls P f xs st R' :=
  ⟨h.1, fun G g w vals hsz hsr hv => (h.2 G g w vals hsz hsr hv).mono fun e w' ⟨v, x, st', g', he, hR, hx, hsr', hev⟩ => ⟨v, x, st', g', he, k _ _ hR, hx, hsr', hev⟩⟩
theorem AWp.norm {r : Option Nat} {P : Program} {c : Code} {s s' : St} {Q : Exit → St → Prop} (e : s = s') (h : AWp r P c s' Q) : AWp r P c s Q := e ▸ h
theorem AOL.pass {r : Option Nat} {P : Program} {ops : Array Oper} {l : List Nat} {s : St} {Q : St → Prop} (h : AOL r P ops l s Q) : AOL r P ops l s Q := h
theorem QS.pass {P : Program} {ops : Array Oper} {l : List Nat} {s : St} {Q : St → Prop} (h : QS P ops l s Q) : QS P ops l s Q := h
theorem AWp.pass {r : Option Nat} {P : Program} {c : Code} {s : St} {Q : Exit → St → Prop} (h : AWp r P c s Q) : AWp r P c s Q := h
end Go.Proofs.YtklecijcpkolfaaDoor.Aw

/- The abstract walk, part 28: rows that become data within a region; contracts up to rows of nothing. -/
set_option linter.unusedVariables false
set_option linter.unusedSimpArgs false
namespace Go.Proofs.YtklecijcpkolfaaDoor.Aw
open Go Go.RowKit
theorem AOL.norm {r : Option Nat} {P : Program} {ops : Array Oper} {l : List Nat} {s s' : St} {Q : St → Prop} (e : s = s') (h : AOL r P ops l s' Q) : AOL r P ops l s Q := e ▸ h
end Go.Proofs.YtklecijcpkolfaaDoor.Aw

/- The abstract walk, part 29: regions that draw their order, with the number of quiet operations given. -/
set_option linter.unusedVariables false
set_option linter.unusedSimpArgs false
namespace Go.Proofs.YtklecijcpkolfaaDoor.Aw
open Go Go.RowKit
end Go.Proofs.YtklecijcpkolfaaDoor.Aw

/- The abstract walk, part 30: the rules that read the named arithmetic, as two facts. -/
set_option linter.unusedVariables false
set_option linter.unusedSimpArgs false
namespace Go.Proofs.YtklecijcpkolfaaDoor.Aw
open Go Go.RowKit
theorem zz {A : Ar} (hA : A = real) : (∀ (k : IntKind) (a b : Int), A .add k a b = k.wrap (a + b)) ∧ (∀ (k : IntKind) (a b : Int), A .sub k a b = k.wrap (a - b)) ∧ (∀ (k : IntKind) (a b : Int), A .mul k a b = k.wrap (a * b)) ∧ (∀ a b : Int, A .eq a b = decide (a = b)) ∧ (∀ a b : Int, A .lt a b = decide (a < b)) ∧ (∀ a b : Int, A .le a b = decide (a ≤ b)) ∧
    (∀ a b : ByteArray, A .seq a b = decide (a.toList = b.toList)) ∧ (∀ (k : IntKind) (a : Int), A .wrap k a = k.wrap a) ∧ (∀ xs : List (List IC), A .len xs = (xs.length : Int)) ∧ (∀ b : ByteArray, A .slen b = (b.size : Int)) ∧ (∀ b : Bool, A .no b = !b) ∧ (∀ (α : Type) (f : Unit → α), A (.hid α) f = f ()) ∧
    (∀ k : Nat, cN k = (k : Int)) ∧ (∀ (α β : Type) (f : α → β) (l : List α), (List.map f l).length = l.length) ∧ (∀ (α : Type) (a b : List α), (a ++ b).length = a.length + b.length) ∧ (∀ (α : Type) (l : List α) (n : Nat), (l.take n).length = min n l.length) ∧ (∀ (α : Type) (l : List α) (n : Nat), (l.drop n).length = l.length - n) ∧
    (∀ (α : Type) (x : α) (n : Nat), (List.replicate n x).length = n) ∧ (∀ (α : Type) (l : List α) (n : Nat) (x : α), (l.set n x).length = l.length) ∧ (∀ (α : Type) (l : List α) (x : α), (x :: l).length = l.length + 1) ∧ (∀ (α : Type), ([] : List α).length = 0) ∧ (maxLen = 9223372036854775807) ∧
    (∀ z : Int, -9223372036854775808 ≤ z → z ≤ 9223372036854775807 → IntKind.i64.wrap z = z) ∧ (∀ z : Int, 0 ≤ z → z ≤ 255 → IntKind.u8.wrap z = z) ∧ (∀ z : Int, 0 ≤ z → z ≤ 4294967295 → IntKind.u32.wrap z = z) ∧ (∀ z : Int, 0 ≤ z → z ≤ 18446744073709551615 → IntKind.u64.wrap z = z) ∧
    (∀ a b : Int, 0 ≤ a → a.tdiv b = a / b) ∧ (∀ a b : Int, 0 ≤ a → a.tmod b = a % b) := by
  subst hA
  exact ⟨fun _ _ _ => rfl, fun _ _ _ => rfl, fun _ _ _ => rfl, fun _ _ => rfl, fun _ _ => rfl, fun _ _ => rfl, fun _ _ => rfl, fun _ _ => rfl, fun _ => rfl, fun _ => rfl, fun _ => rfl, fun _ _ => rfl, fun _ => rfl, fun _ _ _ _ => List.length_map _, fun _ _ _ => List.length_append, fun _ _ _ => List.length_take, fun _ _ _ => List.length_drop,
    fun _ _ _ => List.length_replicate, fun _ _ _ _ => List.length_set, fun _ _ _ => rfl, fun _ => rfl, rfl, fun _ => wI64, fun _ => wU8, fun _ => wU32, fun _ => wU64, fun _ _ => tdvN, fun _ _ => tmdN⟩
theorem zb : (∀ (p : Prop) [Decidable p], (decide p = true) = p) ∧ (∀ (p : Prop) [Decidable p], (decide p = false) = ¬ p) ∧ (∀ b : Bool, ((!b) = true) = (b = false)) ∧ (∀ b : Bool, ((!b) = false) = (b = true)) ∧ (∀ b : Bool, (!(!b)) = b) ∧ ((!true) = false) ∧ ((!false) = true) ∧ (∀ n : Nat, ((n : Int)).toNat = n) ∧ ((¬ True) = False) ∧ (∀ b : Bool, (b == b) = true) ∧ (decide True = true) ∧ (decide False = false) ∧ (∀ b : Bool, (true == b) = b) ∧ (∀ b : Bool, (false == b) = !b) :=
  ⟨fun _ _ => decide_eq_true_eq, fun p _ => by simp, fun b => by simp, fun b => by simp, fun b => by simp, rfl, rfl, fun _ => rfl, by simp, fun b => by simp, by simp, by simp, fun b => by simp, fun b => by simp⟩
theorem zw : (∀ n : Int, IntKind.i64.wrap n = (n + 9223372036854775808) % 18446744073709551616 - 9223372036854775808) ∧ (∀ n : Int, IntKind.u8.wrap n = n % 256) ∧ (∀ n : Int, IntKind.u32.wrap n = n % 4294967296) ∧ (∀ n : Int, IntKind.u64.wrap n = n % 18446744073709551616) ∧ (∀ a b : Int, a.tdiv b = if 0 ≤ a then a / b else -(-a / b)) ∧ (∀ a b : Int, a.tmod b = if 0 ≤ a then a % b else -(-a % b)) :=
  ⟨IntKind.wrap_i64, IntKind.wrap_u8, IntKind.wrap_u32, IntKind.wrap_u64, tdivI, tmodI⟩
theorem AllR.pass {P : Program} {ops : Array Oper} {fuel : Nat} {listed : Array Bool} {s : St} {Q : St → Prop} {l : List Nat} (h : AllR P ops fuel listed s Q l) : AllR P ops fuel listed s Q l := h
theorem AnyQ.pass {P : Program} {ops : Array Oper} {fuel : Nat} {listed : Array Bool} {s : St} {Q : St → Prop} (h : AnyQ P ops fuel listed s Q) : AnyQ P ops fuel listed s Q := h
end Go.Proofs.YtklecijcpkolfaaDoor.Aw

/- The types' table of this seat's program, printed by a program of our own, and the proof that it is that. -/
namespace Go.Proofs.YtklecijcpkolfaaDoor.Aw
open Go Go.RowKit
def tab : List TI := [
  ⟨true, .other, 1, 0, (.some [(.tuple ⟨[]⟩)])⟩,
  ⟨true, .other, 1, 8, (.some [.nilFunc])⟩,
  ⟨true, (.int .i64), 1, 8, (.some [(.int .i64 0)])⟩,
  ⟨true, (.int .i64), 1, 8, (.some [(.int .i64 0)])⟩,
  ⟨true, .bool, 1, 1, (.some [(.bool false)])⟩,
  ⟨true, (.int .u8), 1, 1, (.some [(.int .u8 0)])⟩,
  ⟨true, (.int .u8), 1, 1, (.some [(.int .u8 0)])⟩,
  ⟨true, (.struct [(0, 1, false), (1, 1, false), (2, 1, false), (3, 1, false)]), 4, 24, (.some [(.int .i64 0), (.int .i64 0), (.bool false), (.int .u8 0)])⟩,
  ⟨true, (.struct [(0, 1, false), (1, 1, false), (2, 1, false), (3, 1, false)]), 4, 24, (.some [(.int .i64 0), (.int .i64 0), (.bool false), (.int .u8 0)])⟩,
  ⟨true, .string, 1, 16, (.some [(.string ⟨⟨[]⟩⟩)])⟩,
  ⟨true, .string, 1, 16, (.some [(.string ⟨⟨[]⟩⟩)])⟩,
  ⟨true, .string, 1, 16, (.some [(.string ⟨⟨[]⟩⟩)])⟩,
  ⟨true, (.int .u64), 1, 8, (.some [(.int .u64 0)])⟩,
  ⟨true, (.struct [(0, 1, false), (1, 1, false)]), 2, 24, (.some [(.string ⟨⟨[]⟩⟩), (.int .u64 0)])⟩,
  ⟨true, (.struct [(0, 1, false), (1, 1, false)]), 2, 24, (.some [(.string ⟨⟨[]⟩⟩), (.int .u64 0)])⟩,
  ⟨true, (.pointer 102), 1, 8, (.some [(.pointer .none)])⟩,
  ⟨true, (.pointer 105), 1, 8, (.some [(.pointer .none)])⟩,
  ⟨true, (.pointer 113), 1, 8, (.some [(.pointer .none)])⟩,
  ⟨true, (.struct [(0, 1, false)]), 1, 8, (.some [(.pointer .none)])⟩,
  ⟨true, (.struct [(0, 1, false)]), 1, 8, (.some [(.pointer .none)])⟩,
  ⟨true, .other, 1, 16, (.some [.nilIface])⟩,
  ⟨true, (.int .i32), 1, 4, (.some [(.int .i32 0)])⟩,
  ⟨true, .other, 1, 8, (.some [.nilFunc])⟩,
  ⟨true, (.slice 32), 1, 24, (.some [(.slice .none 0 0)])⟩,
  ⟨true, (.int .i64), 1, 8, (.some [(.int .i64 0)])⟩,
  ⟨true, .other, 1, 0, (.some [(.tuple ⟨[(.slice .none 0 0), (.int .i64 0), (.int .i64 0)]⟩)])⟩,
  ⟨true, .other, 1, 8, (.some [.nilFunc])⟩,
  ⟨true, .other, 1, 0, (.some [(.tuple ⟨[(.slice .none 0 0), (.int .i64 0), (.int .i64 0)]⟩)])⟩,
  ⟨true, .other, 1, 8, (.some [.nilFunc])⟩,
  ⟨true, .other, 1, 8, (.some [.nilFunc])⟩,
  ⟨true, .other, 1, 8, (.some [.nilFunc])⟩,
  ⟨true, (.struct [(0, 1, false), (1, 1, false), (2, 1, false)]), 3, 32, (.some [(.int .i64 0), (.string ⟨⟨[]⟩⟩), (.int .i64 0)])⟩,
  ⟨true, (.struct [(0, 1, false), (1, 1, false), (2, 1, false)]), 3, 32, (.some [(.int .i64 0), (.string ⟨⟨[]⟩⟩), (.int .i64 0)])⟩,
  ⟨true, .other, 1, 8, (.some [.nilFunc])⟩,
  ⟨true, .other, 1, 8, (.some [.nilFunc])⟩,
  ⟨true, (.int .u32), 1, 4, (.some [(.int .u32 0)])⟩,
  ⟨true, (.slice 5), 1, 24, (.some [(.slice .none 0 0)])⟩,
  ⟨true, .other, 1, 0, (.some [(.tuple ⟨[(.int .i64 0), (.bool false)]⟩)])⟩,
  ⟨true, .other, 1, 8, (.some [.nilFunc])⟩,
  ⟨true, .other, 1, 8, (.some [.nilFunc])⟩,
  ⟨true, .other, 1, 8, (.some [.nilFunc])⟩,
  ⟨true, .other, 1, 8, (.some [.nilFunc])⟩,
  ⟨true, .other, 1, 8, (.some [.nilFunc])⟩,
  ⟨true, .other, 1, 8, (.some [.nilFunc])⟩,
  ⟨true, .other, 1, 8, (.some [.nilFunc])⟩,
  ⟨true, .string, 1, 16, (.some [(.string ⟨⟨[]⟩⟩)])⟩,
  ⟨true, .other, 1, 0, (.some [(.tuple ⟨[(.int .i64 0), (.string ⟨⟨[]⟩⟩)]⟩)])⟩,
  ⟨true, .other, 1, 8, (.some [.nilFunc])⟩,
  ⟨true, .other, 1, 0, (.some [(.tuple ⟨[(.int .i64 0), (.int .i64 0)]⟩)])⟩,
  ⟨true, .other, 1, 8, (.some [.nilFunc])⟩,
  ⟨true, (.slice 9), 1, 24, (.some [(.slice .none 0 0)])⟩,
  ⟨true, .other, 1, 8, (.some [.nilFunc])⟩,
  ⟨true, .other, 1, 16, (.some [.nilIface])⟩,
  ⟨true, .other, 1, 16, (.some [.nilIface])⟩,
  ⟨true, .other, 1, 0, (.some [(.tuple ⟨[(.int .i64 0), .nilIface]⟩)])⟩,
  ⟨true, .other, 1, 8, (.some [.nilFunc])⟩,
  ⟨true, .other, 1, 8, (.some [.nilFunc])⟩,
  ⟨true, (.pointer 59), 1, 8, (.some [(.pointer .none)])⟩,
  ⟨true, (.struct [(0, 1, false), (1, 1, false)]), 2, 32, (.some [(.pointer .none), (.slice .none 0 0)])⟩,
  ⟨true, (.struct [(0, 1, false), (1, 1, false)]), 2, 32, (.some [(.pointer .none), (.slice .none 0 0)])⟩,
  ⟨true, .other, 1, 8, (.some [.nilFunc])⟩,
  ⟨true, .other, 1, 8, (.some [.nilFunc])⟩,
  ⟨true, .other, 1, 8, (.some [.nilFunc])⟩,
  ⟨true, (.pointer 5), 1, 8, (.some [(.pointer .none)])⟩,
  ⟨true, (.int .i64), 1, 8, (.some [(.int .i64 0)])⟩,
  ⟨true, .other, 1, 0, (.some [(.tuple ⟨[(.int .i64 0), .nilIface]⟩)])⟩,
  ⟨true, .other, 1, 8, (.some [.nilFunc])⟩,
  ⟨true, (.pointer 79), 1, 8, (.some [(.pointer .none)])⟩,
  ⟨true, .other, 1, 8, (.some [.nilFunc])⟩,
  ⟨true, .other, 1, 8, (.some [.nilFunc])⟩,
  ⟨true, .other, 1, 8, (.some [(.pointer .none)])⟩,
  ⟨true, .other, 1, 8, (.some [.nilFunc])⟩,
  ⟨true, .other, 1, 8, (.some [.nilFunc])⟩,
  ⟨true, (.int .u64), 1, 8, (.some [(.int .u64 0)])⟩,
  ⟨true, .other, 1, 0, (.some [(.tuple ⟨[(.int .u64 0), .nilIface]⟩)])⟩,
  ⟨true, .other, 1, 8, (.some [.nilFunc])⟩,
  ⟨true, (.int .u64), 1, 8, (.some [(.int .u64 0)])⟩,
  ⟨true, .other, 1, 8, (.some [.nilFunc])⟩,
  ⟨true, (.struct [(0, 1, false), (1, 1, false), (2, 1, false)]), 3, 48, (.some [(.string ⟨⟨[]⟩⟩), (.string ⟨⟨[]⟩⟩), .nilIface])⟩,
  ⟨true, (.struct [(0, 1, false), (1, 1, false), (2, 1, false)]), 3, 48, (.some [(.string ⟨⟨[]⟩⟩), (.string ⟨⟨[]⟩⟩), .nilIface])⟩,
  ⟨true, .other, 1, 8, (.some [.nilFunc])⟩,
  ⟨true, .other, 1, 8, (.some [.nilFunc])⟩,
  ⟨true, .other, 1, 8, (.some [.nilFunc])⟩,
  ⟨true, (.pointer 85), 1, 8, (.some [(.pointer .none)])⟩,
  ⟨true, (.struct [(0, 1, false)]), 1, 16, (.some [(.string ⟨⟨[]⟩⟩)])⟩,
  ⟨true, (.struct [(0, 1, false)]), 1, 16, (.some [(.string ⟨⟨[]⟩⟩)])⟩,
  ⟨true, .other, 1, 8, (.some [.nilFunc])⟩,
  ⟨true, (.array 24 5), 24, 24, (.some [(.int .u8 0), (.int .u8 0), (.int .u8 0), (.int .u8 0), (.int .u8 0), (.int .u8 0), (.int .u8 0), (.int .u8 0), (.int .u8 0), (.int .u8 0), (.int .u8 0), (.int .u8 0), (.int .u8 0), (.int .u8 0), (.int .u8 0), (.int .u8 0), (.int .u8 0), (.int .u8 0), (.int .u8 0), (.int .u8 0), (.int .u8 0), (.int .u8 0), (.int .u8 0), (.int .u8 0)])⟩,
  ⟨true, .other, 1, 8, (.some [.nilFunc])⟩,
  ⟨true, .other, 1, 8, (.some [.nilFunc])⟩,
  ⟨true, .other, 1, 0, (.some [(.tuple ⟨[(.slice .none 0 0), (.string ⟨⟨[]⟩⟩)]⟩)])⟩,
  ⟨true, .other, 1, 8, (.some [.nilFunc])⟩,
  ⟨true, .other, 1, 8, (.some [.nilFunc])⟩,
  ⟨true, .other, 1, 8, (.some [.nilFunc])⟩,
  ⟨true, (.array 20 73), 20, 160, (.some [(.int .u64 0), (.int .u64 0), (.int .u64 0), (.int .u64 0), (.int .u64 0), (.int .u64 0), (.int .u64 0), (.int .u64 0), (.int .u64 0), (.int .u64 0), (.int .u64 0), (.int .u64 0), (.int .u64 0), (.int .u64 0), (.int .u64 0), (.int .u64 0), (.int .u64 0), (.int .u64 0), (.int .u64 0), (.int .u64 0)])⟩,
  ⟨true, (.array 65 5), 65, 65, (.some [(.int .u8 0), (.int .u8 0), (.int .u8 0), (.int .u8 0), (.int .u8 0), (.int .u8 0), (.int .u8 0), (.int .u8 0), (.int .u8 0), (.int .u8 0), (.int .u8 0), (.int .u8 0), (.int .u8 0), (.int .u8 0), (.int .u8 0), (.int .u8 0), (.int .u8 0), (.int .u8 0), (.int .u8 0), (.int .u8 0), (.int .u8 0), (.int .u8 0), (.int .u8 0), (.int .u8 0), (.int .u8 0), (.int .u8 0), (.int .u8 0), (.int .u8 0), (.int .u8 0), (.int .u8 0), (.int .u8 0), (.int .u8 0), (.int .u8 0), (.int .u8 0), (.int .u8 0), (.int .u8 0), (.int .u8 0), (.int .u8 0), (.int .u8 0), (.int .u8 0), (.int .u8 0), (.int .u8 0), (.int .u8 0), (.int .u8 0), (.int .u8 0), (.int .u8 0), (.int .u8 0), (.int .u8 0), (.int .u8 0), (.int .u8 0), (.int .u8 0), (.int .u8 0), (.int .u8 0), (.int .u8 0), (.int .u8 0), (.int .u8 0), (.int .u8 0), (.int .u8 0), (.int .u8 0), (.int .u8 0), (.int .u8 0), (.int .u8 0), (.int .u8 0), (.int .u8 0), (.int .u8 0)])⟩,
  ⟨true, .other, 1, 8, (.some [.nilFunc])⟩,
  ⟨true, .other, 1, 8, (.some [.nilFunc])⟩,
  ⟨true, .other, 1, 8, (.some [.nilFunc])⟩,
  ⟨true, (.array 32 5), 32, 32, (.some [(.int .u8 0), (.int .u8 0), (.int .u8 0), (.int .u8 0), (.int .u8 0), (.int .u8 0), (.int .u8 0), (.int .u8 0), (.int .u8 0), (.int .u8 0), (.int .u8 0), (.int .u8 0), (.int .u8 0), (.int .u8 0), (.int .u8 0), (.int .u8 0), (.int .u8 0), (.int .u8 0), (.int .u8 0), (.int .u8 0), (.int .u8 0), (.int .u8 0), (.int .u8 0), (.int .u8 0), (.int .u8 0), (.int .u8 0), (.int .u8 0), (.int .u8 0), (.int .u8 0), (.int .u8 0), (.int .u8 0), (.int .u8 0)])⟩,
  ⟨true, (.array 64 5), 64, 64, (.some [(.int .u8 0), (.int .u8 0), (.int .u8 0), (.int .u8 0), (.int .u8 0), (.int .u8 0), (.int .u8 0), (.int .u8 0), (.int .u8 0), (.int .u8 0), (.int .u8 0), (.int .u8 0), (.int .u8 0), (.int .u8 0), (.int .u8 0), (.int .u8 0), (.int .u8 0), (.int .u8 0), (.int .u8 0), (.int .u8 0), (.int .u8 0), (.int .u8 0), (.int .u8 0), (.int .u8 0), (.int .u8 0), (.int .u8 0), (.int .u8 0), (.int .u8 0), (.int .u8 0), (.int .u8 0), (.int .u8 0), (.int .u8 0), (.int .u8 0), (.int .u8 0), (.int .u8 0), (.int .u8 0), (.int .u8 0), (.int .u8 0), (.int .u8 0), (.int .u8 0), (.int .u8 0), (.int .u8 0), (.int .u8 0), (.int .u8 0), (.int .u8 0), (.int .u8 0), (.int .u8 0), (.int .u8 0), (.int .u8 0), (.int .u8 0), (.int .u8 0), (.int .u8 0), (.int .u8 0), (.int .u8 0), (.int .u8 0), (.int .u8 0), (.int .u8 0), (.int .u8 0), (.int .u8 0), (.int .u8 0), (.int .u8 0), (.int .u8 0), (.int .u8 0), (.int .u8 0)])⟩,
  ⟨true, (.struct [(0, 1, false), (1, 1, false), (2, 1, false), (3, 1, false)]), 4, 40, (.some [(.pointer .none), (.pointer .none), (.pointer .none), (.string ⟨⟨[]⟩⟩)])⟩,
  ⟨true, (.struct [(0, 1, false), (1, 1, false), (2, 1, false), (3, 1, false)]), 4, 40, (.some [(.pointer .none), (.pointer .none), (.pointer .none), (.string ⟨⟨[]⟩⟩)])⟩,
  ⟨true, (.array 0 16), 0, 0, (.some [])⟩,
  ⟨true, (.struct [(0, 0, true)]), 0, 0, (.some [])⟩,
  ⟨true, (.struct [(0, 0, true)]), 0, 0, (.some [])⟩,
  ⟨true, .other, 1, 8, (.some [.nilFunc])⟩,
  ⟨true, (.int .u8), 1, 1, (.some [(.int .u8 0)])⟩,
  ⟨true, (.int .u8), 1, 1, (.some [(.int .u8 0)])⟩,
  ⟨true, .other, 1, 8, (.some [.nilFunc])⟩,
  ⟨true, (.int .i32), 1, 4, (.some [(.int .i32 0)])⟩,
  ⟨true, (.int .i32), 1, 4, (.some [(.int .i32 0)])⟩,
  ⟨true, (.struct [(0, 1, false), (1, 1, false), (2, 1, false), (3, 1, false), (4, 1, false), (5, 1, false), (6, 1, false), (7, 1, false), (8, 1, false), (9, 1, false), (10, 1, false)]), 11, 48, (.some [(.int .u64 0), (.int .u64 0), (.int .u32 0), (.int .u8 0), (.int .u8 0), (.int .u8 0), (.int .u8 0), .nilFunc, (.pointer .none), (.int .i32 0), (.int .i32 0)])⟩,
  ⟨true, (.struct [(0, 1, false), (1, 1, false), (2, 1, false), (3, 1, false), (4, 1, false), (5, 1, false), (6, 1, false), (7, 1, false), (8, 1, false), (9, 1, false), (10, 1, false)]), 11, 48, (.some [(.int .u64 0), (.int .u64 0), (.int .u32 0), (.int .u8 0), (.int .u8 0), (.int .u8 0), (.int .u8 0), .nilFunc, (.pointer .none), (.int .i32 0), (.int .i32 0)])⟩]
theorem tabOk : TabOk Tryd.prog tab := tabOk_of (n := tab.length) (by kernel_rfl)
end Go.Proofs.YtklecijcpkolfaaDoor.Aw

/- The abstract walk, part 31: nil slices that grow; rows of the call's own in versions that are not known. -/
set_option linter.unusedVariables false
set_option linter.unusedSimpArgs false
namespace Go.Proofs.YtklecijcpkolfaaDoor.Aw
open Go Go.RowKit
/-- A nil slice that is assigned is an empty row of the call's own. -/
theorem One.nilOwn {r : Option Nat} {P : Program} {ops : Array Oper} {i : Nat} {s : St} {tab : List TI} (hT : TabOk P tab) (d : Nat) (t : TypeId) {e : TypeId} {j : TI} (h : opAt ops i s = some (.assign (.const (.slice none 0 0)))) (hd : dstOf ops i = some d) (ht : slT tab t = some (e, j)) :
    One r P ops i s (.own s.st.length 0) (s.st ++ [.row true 0 e j.size []]) := by
  refine One.does h rfl fun o hop => ?_
  intro G g w a hr
  obtain ⟨g', h1, h2, h3⟩ := SR.newRow (w' := w) hr e j.size [] (.slice none 0 0) [] ⟨rfl, rfl, rfl, Nat.le_refl _, fun _ _ _ => rfl⟩ (by simp [gb]) ⟨by simp, .inl ⟨rfl, rfl⟩⟩ (fun ok => .nil _ _ _)
  exact ⟨.value (.slice none 0 0), .slice none 0 0, g', w, by simp [execOp, hop]; rfl, .inl rfl, h1, h2, h3⟩
def allEq : List (Nat × Nat) → Prop
  | [] => True
  | p :: r => p.1 = p.2 ∧ allEq r
theorem allEq_app {a b : List (Nat × Nat)} (h : allEq (a ++ b)) : allEq a ∧ allEq b := by
  induction a with
  | nil => exact ⟨trivial, h⟩
  | cons p r ih => exact ⟨⟨h.1, (ih h.2).1⟩, (ih h.2).2⟩
def toICO (own : Bool) (st : List AObj) : AV → Option (IC × List (Nat × Nat))
  | .ic (.sl sz _ xs) => some (.sl sz false xs, [])
  | .ic x => some (x, [])
  | .own i ver => match st[i]? with
    | some (.row m ver' _ sz xs) => match own || !m with
      | true => some (.sl sz false xs, [(ver, ver')])
      | false => none
    | _ => none
  | .fn (.func f) [] [] => some (.lit (.func (.func f) #[] #[]), [])
  | _ => none
def toICsO (own : Bool) (st : List AObj) : List AV → Option (List IC × List (Nat × Nat))
  | [] => some ([], [])
  | x :: r => match toICO own st x with
    | some (y, c) => match toICsO own st r with
      | some (z, d) => some (y :: z, c ++ d)
      | none => none
    | none => none
def toPVO (own : Bool) (st : List AObj) : AV → Option (PV × List (Nat × Nat))
  | .agg xs => match toICsO own st xs with
    | some (ys, c) => some (.agg ys, c)
    | none => none
  | x => match toICO own st x with
    | some (y, c) => some (.c y, c)
    | none => none
def toPVsO (own : Bool) (st : List AObj) : List AV → Option (List PV × List (Nat × Nat))
  | [] => some ([], [])
  | x :: r => match toPVO own st x with
    | some (y, c) => match toPVsO own st r with
      | some (z, d) => some (y :: z, c ++ d)
      | none => none
    | none => none
theorem toICO_ok {own : Bool} {st : List AObj} {x : AV} {y : IC} {c : List (Nat × Nat)} (h : toICO own st x = some (y, c)) (hc : allEq c) : toIC own st x = some y := by
  unfold toICO at h
  split at h
  · simp only [Option.some.injEq, Prod.mk.injEq] at h; obtain ⟨rfl, rfl⟩ := h; rfl
  · rename_i x hx
    simp only [Option.some.injEq, Prod.mk.injEq] at h
    obtain ⟨rfl, rfl⟩ := h
    cases x with
    | lit => rfl
    | mp => rfl
    | sl a b c => exact absurd rfl (hx a b c)
  · rename_i i ver
    split at h
    · rename_i m ver' e sz xs hs
      split at h
      · rename_i ho
        simp only [Option.some.injEq, Prod.mk.injEq] at h
        obtain ⟨rfl, rfl⟩ := h
        have e1 : ver = ver' := hc.1
        simp [toIC, hs, e1, ho]
      · simp at h
    · simp at h
  · simp only [Option.some.injEq, Prod.mk.injEq] at h; obtain ⟨rfl, rfl⟩ := h; rfl
  · simp at h
theorem toICsO_ok {own : Bool} {st : List AObj} : ∀ {xs : List AV} {ys : List IC} {c : List (Nat × Nat)}, toICsO own st xs = some (ys, c) → allEq c → toICs own st xs = some ys
  | [], ys, c, h, hc => by simp only [toICsO, Option.some.injEq, Prod.mk.injEq] at h; obtain ⟨rfl, rfl⟩ := h; rfl
  | x :: r, ys, c, h, hc => by
    simp only [toICsO] at h
    split at h
    · rename_i y c1 h1
      split at h
      · rename_i z d h2
        simp only [Option.some.injEq, Prod.mk.injEq] at h
        obtain ⟨rfl, rfl⟩ := h
        obtain ⟨a, b⟩ := allEq_app hc
        simp [toICs, toICO_ok h1 a, toICsO_ok h2 b]
      · simp at h
    · simp at h
theorem toPVO_ok {own : Bool} {st : List AObj} {x : AV} {y : PV} {c : List (Nat × Nat)} (h : toPVO own st x = some (y, c)) (hc : allEq c) : toPV own st x = some y := by
  have key : ∀ z : AV, (∀ xs, z ≠ AV.agg xs) → toPVO own st z = (match toICO own st z with | some (y, c) => some (.c y, c) | none => none) ∧ toPV own st z = (match toIC own st z with | some y => some (.c y) | none => none) := by
    intro z hz
    cases z <;> first | exact ⟨rfl, rfl⟩ | exact absurd rfl (hz _)
  by_cases hx : ∃ xs, x = .agg xs
  · obtain ⟨xs, rfl⟩ := hx
    simp only [toPVO] at h
    split at h
    · rename_i ys c1 h1
      simp only [Option.some.injEq, Prod.mk.injEq] at h
      obtain ⟨rfl, rfl⟩ := h
      simp [toPV, toICsO_ok h1 hc]
    · simp at h
  · obtain ⟨k1, k2⟩ := key x fun xs e => hx ⟨xs, e⟩
    rw [k1] at h
    rw [k2]
    split at h
    · rename_i y1 c1 h1
      simp only [Option.some.injEq, Prod.mk.injEq] at h
      obtain ⟨rfl, rfl⟩ := h
      rw [toICO_ok h1 hc]
    · simp at h
theorem toPVsO_ok {own : Bool} {st : List AObj} : ∀ {xs : List AV} {ys : List PV} {c : List (Nat × Nat)}, toPVsO own st xs = some (ys, c) → allEq c → toPVs own st xs = some ys
  | [], ys, c, h, hc => by simp only [toPVsO, Option.some.injEq, Prod.mk.injEq] at h; obtain ⟨rfl, rfl⟩ := h; rfl
  | x :: r, ys, c, h, hc => by
    simp only [toPVsO] at h
    split at h
    · rename_i y c1 h1
      split at h
      · rename_i z d h2
        simp only [Option.some.injEq, Prod.mk.injEq] at h
        obtain ⟨rfl, rfl⟩ := h
        obtain ⟨a, b⟩ := allEq_app hc
        simp [toPVs, toPVO_ok h1 a, toPVsO_ok h2 b]
      · simp at h
    · simp at h
theorem One.callO {r : Option Nat} {P : Program} {ops : Array Oper} {i : Nat} {s : St} {x : Operand} {args : Array Operand} {ts : Array TypeId} {f : FuncId} {first cap : List AV} {pvs : List PV} {y : PV} {c : List (Nat × Nat)} (own : Bool) (h : opAt ops i s = some (.call { callee := .value x, args := args, argTypes := ts })) (hf : s.ev x = .fn (.func f) first cap)
    (hx : toPVsO own s.st (first ++ args.toList.map s.ev ++ cap) = some (pvs, c)) (hc : PureCalls P f pvs y) (hn : (!own || noSl y) = true) (he : allEq c) : One r P ops i s y.av s.st := One.call own h hf (toPVsO_ok hx he) hc hn
end Go.Proofs.YtklecijcpkolfaaDoor.Aw

/- The abstract walk, part 32: cells of a variable, told in other words. -/
set_option linter.unusedVariables false
set_option linter.unusedSimpArgs false
namespace Go.Proofs.YtklecijcpkolfaaDoor.Aw
open Go Go.RowKit
inductive CLe (s : List AObj) : AV → AV → Prop where
  | refl (x : AV) : CLe s x x
  | nil (a c : Nat) (b : Bool) : CLe s (.ic (.sl a b [])) (.ic (.sl c false []))
  | own (i ver e sz : Nat) (xs : List (List IC)) (h : s[i]? = some (.row false ver e sz xs)) : CLe s (.own i ver) (.ic (.sl sz false xs))
inductive CLes (s : List AObj) : List AV → List AV → Prop where
  | nil : CLes s [] []
  | cons {x y : AV} {r r' : List AV} (h : CLe s x y) (k : CLes s r r') : CLes s (x :: r) (y :: r')
theorem CLes.get {s : List AObj} {xs ys : List AV} (h : CLes s xs ys) : xs.length = ys.length ∧ ∀ (k : Nat) (y : AV), ys[k]? = some y → ∃ x, xs[k]? = some x ∧ CLe s x y := by
  induction h with
  | nil => exact ⟨rfl, fun k y hy => by simp at hy⟩
  | cons h k ih =>
    refine ⟨by simp [ih.1], fun j z hz => ?_⟩
    cases j with
    | zero => simp at hz; subst hz; exact ⟨_, rfl, h⟩
    | succ j => exact ih.2 j z (by simpa using hz)
theorem frozen_ir {G : Nat → Prop} {s : List AObj} {g : Ghost} {w : World} (hr : SR G s g w) {i ver e sz : Nat} {xs : List (List IC)} (h : s[i]? = some (.row false ver e sz xs)) : IR w (Good G s g) (.sl sz false xs) (g i) :=
  row_ir h hr _ (fun _ h => h) (fun b hb hG => ⟨hG, fun ⟨j, o, hj, hm, hgj⟩ => by
    have := hr.inj i j _ o b h hj rfl (by cases o <;> simp_all [AObj.mu, AObj.live]) hb hgj
    subst this
    rw [h] at hj
    simp only [Option.some.injEq] at hj
    subst hj
    simp [AObj.mu] at hm⟩)
theorem AR.le {G : Nat → Prop} {s : List AObj} {g : Ghost} {w : World} (hr : SR G s g w) {x y : AV} {v : Value} (h : AR G s g w x v) (k : CLe s x y) : AR G s g w y v := by
  cases k with
  | refl => exact h
  | nil a c b => exact .ic _ _ (h.ic_inv.le (.nil a c b))
  | own i ver e sz xs hs =>
    cases h with
    | own i ver v hi hv h1 =>
      obtain rfl := (hv _ _ _ _ _ hs).2 rfl
      exact .ic _ _ (frozen_ir hr hs)
theorem SR.recell {G : Nat → Prop} {s : List AObj} {g : Ghost} {w : World} (hr : SR G s g w) (i : Nat) {m : Bool} {t : TypeId} {cs cs' : List AV} (hi : s[i]? = some (.var m t cs)) (hc : CLes s cs cs') :
    Evo s g w (s.set i (.var m t cs')) g w ∧ SR G (s.set i (.var m t cs')) g w := by
  have hil := (List.getElem?_eq_some_iff.1 hi).1
  have get : ∀ j o, (s.set i (.var m t cs'))[j]? = some o → (j = i ∧ o = .var m t cs') ∨ (j ≠ i ∧ s[j]? = some o) := fun j o hj => by
    by_cases e : i = j
    · subst e
      rw [List.getElem?_set_self hil] at hj
      exact .inl ⟨rfl, (Option.some.inj hj).symm⟩
    · rw [List.getElem?_set_ne e] at hj
      exact .inr ⟨fun h => e h.symm, hj⟩
  have hev : Evo s g w (s.set i (.var m t cs')) g w := by
    refine ⟨rfl, rfl, rfl, Nat.le_refl _, fun _ _ _ => rfl, fun b _ ⟨j, o, hj, hm, hg⟩ => ?_, by simp, fun j m1 t1 c1 _ hj => ?_, fun j m1 v1 e1 z1 x1 _ hj => ?_, fun j c1 _ hj => ?_⟩
    · rcases get j o hj with ⟨rfl, rfl⟩ | ⟨_, h⟩
      · exact ⟨j, _, hi, hm, hg⟩
      · exact ⟨j, o, h, hm, hg⟩
    · rcases get j _ hj with ⟨rfl, e⟩ | ⟨_, h⟩
      · simp only [AObj.var.injEq] at e
        obtain ⟨rfl, rfl, rfl⟩ := e
        exact ⟨⟨_, _, hi⟩, rfl⟩
      · exact ⟨⟨_, _, h⟩, rfl⟩
    · rcases get j _ hj with ⟨rfl, e⟩ | ⟨_, h⟩
      · cases e
      · exact ⟨_, _, _, h, Nat.le_refl _, fun _ => rfl⟩
    · rcases get j _ hj with ⟨rfl, e⟩ | ⟨_, h⟩
      · cases e
      · exact ⟨⟨_, h⟩, rfl⟩
  refine ⟨hev, ⟨fun j o hj => ?_, fun j k o o' b hj hk l1 l2 b1 b2 => ?_, hr.new⟩⟩
  · rcases get j o hj with ⟨rfl, rfl⟩ | ⟨_, h⟩
    · obtain ⟨b, vs, h1, h2, h3, h4, h5, h6⟩ := hr.obj j _ hi
      refine ⟨b, vs, h1, h2, h3, by rw [h4, hc.get.1], h5, fun k y hk => ?_⟩
      obtain ⟨x, hx, hle⟩ := hc.get.2 k y hk
      exact ((h6 k x hx).le hr hle).evo hev
    · exact (hr.obj j o h).evo hev rfl fun _ _ => rfl
  · have f : ∀ (j : Nat) (o : AObj), (s.set i (.var m t cs'))[j]? = some o → o.live = true → ∃ o2 : AObj, s[j]? = some o2 ∧ o2.live = true := fun j o hj hl => by
      rcases get j o hj with ⟨rfl, rfl⟩ | ⟨_, h⟩
      · exact ⟨_, hi, rfl⟩
      · exact ⟨o, h, hl⟩
    obtain ⟨o2, h2, l2'⟩ := f j o hj l1
    obtain ⟨o3, h3, l3'⟩ := f k o' hk l2
    exact hr.inj j k o2 o3 b h2 h3 l2' l3' b1 b2
theorem AWp.recell {r : Option Nat} {P : Program} {c : Code} {s : St} {Q : Exit → St → Prop} (i : Nat) {m : Bool} {t : TypeId} {cs : List AV} (cs' : List AV) (hi : s.st[i]? = some (.var m t cs)) (hc : CLes s.st cs cs') (h : AWp r P c ⟨s.nt, s.env, s.st.set i (.var m t cs')⟩ Q) : AWp r P c s Q := fun G g w a B QQ hr hB hd k => by
  obtain ⟨hev, hsr⟩ := hr.sr.recell i hi hc
  refine h G g w a B QQ ⟨fun t => (hr.slots t).evo hev, hr.size, hsr⟩ hB (hd.evo hr.sr hev) fun e s' g' w' a' q hr' he hd' => k e s' g' w' a' q hr' (hev.trans he) hd'
end Go.Proofs.YtklecijcpkolfaaDoor.Aw

/- The abstract walk, part 33: loops whose rounds lay objects that are forgotten at their end. -/
set_option linter.unusedVariables false
set_option linter.unusedSimpArgs false
namespace Go.Proofs.YtklecijcpkolfaaDoor.Aw
open Go Go.RowKit
theorem AWp.trimN {r : Option Nat} {P : Program} {c : Code} {s : St} {Q1 : St → Prop} {Q : Exit → St → Prop} (n : Nat) (hn : s.st.length ≤ n) (h : AWp r P c s (Thn (fun s' => ∃ env, Trim n s.st env s' ∧ Q1 ⟨s'.nt, env, s'.st.take n⟩) Q)) : AWp r P c s (Thn Q1 Q) := fun G g w a B QQ hr hB hd kk => by
  refine h G g w a B QQ hr hB hd ?_
  intro e s' g' w' a' hQ hr' hev hd'
  cases e with
  | normal =>
    obtain ⟨env, ⟨h2, ht, hce, hget⟩, hQ⟩ := hQ
    obtain ⟨hsr, hev'⟩ := trimS hr.sr hr'.sr hev hn h2 ht
    refine kk .normal _ g' w' a' hQ ⟨fun t => ?_, hr'.size, hsr⟩ hev' hd'
    show AR G (s'.st.take n) g' w' (look env t) _
    rcases look_mem env t with e0 | ⟨p, hp, e1, e2⟩
    · rw [e0]; exact .any _
    · have hcl := closedE_look hce t
      rw [← e2] at hcl ⊢
      have hx := hr'.slots t
      rw [← e1] at hx
      rw [hget p hp] at hx
      rw [← e1]
      exact hx.trim hcl h2
  | ret => exact kk .ret s' g' w' a' hQ hr' hev hd'
  | exit id => exact kk (.exit id) s' g' w' a' hQ hr' hev hd'
  | goto t => exact kk (.goto t) s' g' w' a' hQ hr' hev hd'
  | panic ch => exact kk (.panic ch) s' g' w' a' hQ hr' hev hd'
  | outgrown => exact kk .outgrown s' g' w' a' hQ hr' hev hd'
def ndB : List (Nat × AV) → Nat → Bool
  | [], _ => true
  | (t, _) :: r, m => match bitB m t with
    | true => false
    | false => ndB r (bitS m t)
theorem ndB_look : ∀ (env : List (Nat × AV)) (m : Nat), ndB env m = true → ∀ p ∈ env, bitB m p.1 = false ∧ look env p.1 = p.2
  | [], _, _, p, hp => by simp at hp
  | (t, x) :: r, m, h, p, hp => by
    simp only [ndB] at h
    cases hm : bitB m t with
    | true => rw [hm] at h; cases h
    | false =>
      rw [hm] at h
      rcases List.mem_cons.1 hp with rfl | hp
      · exact ⟨hm, look_cons_eq⟩
      · obtain ⟨h1, h2⟩ := ndB_look r _ h p hp
        rw [bit_add, Bool.or_eq_false_iff] at h1
        refine ⟨h1.1, ?_⟩
        rw [look_cons_ne fun e => by simp [e] at h1]
        exact h2
/-- As loopU; n objects stay at the end of a round. -/
theorem AWp.loopT {r : Option Nat} {P : Program} {c : Code} {s : St} {Q : Exit → St → Prop} {σ : Type} (n : Nat) (up : σ → List (Nat × AV)) (stf : σ → List AObj) (mu : σ → Nat) (Inv : σ → Prop) (x0 : σ) {keep : List (Nat × AV)} (hk : keepOf (wr c 0) s.env = keep)
    (h0 : Inv x0) (he : subE s (up x0)) (hs : s.st = stf x0) (hn : ∀ x, Nat.ble (stf x).length n = true) (hnd : ∀ x, ndB (up x ++ keep) 0 = true)
    (round : ∀ x, Inv x → AWp r P c ⟨s.nt, up x ++ keep, stf x⟩ (Thn (fun s' => ∃ x', Inv x' ∧ mu x' < mu x ∧ s'.nt = s.nt ∧ Nat.ble n s'.st.length = true ∧ trimOk n (stf x) (s'.st.take n) ∧ s'.st.take n = stf x' ∧ closedE n (up x' ++ keep) = true ∧ subE s' (up x') ∧ subE s' keep) Q)) : AWp r P (.loop c) s Q := by
  subst hk
  refine AWp.loop (fun n s' => ∃ x, Inv x ∧ mu x = n ∧ Sub ⟨s.nt, up x ++ keepOf (wr c 0) s.env, stf x⟩ s') (mu x0) ⟨x0, h0, rfl, Sub.of rfl hs (subE_append he (subE_of fun p hp => (keep_get _ _ p hp).2))⟩ ?_
  rintro m s1 ⟨x, hi, rfl, hsub⟩
  refine AWp.sub hsub ?_
  refine AWp.trimN n (Nat.le_of_ble_eq_true (hn x)) ((round x hi).mono ?_)
  intro e s2 h
  cases e with
  | normal =>
    obtain ⟨x', h1, h2, h3, h4, h5, h6, h7, h8, h9⟩ := h
    refine ⟨up x' ++ keepOf (wr c 0) s.env, Trim.of h4 h5 h7 (subE_append h8 h9), mu x', h2, x', h1, rfl, Sub.of h3 h6 (subE_of fun p hp => (ndB_look _ 0 (hnd x') p hp).2)⟩
  | _ => exact h
end Go.Proofs.YtklecijcpkolfaaDoor.Aw

/- The abstract walk, part 34: a contract in a store holds at any place of a store. -/
set_option linter.unusedVariables false
set_option linter.unusedSimpArgs false
namespace Go.Proofs.YtklecijcpkolfaaDoor.Aw
open Go Go.RowKit
mutual
/-- The value, its objects K places on. -/
def shV (K : Nat) : AV → AV
  | .any => .any
  | .ic x => .ic x
  | .own i v => .own (K + i) v
  | .ptr i o => .ptr (K + i) o
  | .at cs => .at cs
  | .rat i v j o => .rat (K + i) v j o
  | .fn f a b => .fn f (shVs K a) (shVs K b)
  | .agg xs => .agg (shVs K xs)
  | .tup xs => .tup (shVs K xs)
  | .yl i => .yl (K + i)
def shVs (K : Nat) : List AV → List AV
  | [] => []
  | x :: r => shV K x :: shVs K r
end
def shO (K : Nat) : AObj → AObj
  | .var m t cs => .var m t (shVs K cs)
  | .dead => .dead
  | .row m v e sz xs => .row m v e sz xs
  | .lp c => .lp c
def shOs (K : Nat) : List AObj → List AObj
  | [] => []
  | x :: r => shO K x :: shOs K r
def noLp : AObj → Bool
  | .lp _ => false
  | _ => true
theorem shVs_get {K : Nat} : ∀ {l : List AV} {k : Nat} {y : AV}, (shVs K l)[k]? = some y → ∃ x, l[k]? = some x ∧ y = shV K x
  | [], k, y, h => by simp [shVs] at h
  | x :: r, 0, y, h => by simp [shVs] at h; exact ⟨x, rfl, h.symm⟩
  | x :: r, k + 1, y, h => by
    simp only [shVs, List.getElem?_cons_succ] at h
    simpa using shVs_get h
theorem shVs_len {K : Nat} : ∀ l : List AV, (shVs K l).length = l.length
  | [] => rfl
  | x :: r => by simp [shVs, shVs_len r]
theorem shVs_of {K : Nat} : ∀ {l : List AV} {k : Nat} {x : AV}, l[k]? = some x → (shVs K l)[k]? = some (shV K x)
  | [], k, x, h => by simp at h
  | y :: r, 0, x, h => by simp at h; subst h; rfl
  | y :: r, k + 1, x, h => by
    simp only [shVs, List.getElem?_cons_succ]
    exact shVs_of (by simpa using h)
theorem shOs_len {K : Nat} : ∀ l : List AObj, (shOs K l).length = l.length
  | [] => rfl
  | x :: r => by simp [shOs, shOs_len r]
theorem shOs_of {K : Nat} : ∀ {l : List AObj} {k : Nat} {x : AObj}, l[k]? = some x → (shOs K l)[k]? = some (shO K x)
  | [], k, x, h => by simp at h
  | y :: r, 0, x, h => by simp at h; subst h; rfl
  | y :: r, k + 1, x, h => by
    simp only [shOs, List.getElem?_cons_succ]
    exact shOs_of (by simpa using h)
theorem shOs_get {K : Nat} : ∀ {l : List AObj} {k : Nat} {y : AObj}, (shOs K l)[k]? = some y → ∃ x, l[k]? = some x ∧ y = shO K x
  | [], k, y, h => by simp [shOs] at h
  | x :: r, 0, y, h => by simp [shOs] at h; exact ⟨x, rfl, h.symm⟩
  | x :: r, k + 1, y, h => by
    simp only [shOs, List.getElem?_cons_succ] at h
    simpa using shOs_get h
theorem shO_mu (K : Nat) (o : AObj) : (shO K o).mu = o.mu := by cases o <;> rfl
theorem shO_live (K : Nat) (o : AObj) : (shO K o).live = o.live := by cases o <;> rfl
/-- Out of the great store into the small one. -/
theorem AR.down {G G' : Nat → Prop} {big s : List AObj} {g g' : Ghost} {w : World} {K : Nat} (hgood : ∀ b, Good G big g b → Good G' s g' b) (hobj : ∀ (i : Nat) (o : AObj), s[i]? = some o → big[K + i]? = some (shO K o)) (hg : ∀ i, g' i = g (K + i)) {y : AV} {v : Value} (h : AR G big g w y v) :
    ∀ x : AV, y = shV K x → closedB s.length x = true → AR G' s g' w x v := by
  have lt : ∀ i, Nat.blt i s.length = true → i < s.length := fun i hi => Nat.le_of_ble_eq_true hi
  induction h with
  | any v => intro x e hc; cases x <;> simp [shV] at e; exact .any v
  | ic z v h => intro x e hc; cases x <;> simp [shV] at e; subst e; exact .ic _ _ (h.mono (fun _ _ _ => rfl) (fun b _ hb => hgood b hb) (Nat.le_refl _))
  | own i ver v hi hv h1 =>
    intro x e hc
    cases x <;> simp [shV] at e
    obtain ⟨rfl, rfl⟩ := e
    refine .own _ _ _ (lt _ hc) (fun m v' e sz xs hs => ?_) h1
    obtain ⟨a, b⟩ := hv _ _ _ _ _ (hobj _ _ hs)
    exact ⟨a, fun e => (b e).trans (hg _).symm⟩
  | ptr i off v hi hv h1 =>
    intro x e hc
    cases x <;> simp [shV] at e
    obtain ⟨rfl, rfl⟩ := e
    refine .ptr _ _ _ (lt _ hc) (fun m t cs hs => ?_) h1
    obtain ⟨b, e1, e2⟩ := hv _ _ _ (hobj _ _ hs)
    exact ⟨b, (hg _).trans e1, e2⟩
  | «at» cs b o val hb hok hcell hin =>
    intro x e hc
    cases x <;> simp [shV] at e
    subst e
    exact .«at» _ b o val hb (hgood b hok) hcell fun k x hk => (hin k x hk).mono (fun _ _ _ => rfl) (fun b _ hb => hgood b hb) (Nat.le_refl _)
  | rat i ver j off v hi hv h1 =>
    intro x e hc
    cases x <;> simp [shV] at e
    obtain ⟨rfl, rfl, rfl, rfl⟩ := e
    refine .rat _ _ _ _ _ (lt _ hc) (fun m v' e sz xs hs => ?_) h1
    obtain ⟨a, b⟩ := hv _ _ _ _ _ (hobj _ _ hs)
    exact ⟨a, fun e => by obtain ⟨b', h1, h2⟩ := b e; exact ⟨b', by rw [hg]; exact h1, h2⟩⟩
  | fn f first cap vf vc h1 h2 h3 h4 ih3 ih4 =>
    intro x e hc
    cases x <;> simp [shV] at e
    obtain ⟨rfl, rfl, rfl⟩ := e
    simp only [closedB, Bool.and_eq_true] at hc
    refine .fn _ _ _ vf vc (by rw [h1, shVs_len]) (by rw [h2, shVs_len]) (fun k x hk => ih3 k _ (shVs_of hk) x rfl (closedBs_get hc.1 k x hk)) (fun k x hk => ih4 k _ (shVs_of hk) x rfl (closedBs_get hc.2 k x hk))
  | agg xs vs h1 h2 h3 ih =>
    intro x e hc
    cases x <;> simp [shV] at e
    subst e
    exact .agg _ vs (by rw [h1, shVs_len]) (fun k x hk => ih k _ (shVs_of hk) x rfl (closedBs_get hc k x hk)) h3
  | tup xs vs h1 h2 ih =>
    intro x e hc
    cases x <;> simp [shV] at e
    subst e
    exact .tup _ vs (by rw [h1, shVs_len]) (fun k x hk => ih k _ (shVs_of hk) x rfl (closedBs_get hc k x hk))
  | yl i v hi hv h1 =>
    intro x e hc
    cases x <;> simp [shV] at e
    subst e
    exact .yl _ _ (lt _ hc) (fun c hs => by obtain ⟨b, e1, e2⟩ := hv c (hobj _ _ hs); exact ⟨b, (hg _).trans e1, e2⟩) h1
/-- .. and back. -/
theorem AR.up {G G' : Nat → Prop} {big s : List AObj} {g g' : Ghost} {w : World} {K : Nat} (hgood : ∀ b, Good G' s g' b → Good G big g b) (hlen : K + s.length ≤ big.length) (hobj : ∀ (i : Nat) (o : AObj), i < s.length → big[K + i]? = some o → ∃ o0, s[i]? = some o0 ∧ o = shO K o0) (hg : ∀ i, i < s.length → g (K + i) = g' i) {x : AV} {v : Value} (h : AR G' s g' w x v) : AR G big g w (shV K x) v := by
  induction h with
  | any v => exact .any v
  | ic z v h => exact .ic _ _ (h.mono (fun _ _ _ => rfl) (fun b _ hb => hgood b hb) (Nat.le_refl _))
  | own i ver v hi hv h1 =>
    refine .own _ _ _ (by omega) (fun m v' e sz xs hs => ?_) h1
    obtain ⟨o0, h0, e0⟩ := hobj _ _ hi hs
    cases o0 <;> simp [shO] at e0
    obtain ⟨rfl, rfl, rfl, rfl, rfl⟩ := e0
    obtain ⟨a, b⟩ := hv _ _ _ _ _ h0
    exact ⟨a, fun e => (b e).trans (hg _ hi).symm⟩
  | ptr i off v hi hv h1 =>
    refine .ptr _ _ _ (by omega) (fun m t cs hs => ?_) h1
    obtain ⟨o0, h0, e0⟩ := hobj _ _ hi hs
    cases o0 <;> simp [shO] at e0
    obtain ⟨rfl, rfl, rfl⟩ := e0
    obtain ⟨b, e1, e2⟩ := hv _ _ _ h0
    exact ⟨b, (hg _ hi).trans e1, e2⟩
  | «at» cs b o val hb hok hcell hin => exact .«at» _ b o val hb (hgood b hok) hcell fun k x hk => (hin k x hk).mono (fun _ _ _ => rfl) (fun b _ hb => hgood b hb) (Nat.le_refl _)
  | rat i ver j off v hi hv h1 =>
    refine .rat _ _ _ _ _ (by omega) (fun m v' e sz xs hs => ?_) h1
    obtain ⟨o0, h0, e0⟩ := hobj _ _ hi hs
    cases o0 <;> simp [shO] at e0
    obtain ⟨rfl, rfl, rfl, rfl, rfl⟩ := e0
    obtain ⟨a, b⟩ := hv _ _ _ _ _ h0
    exact ⟨a, fun e => by obtain ⟨b', h1, h2⟩ := b e; exact ⟨b', by rw [hg _ hi]; exact h1, h2⟩⟩
  | fn f first cap vf vc h1 h2 h3 h4 ih3 ih4 =>
    refine .fn _ _ _ vf vc (by rw [h1, shVs_len]) (by rw [h2, shVs_len]) (fun k y hk => ?_) (fun k y hk => ?_)
    · obtain ⟨x, hx, rfl⟩ := shVs_get hk; exact ih3 k x hx
    · obtain ⟨x, hx, rfl⟩ := shVs_get hk; exact ih4 k x hx
  | agg xs vs h1 h2 h3 ih =>
    refine .agg _ vs (by rw [h1, shVs_len]) (fun k y hk => ?_) h3
    obtain ⟨x, hx, rfl⟩ := shVs_get hk; exact ih k x hx
  | tup xs vs h1 h2 ih =>
    refine .tup _ vs (by rw [h1, shVs_len]) (fun k y hk => ?_)
    obtain ⟨x, hx, rfl⟩ := shVs_get hk; exact ih k x hx
  | yl i v hi hv h1 =>
    refine .yl _ _ (by omega) (fun c hs => ?_) h1
    obtain ⟨o0, h0, e0⟩ := hobj _ _ hi hs
    cases o0 <;> simp [shO] at e0
    subst e0
    obtain ⟨b, e1, e2⟩ := hv _ h0
    exact ⟨b, (hg _ hi).trans e1, e2⟩
end Go.Proofs.YtklecijcpkolfaaDoor.Aw

/- The abstract walk, part 35: the frame rule of calls in a store. -/
set_option linter.unusedVariables false
set_option linter.unusedSimpArgs false
namespace Go.Proofs.YtklecijcpkolfaaDoor.Aw
open Go Go.RowKit
theorem OR.down {G G' : Nat → Prop} {big s : List AObj} {g g' : Ghost} {w : World} {K : Nat} (hgood : ∀ b, Good G big g b → Good G' s g' b) (hobj : ∀ (i : Nat) (o : AObj), s[i]? = some o → big[K + i]? = some (shO K o)) (hg : ∀ i, g' i = g (K + i)) {i : Nat} {o : AObj} (h : OR G big g w (K + i) (shO K o))
    (hlp : noLp o = true) (hcl : closedO s.length o = true) (hG : ∀ b, gb (g' i) = some b → G b → G' b) : OR G' s g' w i o := by
  cases o with
  | dead => trivial
  | var m t cs =>
    obtain ⟨b, vs, h1, h2, h3, h4, h5, h6⟩ := h
    exact ⟨b, vs, (hg i).trans h1, hG b (by rw [hg, h1]; rfl) h2, h3, by rw [h4, shVs_len], h5, fun k x hk => (h6 k _ (shVs_of hk)).down hgood hobj hg x rfl (closedBs_get hcl k x hk)⟩
  | row m ver e sz xs =>
    obtain ⟨cells, h1, h2, h3⟩ := h
    exact ⟨cells, by rw [hg]; exact h1, fun b hb => hG b hb (h2 b (by rw [← hg]; exact hb)), h3.mono fun x v hr => hr.mono (fun _ _ _ => rfl) (fun b _ hb => hgood b hb) (Nat.le_refl _)⟩
  | lp c => simp [noLp] at hlp
theorem OR.up {G G' : Nat → Prop} {big s : List AObj} {g g' : Ghost} {w : World} {K : Nat} (hgood : ∀ b, Good G' s g' b → Good G big g b) (hlen : K + s.length ≤ big.length) (hobj : ∀ (i : Nat) (o : AObj), i < s.length → big[K + i]? = some o → ∃ o0, s[i]? = some o0 ∧ o = shO K o0) (hg : ∀ i, i < s.length → g (K + i) = g' i) {i : Nat} {o : AObj} (hi : i < s.length) (h : OR G' s g' w i o)
    (hlp : noLp o = true) (hG : ∀ b, G' b → G b) : OR G big g w (K + i) (shO K o) := by
  cases o with
  | dead => trivial
  | var m t cs =>
    obtain ⟨b, vs, h1, h2, h3, h4, h5, h6⟩ := h
    refine ⟨b, vs, (hg i hi).trans h1, hG b h2, h3, by rw [h4, shVs_len], h5, fun k y hk => ?_⟩
    obtain ⟨x, hx, rfl⟩ := shVs_get hk
    exact (h6 k x hx).up hgood hlen hobj hg
  | row m ver e sz xs =>
    obtain ⟨cells, h1, h2, h3⟩ := h
    exact ⟨cells, by rw [hg i hi]; exact h1, fun b hb => hG b (h2 b (by rw [← hg i hi]; exact hb)), h3.mono fun x v hr => hr.mono (fun _ _ _ => rfl) (fun b _ hb => hgood b hb) (Nat.le_refl _)⟩
  | lp c => simp [noLp] at hlp
/-- Data of the store that a call may turn: no record; what lives may be written. -/
def plainO : AObj → Bool
  | .lp _ => false
  | .dead => true
  | o => o.mu
theorem plain_noLp {o : AObj} (h : plainO o = true) : noLp o = true := by cases o <;> simp_all [plainO, noLp]
theorem plain_mu {o : AObj} (h : plainO o = true) (hl : o.live = true) : o.mu = true := by cases o <;> simp_all [plainO, AObj.live]
/-- A contract at the store s holds where s stands K places on, among others. -/
theorem ACalls.frame {P : Program} {f : FuncId} {xs : List AV} {s : List AObj} {R : AV → List AObj → Prop} (h : ACalls P f xs s R) (pre post : List AObj) (hp : s.all plainO = true) (hc : s.all (closedO s.length) = true) (hx : closedBs s.length xs = true)
    (hR : ∀ x s', R x s' → s'.length = s.length ∧ s'.all plainO = true) :
    ACalls P f (shVs pre.length xs) (pre ++ (shOs pre.length s ++ post)) (fun y st' => ∃ x s', R x s' ∧ y = shV pre.length x ∧ st' = pre ++ (shOs pre.length s' ++ post)) := by
  refine ⟨h.1, fun G g w vals hsz hr hv => ?_⟩
  generalize hK : pre.length = K at *
  generalize hn : s.length = n at *
  have hbl : ∀ s' : List AObj, s'.length = n → (pre ++ (shOs K s' ++ post)).length = K + n + post.length := fun s' e => by simp [shOs_len, e, hK]; omega
  have gpre : ∀ (s' : List AObj) (i : Nat), i < K → (pre ++ (shOs K s' ++ post))[i]? = pre[i]? := fun s' i hi => List.getElem?_append_left (by omega)
  have gmid : ∀ (s' : List AObj), s'.length = n → ∀ i, i < n → (pre ++ (shOs K s' ++ post))[K + i]? = (shOs K s')[i]? := fun s' e i hi => by
    rw [List.getElem?_append_right (by omega), List.getElem?_append_left (by rw [shOs_len]; omega)]
    congr 1; omega
  have gpost : ∀ (s' : List AObj), s'.length = n → ∀ i, K + n ≤ i → (pre ++ (shOs K s' ++ post))[i]? = post[i - K - n]? := fun s' e i hi => by
    rw [List.getElem?_append_right (by omega), List.getElem?_append_right (by rw [shOs_len]; omega), shOs_len]
    congr 1; omega
  have goth : ∀ (s' : List AObj), s'.length = n → ∀ i, (i < K ∨ K + n ≤ i) → (pre ++ (shOs K s' ++ post))[i]? = (pre ++ (shOs K s ++ post))[i]? := fun s' e i hi => by
    rcases hi with hi | hi
    · rw [gpre _ _ hi, gpre _ _ hi]
    · rw [gpost _ e _ hi, gpost _ hn _ hi]
  generalize hbig : pre ++ (shOs K s ++ post) = big at *
  have hmid : ∀ (i : Nat) (o : AObj), s[i]? = some o → big[K + i]? = some (shO K o) := fun i o hi => by
    rw [← hbig, gmid s hn i (by rw [← hn]; exact (List.getElem?_eq_some_iff.1 hi).1)]
    exact shOs_of hi
  let OO : Nat → Prop := fun b => ∃ i o, (i < K ∨ K + n ≤ i) ∧ big[i]? = some o ∧ o.mu = true ∧ gb (g i) = some b
  have hlive : ∀ {o : AObj}, o.mu = true → o.live = true := fun {o} h => by cases o <;> simp_all [AObj.mu, AObj.live]
  have hOO : ∀ b, OO b → Own big g b := fun b ⟨i, o, _, h1, h2, h3⟩ => ⟨i, o, h1, h2, h3⟩
  have hgood : ∀ b, Good G big g b → Good (fun b => G b ∧ ¬ OO b) s (fun i => g (K + i)) b := fun b ⟨h1, h2⟩ => ⟨⟨h1, fun h3 => h2 (hOO b h3)⟩, fun ⟨i, o, hi, hm, hg⟩ => h2 ⟨K + i, shO K o, hmid i o hi, by rw [shO_mu]; exact hm, hg⟩⟩
  have hnotOO : ∀ (i : Nat) (o : AObj) (b : Nat), s[i]? = some o → o.live = true → gb (g (K + i)) = some b → ¬ OO b := fun i o b hi hl hb ⟨j, o', hj, h1, h2, h3⟩ => by
    have hin : i < n := by rw [← hn]; exact (List.getElem?_eq_some_iff.1 hi).1
    have := hr.inj (K + i) j _ _ b (hmid i o hi) h1 (by rw [shO_live]; exact hl) (hlive h2) hb h3
    omega
  have hsr : SR (fun b => G b ∧ ¬ OO b) s (fun i => g (K + i)) w := by
    refine ⟨fun i o hi => ?_, fun i j o o' b hi hj l1 l2 b1 b2 => ?_, fun b hb => ⟨hr.new b hb, fun h3 => ?_⟩⟩
    · have hpo : plainO o = true := List.all_eq_true.1 hp o (List.mem_of_getElem? hi)
      have hco : closedO s.length o = true := by rw [hn]; exact List.all_eq_true.1 hc o (List.mem_of_getElem? hi)
      by_cases hl : o.live = true
      · exact (hr.obj (K + i) _ (hmid i o hi)).down hgood hmid (fun _ => rfl) (plain_noLp hpo) hco fun b hb hG => ⟨hG, hnotOO i o b hi hl hb⟩
      · cases o <;> simp_all [AObj.live]
        trivial
    · have := hr.inj (K + i) (K + j) _ _ b (hmid i o hi) (hmid j o' hj) (by rw [shO_live]; exact l1) (by rw [shO_live]; exact l2) b1 b2
      omega
    · have := Own.lt hr (hOO b h3)
      omega
  refine (h.2 _ _ w vals (by rw [hsz, shVs_len]) hsr fun k x hk => ?_).mono ?_
  · exact (hv k _ (shVs_of hk)).down hgood hmid (fun _ => rfl) x rfl (by rw [hn]; exact closedBs_get hx k x hk)
  rintro e w' ⟨v, x, s', g2, rfl, hRx, hxv, hsr', hev⟩
  obtain ⟨hl', hp'⟩ := hR x s' hRx
  let g3 : Ghost := fun i => if K ≤ i ∧ i < K + n then g2 (i - K) else g i
  have g3m : ∀ i, i < n → g3 (K + i) = g2 i := fun i hi => by
    show (if K ≤ K + i ∧ K + i < K + n then g2 (K + i - K) else g (K + i)) = g2 i
    rw [if_pos (by omega)]; congr 1; omega
  have g3o : ∀ i, (i < K ∨ K + n ≤ i) → g3 i = g i := fun i hi => by
    show (if K ≤ i ∧ i < K + n then g2 (i - K) else g i) = g i
    rw [if_neg (by omega)]
  generalize hbig' : pre ++ (shOs K s' ++ post) = big'
  have hlb : big.length = K + n + post.length := by rw [← hbig]; exact hbl s hn
  have hlb' : big'.length = K + n + post.length := by rw [← hbig']; exact hbl s' hl'
  have oth' : ∀ i, (i < K ∨ K + n ≤ i) → big'[i]? = big[i]? := fun i hi => by rw [← hbig', goth s' hl' i hi, ← hbig]
  have mid' : ∀ (i : Nat) (o : AObj), i < n → big'[K + i]? = some o → ∃ o0, s'[i]? = some o0 ∧ o = shO K o0 := fun i o hi ho => by
    rw [← hbig', gmid s' hl' i hi] at ho
    exact shOs_get ho
  have cases' : ∀ i o, big'[i]? = some o → ((i < K ∨ K + n ≤ i) ∧ big[i]? = some o) ∨ ∃ j o0, i = K + j ∧ j < n ∧ s'[j]? = some o0 ∧ o = shO K o0 := fun i o hi => by
    by_cases ho : i < K ∨ K + n ≤ i
    · exact .inl ⟨ho, by rw [← oth' i ho]; exact hi⟩
    · obtain ⟨o0, h0, e0⟩ := mid' (i - K) o (by omega) (by rw [show K + (i - K) = i by omega]; exact hi)
      exact .inr ⟨i - K, o0, by omega, by omega, h0, e0⟩
  have hown' : ∀ b, Own big' g3 b → OO b ∨ Own s' g2 b := fun b ⟨i, o, hi, hm, hg⟩ => by
    rcases cases' i o hi with ⟨ho, h0⟩ | ⟨j, o0, rfl, hj, h0, rfl⟩
    · exact .inl ⟨i, o, ho, h0, hm, by rw [← g3o i ho]; exact hg⟩
    · exact .inr ⟨j, o0, h0, by rw [← shO_mu K]; exact hm, by rw [← g3m j hj]; exact hg⟩
  have hown0 : ∀ b, Own s (fun i => g (K + i)) b → Own big g b := fun b ⟨i, o, hi, hm, hg⟩ => ⟨K + i, _, hmid i o hi, by rw [shO_mu]; exact hm, hg⟩
  have hEvo : Evo big g w big' g3 w' := by
    refine ⟨hev.os, hev.tape, hev.output, hev.size, fun b hb hno => hev.heap b hb fun h => hno (hown0 b h), fun b hb ho => ?_, by omega, fun i m t cs hi ho => ?_, fun i m ver e sz ys hi ho => ?_, fun i c hi ho => ?_⟩
    · rcases hown' b ho with h3 | h3
      · exact hOO b h3
      · exact hown0 b (hev.own b hb h3)
    · rcases cases' i _ ho with ⟨h1, h0⟩ | ⟨j, o0, rfl, hj, h0, e0⟩
      · exact ⟨⟨m, cs, h0⟩, g3o i h1⟩
      · cases o0 <;> simp [shO] at e0
        obtain ⟨rfl, rfl, rfl⟩ := e0
        obtain ⟨⟨m0, c0, h1⟩, h2⟩ := hev.var j _ _ _ (by omega) h0
        exact ⟨⟨m0, _, hmid j _ h1⟩, by rw [g3m j hj]; exact h2⟩
    · rcases cases' i _ ho with ⟨h1, h0⟩ | ⟨j, o0, rfl, hj, h0, e0⟩
      · exact ⟨m, ver, ys, h0, Nat.le_refl _, fun _ => g3o i h1⟩
      · cases o0 <;> simp [shO] at e0
        obtain ⟨rfl, rfl, rfl, rfl, rfl⟩ := e0
        obtain ⟨m0, v0, x0, h1, h2, h3⟩ := hev.row j _ _ _ _ _ (by omega) h0
        exact ⟨m0, v0, x0, hmid j _ h1, h2, fun e => by rw [g3m j hj]; exact h3 e⟩
    · rcases cases' i _ ho with ⟨h1, h0⟩ | ⟨j, o0, rfl, hj, h0, e0⟩
      · exact ⟨⟨c, h0⟩, g3o i h1⟩
      · have := List.all_eq_true.1 hp' o0 (List.mem_of_getElem? h0)
        cases o0 <;> simp [shO] at e0
        simp [plainO] at this
  have hgood' : ∀ b, Good (fun b => G b ∧ ¬ OO b) s' g2 b → Good G big' g3 b := fun b ⟨⟨h1, h2⟩, h3⟩ => ⟨h1, fun h4 => (hown' b h4).elim h2 h3⟩
  have oldOO : ∀ i o b, (i < K ∨ K + n ≤ i) → big[i]? = some o → o.live = true → gb (g i) = some b → b < w.heap.size ∧ ¬ Own s (fun i => g (K + i)) b := fun i o b ho hi hl hb => by
    refine ⟨(hr.obj i o hi).lt hl hb, fun ⟨j, o', hj, hm, hg⟩ => ?_⟩
    have hjn : j < n := by rw [← hn]; exact (List.getElem?_eq_some_iff.1 hj).1
    have := hr.inj i (K + j) _ _ b hi (hmid j o' hj) hl (by rw [shO_live]; exact hlive hm) hb hg
    omega
  refine ⟨v, _, big', g3, rfl, ⟨x, s', hRx, rfl, hbig'.symm⟩, hxv.up hgood' (by omega) (fun i o hi => mid' i o (by omega)) (fun i hi => g3m i (by omega)), ⟨fun i o hi => ?_, fun i j o o' b hi hj l1 l2 b1 b2 => ?_, fun b hb => hr.new b (Nat.le_trans hev.size hb)⟩, hEvo⟩
  · rcases cases' i o hi with ⟨ho, h0⟩ | ⟨j, o0, rfl, hj, h0, rfl⟩
    · by_cases hl : o.live = true
      · exact (hr.obj i o h0).evo hEvo (g3o i ho) fun b hb => by
          obtain ⟨h1, h2⟩ := oldOO i o b ho h0 hl hb
          exact hev.heap b h1 h2
      · cases o <;> simp_all [AObj.live]
        trivial
    · exact (hsr'.obj j o0 h0).up hgood' (by omega) (fun i o hi => mid' i o (by omega)) (fun i hi => g3m i (by omega)) (by omega) (plain_noLp (List.all_eq_true.1 hp' o0 (List.mem_of_getElem? h0))) fun b hb => hb.1
  · have cross : ∀ i j o o0, (i < K ∨ K + n ≤ i) → big[i]? = some o → o.live = true → gb (g i) = some b → j < n → s'[j]? = some o0 → o0.live = true → gb (g2 j) = some b → False := fun i j o o0 ho hi hl hb hj h0 hl0 hb0 => by
      obtain ⟨h1, h2⟩ := oldOO i o b ho hi hl hb
      have hm := plain_mu (List.all_eq_true.1 hp' o0 (List.mem_of_getElem? h0)) hl0
      exact h2 (hev.own b h1 ⟨j, o0, h0, hm, hb0⟩)
    rcases cases' i o hi with ⟨ho, h0⟩ | ⟨p, o0, rfl, hp0, h0, rfl⟩ <;> rcases cases' j o' hj with ⟨ho', h0'⟩ | ⟨q, o0', rfl, hq0, h0', rfl⟩
    · rw [g3o i ho] at b1
      rw [g3o j ho'] at b2
      exact hr.inj i j o o' b h0 h0' l1 l2 b1 b2
    · rw [g3o i ho] at b1
      rw [g3m q hq0] at b2
      rw [shO_live] at l2
      exact (cross i q o o0' ho h0 l1 b1 hq0 h0' l2 b2).elim
    · rw [g3m p hp0] at b1
      rw [g3o j ho'] at b2
      rw [shO_live] at l1
      exact (cross j p o' o0 ho' h0' l2 b2 hp0 h0 l1 b1).elim
    · rw [g3m p hp0] at b1
      rw [g3m q hq0] at b2
      rw [shO_live] at l1 l2
      have := hsr'.inj p q o0 o0' b h0 h0' l1 l2 b1 b2
      omega
end Go.Proofs.YtklecijcpkolfaaDoor.Aw

/- The abstract walk, part 36: calls by the frame rule. -/
set_option linter.unusedVariables false
set_option linter.unusedSimpArgs false
namespace Go.Proofs.YtklecijcpkolfaaDoor.Aw
open Go Go.RowKit
section fc
variable {r : Option Nat} {P : Program} {ops : Array Oper} {i : Nat} {s0 : St}
/-- A call whose contract speaks of the n objects from K on. -/
theorem AOL.fcall {rest : List Nat} {Q : St → Prop} {x : Operand} {args : Array Operand} {ts : Array TypeId} {f : FuncId} {first cap : List AV} {xs : List AV} {s : List AObj} {R : AV → List AObj → Prop} (K : Nat) (hc : ACalls P f xs s R) (h : opAt ops i s0 = some (.call { callee := .value x, args := args, argTypes := ts })) (hf : s0.ev x = .fn (.func f) first cap)
    (e0 : (s0.st.take K).length = K) (e1 : first ++ args.toList.map s0.ev ++ cap = shVs K xs) (e2 : s0.st = s0.st.take K ++ (shOs K s ++ s0.st.drop (K + s.length))) (hp : s.all plainO = true) (hcl : s.all (closedO s.length) = true) (hx : closedBs s.length xs = true)
    (hR : ∀ x s', R x s' → s'.length = s.length ∧ s'.all plainO = true) (k : ∀ x s', R x s' → AOL r P ops rest (putS s0 (dstOf ops i) (shV K x) (s0.st.take K ++ (shOs K s' ++ s0.st.drop (K + s.length)))) Q) : AOL r P ops (i :: rest) s0 Q := by
  have hfr := hc.frame (s0.st.take K) (s0.st.drop (K + s.length)) hp hcl hx hR
  rw [e0, ← e2, ← e1] at hfr
  refine AOL.scall h hf hfr ?_
  rintro y st' ⟨x, s', h1, rfl, rfl⟩
  exact k x s' h1
theorem One.scall {x : Operand} {args : Array Operand} {ts : Array TypeId} {f : FuncId} {first cap : List AV} {y : AV} (h : opAt ops i s0 = some (.call { callee := .value x, args := args, argTypes := ts })) (hf : s0.ev x = .fn (.func f) first cap)
    (hc : ACalls P f (first ++ args.toList.map s0.ev ++ cap) s0.st (fun x st' => x = y ∧ st' = s0.st)) : One r P ops i s0 y s0.st := fun rest Q k => by
  refine AOL.scall h hf hc ?_
  rintro x st' ⟨rfl, rfl⟩
  exact k
/-- .. that reads alone. -/
theorem One.fcall {x : Operand} {args : Array Operand} {ts : Array TypeId} {f : FuncId} {first cap : List AV} {xs : List AV} {s : List AObj} {y : AV} (K : Nat) (hc : ACalls P f xs s (fun x s' => x = y ∧ s' = s)) (h : opAt ops i s0 = some (.call { callee := .value x, args := args, argTypes := ts })) (hf : s0.ev x = .fn (.func f) first cap)
    (e0 : (s0.st.take K).length = K) (e1 : first ++ args.toList.map s0.ev ++ cap = shVs K xs) (e2 : s0.st = s0.st.take K ++ (shOs K s ++ s0.st.drop (K + s.length))) (hp : s.all plainO = true) (hcl : s.all (closedO s.length) = true) (hx : closedBs s.length xs = true) : One r P ops i s0 (shV K y) s0.st := by
  have hfr := hc.frame (s0.st.take K) (s0.st.drop (K + s.length)) hp hcl hx (by rintro x s' ⟨rfl, rfl⟩; exact ⟨rfl, hp⟩)
  rw [e0, ← e2, ← e1] at hfr
  refine One.scall h hf (hfr.mono ?_)
  rintro z st' ⟨x, s', ⟨rfl, rfl⟩, rfl, rfl⟩
  exact ⟨rfl, e2.symm⟩
end fc
end Go.Proofs.YtklecijcpkolfaaDoor.Aw

/- The abstract walk, part 37: what comes next in a region, told by one computation. -/
set_option linter.unusedVariables false
set_option linter.unusedSimpArgs false
namespace Go.Proofs.YtklecijcpkolfaaDoor.Aw
open Go Go.RowKit
inductive Ev where
  | done
  | guard (j : Nat) (b : Bool)
  | call (f : FuncId) (p : List PV)
  | callO (own : Bool) (f : FuncId) (p : List PV) (c : List (Nat × Nat))
  | callS (f : FuncId) (xs : List AV)
  | one (k : Nat)
  | stop
  | stuck
/-- Is the guard known: it stands on the list of those that were looked at, or its slot was skipped? -/
def hint (ops : Array Oper) (G : List Nat) (s : St) (o : Oper) : Bool := match o.guard with
  | none => true
  | some (j, _) => match G.any (Nat.beq j) with
    | true => true
    | false => match ops[j]? with
      | some p => match p.dst with
        | some d => match s.get d with
          | .tup _ => true
          | _ => false
        | none => false
      | none => false
def stops (D : List Nat) (o : Oper) : Bool := match o.dst with
  | some d => D.any (Nat.beq d)
  | none => false
def advH (A : Ar) (tab : List TI) (ops : Array Oper) (D G : List Nat) : List Nat → St → List Nat × St
  | [], s => ([], s)
  | i :: rest, s => match ops[i]? with
    | some o => match hint ops G s o && !stops D o with
      | true => match gd ops s o.guard with
        | some true => match ev1 A tab s o.op with
          | some (x, st') => match dstOk s o.dst with
            | true => advH A tab ops D G rest (putS s o.dst x st')
            | false => (i :: rest, s)
          | none => (i :: rest, s)
        | some false => match dstOk s o.dst with
          | true => advH A tab ops D G rest (putS s o.dst (.tup []) s.st)
          | false => (i :: rest, s)
        | none => (i :: rest, s)
      | false => (i :: rest, s)
    | none => (i :: rest, s)
def bopK : BinOp → Nat
  | .quo => 3
  | .rem => 4
  | .shr => 5
  | .shl => 20
  | .add => 7
  | .eql => 8
  | .neq => 9
  | .and => 6
  | .or => 6
  | .xor => 6
  | _ => 21
def bltK : Builtin → Nat
  | .len => 10
  | .append => 11
  | .copy => 12
  | _ => 22
def opEv (s : St) : Op → Ev
  | .call c => match c.callee with
    | .value x => match s.ev x with
      | .fn (.func f) first cap => match toPVsO false s.st (first ++ c.args.toList.map s.ev ++ cap) with
        | some (p, []) => .call f p
        | some (p, q) => .callO false f p q
        | none => match toPVsO true s.st (first ++ c.args.toList.map s.ev ++ cap) with
          | some (p, q) => .callO true f p q
          | none => .callS f (first ++ c.args.toList.map s.ev ++ cap)
      | _ => .stuck
    | .builtin b => .one (bltK b)
    | _ => .stuck
  | .indexAddr _ _ _ => .one 1
  | .slice _ _ _ _ _ => .one 2
  | .binOp op _ _ _ _ => .one (bopK op)
  | .index _ _ _ => .one 13
  | .load _ _ => .one 14
  | .store _ _ _ => .one 15
  | .makeSlice _ _ _ => .one 16
  | .buildSlice _ _ _ => .one 17
  | .fieldAddr _ _ _ => .one 18
  | .lookup _ _ _ _ => .one 23
  | .convert _ _ _ => .one 24
  | .nilCheck _ => .one 25
  | .makeMap _ _ => .one 26
  | .mapUpdate _ _ _ _ => .one 27
  | .insert _ _ _ _ => .one 28
  | .field _ _ _ => .one 29
  | .unOp _ _ _ => .one 30
  | _ => .stuck
/-- What comes next, at state t (of which the operation is told), behind state s. -/
def evOf (D G : List Nat) (ops : Array Oper) (l : List Nat) (s : St) : Ev := match l with
  | [] => .done
  | i :: _ => match ops[i]? with
    | none => .stuck
    | some o => match hint ops G s o with
      | false => match gdv ops s i with
        | some b => match o.guard with
          | some (j, _) => .guard j b
          | none => .stuck
        | none => .stuck
      | true => match stops D o with
        | true => .stop
        | false => match opAt ops i s with
          | some op => opEv s op
          | none => .stuck
def nxt (A : Ar) (tab : List TI) (ops : Array Oper) (D G : List Nat) (l : List Nat) (s : St) : List Nat × St × Ev := match advH A tab ops D G l s with
  | (l', s') => (l', s', evOf D G ops l' s')
def AOLg (D G : List Nat) (r : Option Nat) (P : Program) (ops : Array Oper) (l : List Nat) (s : St) (Q : St → Prop) : Prop := AOL r P ops l s Q
def NX (D G : List Nat) (r : Option Nat) (P : Program) (ops : Array Oper) (l : List Nat) (s : St) (Q : St → Prop) (ev : Ev) : Prop := evOf D G ops l s = ev → AOL r P ops l s Q
section nx
variable {r : Option Nat} {P : Program} {A : Ar} {tab : List TI} {ops : Array Oper} {D G : List Nat} {Q : St → Prop}
theorem AOL.advH (hA : A = real) (hT : TabOk P tab) : ∀ (l : List Nat) (s : St), AOL r P ops (Aw.advH A tab ops D G l s).1 (Aw.advH A tab ops D G l s).2 Q → AOL r P ops l s Q
  | [], s, h => h
  | i :: rest, s, h => by
    simp only [Aw.advH] at h
    cases ho : ops[i]? with
    | none => simp only [ho] at h; exact h
    | some o =>
      simp only [ho] at h
      cases hh : (hint ops G s o && !stops D o) with
      | false => simp only [hh] at h; exact h
      | true =>
        simp only [hh] at h
        cases hg : gd ops s o.guard with
        | none => simp only [hg] at h; exact h
        | some b =>
          cases b with
          | true =>
            simp only [hg] at h
            cases he : ev1 A tab s o.op with
            | none => simp only [he] at h; exact h
            | some p =>
              obtain ⟨x, st'⟩ := p
              simp only [he] at h
              cases hd : dstOk s o.dst with
              | false => simp only [hd] at h; exact h
              | true =>
                simp only [hd] at h
                exact AOL.step ho hg hd (ev1_nd he) (ev1_mem hA hT he) (AOL.advH hA hT rest _ h)
          | false =>
            simp only [hg] at h
            cases hd : dstOk s o.dst with
            | false => simp only [hd] at h; exact h
            | true =>
              simp only [hd] at h
              exact AOL.skip ho hg hd (AOL.advH hA hT rest _ h)
theorem AOLg.nx (hA : A = real) (hT : TabOk P tab) {l l' : List Nat} {s s' : St} {ev : Ev} (h : nxt A tab ops D G l s = (l', s', ev)) (k : NX D G r P ops l' s' Q ev) : AOLg D G r P ops l s Q := by
  simp only [nxt, Prod.mk.injEq] at h
  obtain ⟨h1, h2, h3⟩ := h
  refine AOL.advH hA hT (D := D) (G := G) l s ?_
  rw [h1, h2]
  rw [h1, h2] at h3
  exact k h3
theorem AOLg.of (D : List Nat) {l : List Nat} {s : St} (k : AOLg D [] r P ops l s Q) : AOL r P ops l s Q := k
theorem AOLg.pass {l : List Nat} {s : St} (k : AOLg D G r P ops l s Q) : AOLg D G r P ops l s Q := k
theorem NX.done {s : St} (h : Q s) : NX D G r P ops [] s Q .done := fun _ => AOL.nil h
theorem NX.gt {j : Nat} {l : List Nat} {s : St} (k : AOLg D (j :: G) r P ops l s Q) : NX D G r P ops l s Q (.guard j true) := fun _ => k
theorem NX.gf {j : Nat} {l : List Nat} {s : St} (k : AOLg D (j :: G) r P ops l s Q) : NX D G r P ops l s Q (.guard j false) := fun _ => k
theorem NX.gs {j : Nat} {b : Bool} {l : List Nat} {s : St} (h1 : b = true → AOLg D (j :: G) r P ops l s Q) (h2 : b = false → AOLg D (j :: G) r P ops l s Q) : NX D G r P ops l s Q (.guard j b) := fun _ => by
  cases b with
  | true => exact h1 rfl
  | false => exact h2 rfl
theorem opEv_call {s : St} {op : Op} {f : FuncId} {p : List PV} (h : opEv s op = .call f p) : ∃ x args ts first cap, op = .call { callee := .value x, args := args, argTypes := ts } ∧ s.ev x = .fn (.func f) first cap ∧ toPVs false s.st (first ++ args.toList.map s.ev ++ cap) = some p := by
  unfold opEv at h
  split at h <;> try (simp at h; done)
  rename_i c
  split at h <;> try (simp at h; done)
  rename_i x hx
  split at h <;> try (simp at h; done)
  rename_i f' first cap hf
  split at h
  · rename_i p' hp
    simp only [Ev.call.injEq] at h
    obtain ⟨rfl, rfl⟩ := h
    exact ⟨x, c.args, c.argTypes, first, cap, by cases c; simp_all, hf, toPVsO_ok hp trivial⟩
  · simp at h
  · split at h <;> simp at h
theorem opEv_callO {s : St} {op : Op} {own : Bool} {f : FuncId} {p : List PV} {q : List (Nat × Nat)} (h : opEv s op = .callO own f p q) : ∃ x args ts first cap, op = .call { callee := .value x, args := args, argTypes := ts } ∧ s.ev x = .fn (.func f) first cap ∧ toPVsO own s.st (first ++ args.toList.map s.ev ++ cap) = some (p, q) := by
  unfold opEv at h
  split at h <;> try (simp at h; done)
  rename_i c
  split at h <;> try (simp at h; done)
  rename_i x hx
  split at h <;> try (simp at h; done)
  rename_i f' first cap hf
  split at h
  · simp at h
  · rename_i p' q' hp
    simp only [Ev.callO.injEq] at h
    obtain ⟨rfl, rfl, rfl, rfl⟩ := h
    exact ⟨x, c.args, c.argTypes, first, cap, by cases c; simp_all, hf, hp⟩
  · split at h
    · rename_i p' q' hp
      simp only [Ev.callO.injEq] at h
      obtain ⟨rfl, rfl, rfl, rfl⟩ := h
      exact ⟨x, c.args, c.argTypes, first, cap, by cases c; simp_all, hf, hp⟩
    · simp at h
theorem opEv_callS {s : St} {op : Op} {f : FuncId} {xs : List AV} (h : opEv s op = .callS f xs) : ∃ x args ts first cap, op = .call { callee := .value x, args := args, argTypes := ts } ∧ s.ev x = .fn (.func f) first cap ∧ first ++ args.toList.map s.ev ++ cap = xs := by
  unfold opEv at h
  split at h <;> try (simp at h; done)
  rename_i c
  split at h <;> try (simp at h; done)
  rename_i x hx
  split at h <;> try (simp at h; done)
  rename_i f' first cap hf
  split at h
  · simp at h
  · simp at h
  · split at h
    · simp at h
    · simp only [Ev.callS.injEq] at h
      obtain ⟨rfl, rfl⟩ := h
      exact ⟨x, c.args, c.argTypes, first, cap, by cases c; simp_all, hf, rfl⟩
theorem evOf_op {l : List Nat} {i : Nat} {s : St} {ev : Ev} (h : evOf D G ops (i :: l) s = ev) (h1 : ∀ j b, ev ≠ .guard j b) (h2 : ev ≠ .stuck) (h3 : ev ≠ .stop) : ∃ op, opAt ops i s = some op ∧ opEv s op = ev := by
  unfold evOf at h
  simp only [] at h
  repeat' split at h
  all_goals first
    | (exfalso; exact h2 h.symm)
    | (exfalso; exact h3 h.symm)
    | (exfalso; exact h1 _ _ h.symm)
    | exact ⟨_, by assumption, h⟩
theorem NX.call {i : Nat} {rest : List Nat} {s : St} {f : FuncId} {p : List PV} {y : PV} (hc : PureCalls P f p y) (k : AOLg D G r P ops rest (putS s (dstOf ops i) y.av s.st) Q) : NX D G r P ops (i :: rest) s Q (.call f p) := fun h => by
  obtain ⟨op, h1, h2⟩ := evOf_op h (by simp) (by simp) (by simp)
  obtain ⟨x, args, ts, first, cap, rfl, h3, h4⟩ := opEv_call h2
  exact One.call false h1 h3 h4 hc rfl _ _ k
theorem NX.callO {i : Nat} {rest : List Nat} {s : St} {own : Bool} {f : FuncId} {p : List PV} {q : List (Nat × Nat)} {y : PV} (hc : PureCalls P f p y) (hq : allEq q) (hn : (!own || noSl y) = true) (k : AOLg D G r P ops rest (putS s (dstOf ops i) y.av s.st) Q) : NX D G r P ops (i :: rest) s Q (.callO own f p q) := fun h => by
  obtain ⟨op, h1, h2⟩ := evOf_op h (by simp) (by simp) (by simp)
  obtain ⟨x, args, ts, first, cap, rfl, h3, h4⟩ := opEv_callO h2
  exact One.callO own h1 h3 h4 hc hn hq _ _ k
/-- A call in the store. -/
theorem NX.callS {i : Nat} {rest : List Nat} {s : St} {f : FuncId} {xs : List AV} {R : AV → List AObj → Prop} (hc : ACalls P f xs s.st R) (k : ∀ y st', R y st' → AOLg D G r P ops rest (putS s (dstOf ops i) y st') Q) : NX D G r P ops (i :: rest) s Q (.callS f xs) := fun h => by
  obtain ⟨op, h1, h2⟩ := evOf_op h (by simp) (by simp) (by simp)
  obtain ⟨x, args, ts, first, cap, rfl, h3, rfl⟩ := opEv_callS h2
  exact AOL.scall h1 h3 hc k
theorem NX.one {ev : Ev} {i : Nat} {rest : List Nat} {s : St} {x : AV} {st' : List AObj} (h : One r P ops i s x st') (k : AOLg D G r P ops rest (putS s (dstOf ops i) x st') Q) : NX D G r P ops (i :: rest) s Q ev := fun _ => h rest Q k
theorem NX.raw {ev : Ev} {l : List Nat} {s : St} (h : AOL r P ops l s Q) : NX D G r P ops l s Q ev := fun _ => h
/-- The event's number, told. -/
theorem NX.k (n : Nat) {l : List Nat} {s : St} (h : NX D G r P ops l s Q (.one n)) : NX D G r P ops l s Q (.one n) := h
theorem NX.kC {f : FuncId} {p : List PV} {l : List Nat} {s : St} (h : NX D G r P ops l s Q (.call f p)) : NX D G r P ops l s Q (.call f p) := h
theorem NX.kO {own : Bool} {f : FuncId} {p : List PV} {q : List (Nat × Nat)} {l : List Nat} {s : St} (h : NX D G r P ops l s Q (.callO own f p q)) : NX D G r P ops l s Q (.callO own f p q) := h
theorem AWp.regG (D : List Nat) {id : Nat} {s : St} {Q : Exit → St → Prop} {l : List Nat} (hl : List.range ops.size = l) (h : AOLg D [] r P ops l s (Q .normal)) : AWp r P (.region id ops false) s Q := by
  subst hl
  exact AWp.region h
end nx
section qnx
variable {P : Program} {A : Ar} {tab : List TI} {ops : Array Oper} {D G : List Nat} {Q : St → Prop}
def qadvH (A : Ar) (tab : List TI) (ops : Array Oper) (D G : List Nat) : List Nat → St → List Nat × St
  | [], s => ([], s)
  | i :: rest, s => match ops[i]? with
    | some o => match hint ops G (lookS ops i s) o && !stops D o with
      | true => match o.dst with
        | some d => match gd ops (lookS ops i s) o.guard with
          | some true => match ev1 A tab (lookS ops i s) o.op with
            | some (x, _) => match stillOp o.op && dstOk (lookS ops i s) o.dst with
              | true => qadvH A tab ops D G rest ⟨s.nt, (d, x) :: s.env, s.st⟩
              | false => (i :: rest, s)
            | none => (i :: rest, s)
          | some false => match dstOk (lookS ops i s) o.dst with
            | true => qadvH A tab ops D G rest ⟨s.nt, (d, .tup []) :: s.env, s.st⟩
            | false => (i :: rest, s)
          | none => (i :: rest, s)
        | none => (i :: rest, s)
      | false => (i :: rest, s)
    | none => (i :: rest, s)
def qevOf (D G : List Nat) (ops : Array Oper) (l : List Nat) (s : St) : Ev := match l with
  | [] => .done
  | i :: _ => evOf D G ops l (lookS ops i s)
def qnxt (A : Ar) (tab : List TI) (ops : Array Oper) (D G : List Nat) (l : List Nat) (s : St) : List Nat × St × Ev := match qadvH A tab ops D G l s with
  | (l', s') => (l', s', qevOf D G ops l' s')
def QSg (D G : List Nat) (P : Program) (ops : Array Oper) (l : List Nat) (s : St) (Q : St → Prop) : Prop := QS P ops l s Q
def QX (D G : List Nat) (P : Program) (ops : Array Oper) (l : List Nat) (s : St) (Q : St → Prop) (ev : Ev) : Prop := qevOf D G ops l s = ev → QS P ops l s Q
theorem QS.advH (hA : A = real) (hT : TabOk P tab) : ∀ (l : List Nat) (s : St), QS P ops (qadvH A tab ops D G l s).1 (qadvH A tab ops D G l s).2 Q → QS P ops l s Q
  | [], s, h => h
  | i :: rest, s, h => by
    simp only [qadvH] at h
    cases ho : ops[i]? with
    | none => simp only [ho] at h; exact h
    | some o =>
      simp only [ho] at h
      cases hh : (hint ops G (lookS ops i s) o && !stops D o) with
      | false => simp only [hh] at h; exact h
      | true =>
        simp only [hh] at h
        cases hd : o.dst with
        | none => simp only [hd] at h; exact h
        | some d =>
          simp only [hd] at h
          have hdo : dstOf ops i = some d := by simp [dstOf, ho, hd]
          cases hg : gd ops (lookS ops i s) o.guard with
          | none => simp only [hg] at h; exact h
          | some b =>
            cases b with
            | true =>
              simp only [hg] at h
              cases he : ev1 A tab (lookS ops i s) o.op with
              | none => simp only [he] at h; exact h
              | some p =>
                obtain ⟨x, st'⟩ := p
                simp only [he] at h
                cases hc : (stillOp o.op && dstOk (lookS ops i s) (some d)) with
                | false => simp only [hc] at h; exact h
                | true =>
                  simp only [hc] at h
                  simp only [Bool.and_eq_true] at hc
                  have hst := ev1_still he hc.1
                  rw [lookS_st] at hst
                  subst hst
                  refine ⟨d, x, hdo, fun rest' Q' k => ?_, QS.advH hA hT rest _ h⟩
                  refine AOL.step ho hg (by rw [hd]; exact hc.2) (ev1_nd he) (ev1_mem hA hT he) ?_
                  rw [hdo, ← hd] at k
                  exact k
            | false =>
              simp only [hg] at h
              cases hc : dstOk (lookS ops i s) (some d) with
              | false => simp only [hc] at h; exact h
              | true =>
                simp only [hc] at h
                refine ⟨d, .tup [], hdo, fun rest' Q' k => ?_, QS.advH hA hT rest _ h⟩
                refine AOL.skip ho hg (by rw [hd]; exact hc) ?_
                rw [hdo, ← lookS_st ops i s, ← hd] at k
                exact k
theorem QSg.nx (hA : A = real) (hT : TabOk P tab) {l l' : List Nat} {s s' : St} {ev : Ev} (h : qnxt A tab ops D G l s = (l', s', ev)) (k : QX D G P ops l' s' Q ev) : QSg D G P ops l s Q := by
  simp only [qnxt, Prod.mk.injEq] at h
  obtain ⟨h1, h2, h3⟩ := h
  refine QS.advH hA hT (D := D) (G := G) l s ?_
  rw [h1, h2]
  rw [h1, h2] at h3
  exact k h3
theorem QSg.of (D : List Nat) {l : List Nat} {s : St} (k : QSg D [] P ops l s Q) : QS P ops l s Q := k
theorem QSg.pass {l : List Nat} {s : St} (k : QSg D G P ops l s Q) : QSg D G P ops l s Q := k
theorem QX.done {s : St} (h : Q s) : QX D G P ops [] s Q .done := fun _ => h
theorem QX.gt {j : Nat} {l : List Nat} {s : St} (k : QSg D (j :: G) P ops l s Q) : QX D G P ops l s Q (.guard j true) := fun _ => k
theorem QX.gf {j : Nat} {l : List Nat} {s : St} (k : QSg D (j :: G) P ops l s Q) : QX D G P ops l s Q (.guard j false) := fun _ => k
theorem QX.gs {j : Nat} {b : Bool} {l : List Nat} {s : St} (h1 : b = true → QSg D (j :: G) P ops l s Q) (h2 : b = false → QSg D (j :: G) P ops l s Q) : QX D G P ops l s Q (.guard j b) := fun _ => by
  cases b with
  | true => exact h1 rfl
  | false => exact h2 rfl
theorem QX.one {ev : Ev} {i : Nat} {rest : List Nat} {s : St} {d : Nat} {x : AV} (hd : dstOf ops i = some d) (h : One none P ops i (lookS ops i s) x s.st) (k : QSg D G P ops rest ⟨s.nt, (d, x) :: s.env, s.st⟩ Q) : QX D G P ops (i :: rest) s Q ev := fun _ => ⟨d, x, hd, h, k⟩
theorem QX.call {i : Nat} {rest : List Nat} {s : St} {d : Nat} {f : FuncId} {p : List PV} {y : PV} (hc : PureCalls P f p y) (hd : dstOf ops i = some d) (k : QSg D G P ops rest ⟨s.nt, (d, y.av) :: s.env, s.st⟩ Q) : QX D G P ops (i :: rest) s Q (.call f p) := fun h => by
  obtain ⟨op, h1, h2⟩ := evOf_op (l := rest) (i := i) h (by simp) (by simp) (by simp)
  obtain ⟨x, args, ts, first, cap, rfl, h3, h4⟩ := opEv_call h2
  have := One.call (r := none) false h1 h3 h4 hc rfl
  rw [lookS_st] at this
  exact ⟨d, _, hd, this, k⟩
theorem QX.callO {i : Nat} {rest : List Nat} {s : St} {d : Nat} {own : Bool} {f : FuncId} {p : List PV} {q : List (Nat × Nat)} {y : PV} (hc : PureCalls P f p y) (hd : dstOf ops i = some d) (hq : allEq q) (hn : (!own || noSl y) = true) (k : QSg D G P ops rest ⟨s.nt, (d, y.av) :: s.env, s.st⟩ Q) : QX D G P ops (i :: rest) s Q (.callO own f p q) := fun h => by
  obtain ⟨op, h1, h2⟩ := evOf_op (l := rest) (i := i) h (by simp) (by simp) (by simp)
  obtain ⟨x, args, ts, first, cap, rfl, h3, h4⟩ := opEv_callO h2
  have := One.callO (r := none) own h1 h3 h4 hc hn hq
  rw [lookS_st] at this
  exact ⟨d, _, hd, this, k⟩
theorem QX.raw {ev : Ev} {l : List Nat} {s : St} (h : QS P ops l s Q) : QX D G P ops l s Q ev := fun _ => h
theorem QX.k (n : Nat) {l : List Nat} {s : St} (h : QX D G P ops l s Q (.one n)) : QX D G P ops l s Q (.one n) := h
theorem QX.kC {f : FuncId} {p : List PV} {l : List Nat} {s : St} (h : QX D G P ops l s Q (.call f p)) : QX D G P ops l s Q (.call f p) := h
theorem QX.kO {own : Bool} {f : FuncId} {p : List PV} {q : List (Nat × Nat)} {l : List Nat} {s : St} (h : QX D G P ops l s Q (.callO own f p q)) : QX D G P ops l s Q (.callO own f p q) := h
end qnx
/-! ### contracts up to rows of nothing -/
theorem ILe.nilM {A : Ar} (hA : A = real) {α : Type} (f : α → List IC) (sz sz' : Nat) (ex : Bool) : ILe (.sl sz ex []) (.sl sz' false (A (.hid _) fun _ => List.map f [])) := by
  rw [rhid hA]
  exact .nil _ _ _
/-- A cast that the evaluator has opened, closed again. -/
theorem zn : ∀ n : Nat, @NatCast.natCast Int instNatCastInt n = cN n := fun _ => rfl
theorem zy : (∀ a b : Bool, ((a == b) = true) = ((a = true) ↔ (b = true))) ∧ (∀ a b : Bool, ((a == b) = false) = ¬ ((a = true) ↔ (b = true))) ∧ (∀ b : Bool, (b == true) = b) ∧ (∀ b : Bool, (b == false) = !b) :=
  ⟨by decide, by decide, by decide, by decide⟩
end Go.Proofs.YtklecijcpkolfaaDoor.Aw

/- The abstract walk, part 38: maps that are laid at once, with numbers as keys, and read from then on. -/
set_option linter.unusedVariables false
set_option linter.unusedSimpArgs false
namespace Go.Proofs.YtklecijcpkolfaaDoor.Aw
open Go Go.RowKit Go.MapKept
def mapKB (P : Program) (t : TypeId) (k : IntKind) : Bool := match P.underlying t with
  | some (.map kt _) => match P.underlying kt with
    | some (.int k') => decide (k' = k)
    | _ => false
  | _ => false
def mapF {β : Type} : List (Int × β) → Int → Option β
  | [], _ => none
  | (a, b) :: r, n => if n = a then some b else mapF r n
def zOf (P : Program) (t : TypeId) : Option Value := (P.info? t).bind (·.zero)
/-! ### the literal -/
def insOf (ops : Array Oper) (d : Nat) (s : St) (t : TypeId) (k : IntKind) (j : Nat) : Option (Int × Value) := match ops[j]? with
  | some o => match o.guard, o.dst, o.op with
    | none, none, .insert t' (.tmp m) x y => match Nat.beq t t' && Nat.beq m d with
      | true => match s.ev x, s.ev y with
        | .ic (.lit (.int k' a)), .ic (.lit b) => match decide (k' = k) with
          | true => some (a, b)
          | false => none
        | _, _ => none
      | false => none
    | _, _, _ => none
  | none => none
def insAll (ops : Array Oper) (d : Nat) (s : St) (t : TypeId) (k : IntKind) : List Nat → List Nat × List (Int × Value)
  | [] => ([], [])
  | j :: r => match insOf ops d s t k j with
    | some p => match insAll ops d s t k r with
      | (l, es) => (l, p :: es)
    | none => (j :: r, [])
def freshB : List (Int × Value) → Bool
  | [] => true
  | p :: r => r.all (fun q => !decide (p.1 = q.1)) && freshB r
/-- A map's literal: what is laid, and what is left to do. -/
def mlit (ops : Array Oper) (s : St) (k : IntKind) : List Nat → Option (Nat × TypeId × List Nat × List (Int × Value))
  | [] => none
  | i :: l => match ops[i]? with
    | some o => match o.guard, o.dst, o.op with
      | none, some d, .makeMap t none => match dstOk s (some d) with
        | true => match insAll ops d (putS s (some d) .any s.st) t k l with
          | (l', es) => match freshB es with
            | true => some (d, t, l', es)
            | false => none
        | false => none
      | _, _, _ => none
    | none => none
/-! ### reading -/
def mpI (k q : IntKind) : List (Value × Value) → Option (List (Int × Int))
  | [] => some []
  | (.int k' a, .int q' b) :: r => match decide (k' = k) && decide (q' = q) with
    | true => match mpI k q r with
      | some l => some ((a, b) :: l)
      | none => none
    | false => none
  | _ :: _ => none
def mapIB (P : Program) (t : TypeId) (k q : IntKind) : Bool := match P.underlying t with
  | some (.map kt et) => match P.underlying kt with
    | some (.int k') => decide (k' = k) && match zOf P et with
      | some (.int q' n) => decide (q' = q) && decide (n = 0)
      | _ => false
    | _ => false
  | _ => false
/-- A call, told by one computation. -/
def callAt (ops : Array Oper) (i : Nat) (s : St) : Option (FuncId × List PV) := match opAt ops i s with
  | some op => match opEv s op with
    | .call f p => some (f, p)
    | _ => none
  | none => none
theorem One.callF {r : Option Nat} {P : Program} {ops : Array Oper} {i : Nat} {s : St} {f : FuncId} {p : List PV} {y : PV} (h : callAt ops i s = some (f, p)) (hc : PureCalls P f p y) : One r P ops i s y.av s.st := by
  unfold callAt at h
  split at h
  · rename_i op ho
    split at h
    · rename_i f' p' he
      simp only [Option.some.injEq, Prod.mk.injEq] at h
      obtain ⟨rfl, rfl⟩ := h
      obtain ⟨x, args, ts, first, cap, rfl, h3, h4⟩ := opEv_call he
      exact One.call false ho h3 h4 hc rfl
    · simp at h
  · simp at h
end Go.Proofs.YtklecijcpkolfaaDoor.Aw

/- The abstract walk, part 39: regions that draw their order, where operations turn the store: walked once in the text's order, and what may come later told again. -/
set_option linter.unusedVariables false
set_option linter.unusedSimpArgs false
namespace Go.Proofs.YtklecijcpkolfaaDoor.Aw
open Go Go.RowKit
/-! ### what is ahead -/
inductive Ah (ops : Array Oper) : Nat → Nat → Prop where
  | on {i : Nat} {o : Oper} {e : Edge} (ho : ops[i]? = some o) (he : e ∈ o.after) (hb : bindsE e = true) : Ah ops i e.on
  | tr {i : Nat} {o : Oper} {e : Edge} {j : Nat} (ho : ops[i]? = some o) (he : e ∈ o.after) (hb : bindsE e = true) (h : Ah ops e.on j) : Ah ops i j
theorem Ah.listed {ops : Array Oper} {listed : Array Bool} (hc : Closed ops listed) {i j : Nat} (h : Ah ops i j) : (∀ o, ops[i]? = some o → ∀ e ∈ o.after, bindsE e = true → listed.getD e.on false = true) → listed.getD j false = true := by
  induction h with
  | on ho he hb => intro k; exact k _ ho _ he hb
  | tr ho he hb h ih => intro k; exact ih fun o' ho' e' he' hb' => hc _ o' (k _ ho _ he hb) ho' e' he' hb'
theorem Ah.of_listed {ops : Array Oper} {listed : Array Bool} (hc : Closed ops listed) {i j : Nat} (h : Ah ops i j) (hi : listed.getD i false = true) : listed.getD j false = true := h.listed hc fun o ho e he hb => hc i o hi ho e he hb
def maskOf (acc : List Nat) : List Edge → Nat
  | [] => 0
  | e :: r => match bindsE e with
    | true => (2 ^ e.on ||| acc.getD e.on 0) ||| maskOf acc r
    | false => maskOf acc r
def masks : List Oper → List Nat → List Nat
  | [], acc => acc
  | o :: r, acc => masks r (acc ++ [maskOf acc o.after.toList])
theorem maskOf_ok {acc : List Nat} {j : Nat} : ∀ {l : List Edge}, (maskOf acc l).testBit j = true → ∃ e ∈ l, bindsE e = true ∧ (e.on = j ∨ (acc.getD e.on 0).testBit j = true)
  | [], h => by simp [maskOf] at h
  | e :: r, h => by
    simp only [maskOf] at h
    split at h
    · rename_i hb
      simp only [Nat.testBit_or, Bool.or_eq_true] at h
      rcases h with (h | h) | h
      · refine ⟨e, List.mem_cons_self, hb, .inl ?_⟩
        rw [Nat.testBit_two_pow] at h
        simpa using h
      · exact ⟨e, List.mem_cons_self, hb, .inr h⟩
      · obtain ⟨e', h1, h2, h3⟩ := maskOf_ok h
        exact ⟨e', List.mem_cons_of_mem _ h1, h2, h3⟩
    · obtain ⟨e', h1, h2, h3⟩ := maskOf_ok h
      exact ⟨e', List.mem_cons_of_mem _ h1, h2, h3⟩
theorem masks_ok {ops : Array Oper} : ∀ (l : List Oper) (acc : List Nat), (∀ k o, l[k]? = some o → ops[acc.length + k]? = some o) → (∀ i j, (acc.getD i 0).testBit j = true → Ah ops i j) → ∀ i j, ((masks l acc).getD i 0).testBit j = true → Ah ops i j
  | [], acc, _, h => h
  | o :: r, acc, hl, h => by
    refine masks_ok r _ (fun k o' hk => ?_) fun i j hij => ?_
    · have := hl (k + 1) o' (by simpa using hk)
      rw [List.length_append, List.length_cons, List.length_nil]
      rw [← this]; congr 1; omega
    · rcases Nat.lt_trichotomy i acc.length with hi | hi | hi
      · rw [List.getD_eq_getElem?_getD, List.getElem?_append_left hi, ← List.getD_eq_getElem?_getD] at hij
        exact h i j hij
      · subst hi
        rw [List.getD_eq_getElem?_getD, List.getElem?_append_right (Nat.le_refl _)] at hij
        simp only [Nat.sub_self, List.getElem?_cons_zero, Option.getD_some] at hij
        obtain ⟨e, he, hb, hj⟩ := maskOf_ok hij
        have ho := hl 0 o rfl
        rw [Nat.add_zero] at ho
        rcases hj with hj | hj
        · subst hj; exact .on ho (by simpa using he) hb
        · exact .tr ho (by simpa using he) hb (h _ _ hj)
      · rw [List.getD_eq_getElem?_getD, List.getElem?_eq_none (by simp; omega)] at hij
        simp at hij
/-- Operations that turn the store. -/
def chOp : Op → Bool
  | .alloc _ => true
  | .box _ _ => true
  | .store _ _ _ => true
  | .makeSlice _ _ _ => true
  | _ => false
def chAt (ops : Array Oper) (i : Nat) : Bool := match ops[i]? with
  | some o => chOp o.op
  | none => false
/-- The numbers of those that turn the store. -/
def chs (ops : Array Oper) : List Nat := (List.range ops.size).filter (chAt ops)
def ahM (ms : List Nat) (i j : Nat) : Bool := (ms.getD i 0).testBit j
def drawVB (ops : Array Oper) : Bool :=
  let ms := masks ops.toList []
  let cs := chs ops
  ops.toList.all (fun o => notDefer o.op) &&
  (List.range ops.size).all (fun i => match ops[i]? with
    | some o => o.after.toList.all (fun e => !bindsE e || Nat.blt e.on i) &&
      (match o.dst with | some d => (List.range ops.size).all (fun j => Nat.beq i j || !(dstOf ops j == some d)) | none => chOp o.op) &&
      (o.looksAt ops).all (fun t => (List.range ops.size).all (fun j => !(dstOf ops j == some t) || (Nat.blt j i && ahM ms i j) || (Nat.blt i j && ahM ms j i)))
    | none => false) &&
  cs.all (fun c => cs.all (fun d => !Nat.blt d c || ahM ms c d))
/-! ### the walk in the text's order -/
structure TRec where
  i : Nat
  s : St
  x : AV
  st : List AObj
def TR (r : Option Nat) (P : Program) (ops : Array Oper) : List Nat → St → List TRec → (St → List TRec → Prop) → Prop
  | [], s, rc, Q => Q s rc
  | i :: rest, s, rc, Q => ∃ x st', One r P ops i (lookS ops i s) x st' ∧ TR r P ops rest (putS s (dstOf ops i) x st') (rc ++ [⟨i, s, x, st'⟩]) Q
/-- Stores, version by version. -/
def vers (ops : Array Oper) (s0 : List AObj) : List TRec → List (List AObj)
  | [] => [s0]
  | t :: r => match chAt ops t.i with
    | true => s0 :: vers ops t.st r
    | false => vers ops s0 r
/-- May operation i come when so many of those that turn the store have come? -/
def okV (ms cs : List Nat) (i m : Nat) : Bool := (List.range cs.length).all fun j => match cs[j]? with
  | some c => (!ahM ms i c || Nat.blt j m) && (!ahM ms c i || Nat.ble m j)
  | none => true
def later (ops : Array Oper) (ms cs : List Nat) (S : List (List AObj)) (t : TRec) (m : Nat) : List (Nat × St × AV) := match okV ms cs t.i m && !Nat.beq m (cs.filter (fun c => Nat.blt c t.i)).length with
  | true => match S[m]? with
    | some st => [(t.i, lookS ops t.i ⟨t.s.nt, t.s.env, st⟩, t.x)]
    | none => []
  | false => []
def obl (ops : Array Oper) (ms cs : List Nat) (S : List (List AObj)) : List TRec → List (Nat × St × AV)
  | [] => []
  | t :: r => match chAt ops t.i with
    | true => obl ops ms cs S r
    | false => (List.range (cs.length + 1)).flatMap (later ops ms cs S t) ++ obl ops ms cs S r
def AllO (r : Option Nat) (P : Program) (ops : Array Oper) : List (Nat × St × AV) → Prop
  | [] => True
  | p :: l => One r P ops p.1 p.2.1 p.2.2 p.2.1.st ∧ AllO r P ops l
def SameQ (ops : Array Oper) : List TRec → Prop
  | [] => True
  | t :: r => (match chAt ops t.i with | true => True | false => t.st = t.s.st) ∧ SameQ ops r
theorem AllO_mem {r : Option Nat} {P : Program} {ops : Array Oper} : ∀ {l : List (Nat × St × AV)}, AllO r P ops l → ∀ p ∈ l, One r P ops p.1 p.2.1 p.2.2 p.2.1.st
  | [], _, p, hp => by simp at hp
  | q :: l, h, p, hp => by
    rcases List.mem_cons.1 hp with rfl | hp
    · exact h.1
    · exact AllO_mem h.2 p hp
theorem SameQ_mem {ops : Array Oper} : ∀ {l : List TRec}, SameQ ops l → ∀ t ∈ l, chAt ops t.i = false → t.st = t.s.st
  | [], _, t, ht, _ => by simp at ht
  | q :: l, h, t, ht, hc => by
    rcases List.mem_cons.1 ht with rfl | ht
    · have := h.1; rw [hc] at this; exact this
    · exact SameQ_mem h.2 t ht hc
/-- What a walk in the text's order is, put together. -/
theorem TR.collect {r : Option Nat} {P : Program} {ops : Array Oper} {Q : St → List TRec → Prop} : ∀ (n k : Nat) (s : St) (rc : List TRec), TR r P ops ((List.range n).map (k + ·)) s rc Q →
    ∃ (se : Nat → St) (xs : Nat → AV), se k = s ∧ (∀ i, k ≤ i → i < k + n → One r P ops i (lookS ops i (se i)) (xs i) (se (i + 1)).st ∧ se (i + 1) = putS (se i) (dstOf ops i) (xs i) (se (i + 1)).st) ∧
      Q (se (k + n)) (rc ++ (List.range n).map fun j => ⟨k + j, se (k + j), xs (k + j), (se (k + j + 1)).st⟩)
  | 0, k, s, rc, h => ⟨fun _ => s, fun _ => .any, rfl, fun i h1 h2 => by omega, by simpa [TR] using h⟩
  | n + 1, k, s, rc, h => by
    rw [List.range_succ_eq_map, List.map_cons, List.map_map] at h
    simp only [TR, Nat.add_zero] at h
    obtain ⟨x, st', hone, hrest⟩ := h
    have e : (List.range n).map ((fun x => k + x) ∘ Nat.succ) = (List.range n).map (k + 1 + ·) := List.map_congr_left fun j _ => by simp; omega
    rw [e] at hrest
    obtain ⟨se, xs, h0, h1, h2⟩ := TR.collect n (k + 1) _ _ hrest
    have hst : (se (k + 1)).st = st' := by rw [h0, putS_st]
    refine ⟨fun i => if i = k then s else se i, fun i => if i = k then x else xs i, by simp, fun i hi1 hi2 => ?_, ?_⟩
    · by_cases hik : i = k
      · subst hik
        simp only [if_true, if_neg (show ¬ i + 1 = i by omega)]
        refine ⟨by rw [hst]; exact hone, by rw [hst]; exact h0⟩
      · simp only [if_neg hik, if_neg (show ¬ i + 1 = k by omega)]
        exact h1 i (by omega) (by omega)
    · simp only [if_neg (show ¬ k + (n + 1) = k by omega)]
      rw [show k + (n + 1) = k + 1 + n by omega]
      have : (List.range (n + 1)).map (fun j => (⟨k + j, if k + j = k then s else se (k + j), if k + j = k then x else xs (k + j), (if k + j + 1 = k then s else se (k + j + 1)).st⟩ : TRec)) =
          ⟨k, s, x, st'⟩ :: (List.range n).map fun j => ⟨k + 1 + j, se (k + 1 + j), xs (k + 1 + j), (se (k + 1 + j + 1)).st⟩ := by
        rw [List.range_succ_eq_map, List.map_cons, List.map_map]
        simp only [Nat.add_zero, if_true, if_neg (show ¬ k + 1 = k by omega), hst]
        congr 1
        refine List.map_congr_left fun j _ => ?_
        simp only [Function.comp, Nat.succ_eq_add_one, if_neg (show ¬ k + (j + 1) = k by omega), if_neg (show ¬ k + (j + 1) + 1 = k by omega)]
        rw [show k + (j + 1) = k + 1 + j by omega]
      rw [this, List.append_cons]
      exact h2
/-! ### counting -/
section cnt
variable (p : Nat → Bool)
def cnt (i : Nat) : Nat := ((List.range i).filter p).length
theorem cnt_succ (i : Nat) : cnt p (i + 1) = cnt p i + if p i then 1 else 0 := by
  unfold cnt
  rw [List.range_succ, List.filter_append, List.length_append]
  cases h : p i <;> simp [h]
theorem cnt_get {n i : Nat} (hi : i < n) (hp : p i = true) : ((List.range n).filter p)[cnt p i]? = some i := by
  induction n with
  | zero => omega
  | succ n ih =>
    rw [List.range_succ, List.filter_append]
    by_cases h : i < n
    · have := ih h
      rw [List.getElem?_append_left (List.getElem?_eq_some_iff.1 this).1]
      exact this
    · obtain rfl : i = n := by omega
      unfold cnt
      rw [List.getElem?_append_right (Nat.le_refl _)]
      simp [hp]
theorem cnt_lt {n i : Nat} : ∀ {j c : Nat}, ((List.range n).filter p)[j]? = some c → c < n ∧ p c = true ∧ j = cnt p c := by
  induction n with
  | zero => intro j c h; simp at h
  | succ n ih =>
    intro j c h
    rw [List.range_succ, List.filter_append] at h
    by_cases hj : j < ((List.range n).filter p).length
    · rw [List.getElem?_append_left hj] at h
      obtain ⟨h1, h2, h3⟩ := ih h
      exact ⟨by omega, h2, h3⟩
    · rw [List.getElem?_append_right (by omega)] at h
      cases hp : p n with
      | false => simp [hp] at h
      | true =>
        simp only [List.filter_cons, hp, if_true, List.filter_nil] at h
        have hlt := (List.getElem?_eq_some_iff.1 h).1
        simp only [List.length_cons, List.length_nil] at hlt
        have h0 : j - ((List.range n).filter p).length = 0 := by omega
        rw [h0] at h
        simp only [List.getElem?_cons_zero, Option.some.injEq] at h
        subst h
        exact ⟨by omega, hp, by unfold cnt; omega⟩
theorem cnt_below {n i : Nat} (hi : i ≤ n) : (((List.range n).filter p).filter (fun c => Nat.blt c i)).length = cnt p i := by
  induction n with
  | zero =>
    obtain rfl : i = 0 := by omega
    rfl
  | succ n ih =>
    by_cases h : i ≤ n
    · rw [List.range_succ, List.filter_append, List.filter_append, List.length_append, ih h]
      have : (List.filter (fun c => Nat.blt c i) (List.filter p [n])).length = 0 := by
        rw [List.length_eq_zero_iff, List.filter_eq_nil_iff]
        intro a ha
        have := (List.mem_filter.1 ha).1
        simp only [List.mem_singleton] at this
        subst this
        intro hb
        have := Nat.le_of_ble_eq_true hb
        omega
      omega
    · obtain rfl : i = n + 1 := by omega
      rw [List.filter_eq_self.2]
      · rfl
      · intro a ha
        have := (List.mem_filter.1 ha).1
        rw [List.mem_range] at this
        exact Nat.ble_eq_true_of_le this
theorem cnt_mono {i j : Nat} (h : i ≤ j) : cnt p i ≤ cnt p j := by
  induction j with
  | zero =>
    obtain rfl : i = 0 := by omega
    exact Nat.le_refl _
  | succ j ih =>
    by_cases e : i = j + 1
    · subst e; exact Nat.le_refl _
    · have := ih (by omega); rw [cnt_succ]; omega
theorem cnt_strict {i j : Nat} (h : i < j) (hp : p i = true) : cnt p i < cnt p j := by
  have h1 := cnt_mono p (show i + 1 ≤ j by omega)
  rw [cnt_succ, hp] at h1
  simp at h1
  omega
end cnt
theorem obl_mem {ops : Array Oper} {ms cs : List Nat} {S : List (List AObj)} {t : TRec} (hc : chAt ops t.i = false) {m : Nat} (hm : m ≤ cs.length) (hk : okV ms cs t.i m = true) (hne : m ≠ (cs.filter (fun c => Nat.blt c t.i)).length) {st : List AObj} (hS : S[m]? = some st) :
    ∀ {l : List TRec}, t ∈ l → (t.i, lookS ops t.i ⟨t.s.nt, t.s.env, st⟩, t.x) ∈ obl ops ms cs S l
  | [], h => by simp at h
  | q :: l, h => by
    have hb : Nat.beq m (cs.filter (fun c => Nat.blt c t.i)).length = false := by
      cases e : Nat.beq m (cs.filter (fun c => Nat.blt c t.i)).length with
      | false => rfl
      | true => exact absurd (Nat.eq_of_beq_eq_true e) hne
    rcases List.mem_cons.1 h with rfl | h
    · simp only [obl, hc]
      refine List.mem_append_left _ (List.mem_flatMap.2 ⟨m, List.mem_range.2 (by omega), ?_⟩)
      simp only [later, hk, hb, hS, Bool.not_false, Bool.and_self, List.mem_singleton]
    · have ih := obl_mem hc hm hk hne hS h
      simp only [obl]
      cases chAt ops q.i with
      | true => exact ih
      | false => exact List.mem_append_right _ ih
section main
variable {r : Option Nat} {P : Program} {ops : Array Oper}
/-- What the region's text is asked. -/
structure TextV (ops : Array Oper) (ms : List Nat) : Prop where
  eqm : ms = masks ops.toList []
  nd : ops.toList.all (fun o => notDefer o.op) = true
  e : ∀ i o, ops[i]? = some o → ∀ e ∈ o.after, bindsE e = true → e.on < i
  d : ∀ i d, i < ops.size → dstOf ops i = some d → ∀ j, j < ops.size → dstOf ops j = some d → j = i
  l : ∀ i o, ops[i]? = some o → ∀ t ∈ o.looksAt ops, ∀ j, j < ops.size → dstOf ops j = some t → (j < i ∧ ahM ms i j = true) ∨ (i < j ∧ ahM ms j i = true)
  c : ∀ i j, i < ops.size → j < i → chAt ops i = true → chAt ops j = true → ahM ms i j = true
theorem ahM_ok {ms : List Nat} (h : ms = masks ops.toList []) {i j : Nat} (ha : ahM ms i j = true) : Ah ops i j := by
  subst h
  exact masks_ok ops.toList [] (fun k o hk => by simpa using hk) (fun i j hij => by simp at hij) i j ha
theorem textV (h : drawVB ops = true) : TextV ops (masks ops.toList []) := by
  simp only [drawVB, Bool.and_eq_true, List.all_eq_true, List.mem_range] at h
  obtain ⟨⟨h0, h1⟩, h2⟩ := h
  have get : ∀ i o, ops[i]? = some o → (∀ e ∈ o.after.toList, (!bindsE e || Nat.blt e.on i) = true) ∧ (match o.dst with | some d => (List.range ops.size).all (fun j => Nat.beq i j || !(dstOf ops j == some d)) | none => chOp o.op) = true ∧
      (o.looksAt ops).all (fun t => (List.range ops.size).all (fun j => !(dstOf ops j == some t) || (Nat.blt j i && ahM (masks ops.toList []) i j) || (Nat.blt i j && ahM (masks ops.toList []) j i))) = true := fun i o ho => by
    have := h1 i (Array.getElem?_eq_some_iff.1 ho).1
    simp only [ho, Bool.and_eq_true, List.all_eq_true] at this
    exact ⟨this.1.1, this.1.2, by rw [List.all_eq_true]; intro t ht; rw [List.all_eq_true]; exact this.2 t ht⟩
  refine ⟨rfl, List.all_eq_true.2 h0, fun i o ho e he hb => ?_, fun i d hi hd j hj hjd => ?_, fun i o ho t ht j hj hjt => ?_, fun i j hi hj hc hd => ?_⟩
  · have := (get i o ho).1 e (by simpa using he)
    rw [hb] at this
    simp only [Bool.not_true, Bool.false_or] at this
    exact Nat.le_of_ble_eq_true this
  · have ho := Array.getElem?_eq_getElem hi
    have := (get i _ ho).2.1
    simp only [dstOf, ho, Option.bind_some] at hd
    rw [hd] at this
    simp only [List.all_eq_true, List.mem_range] at this
    have := this j hj
    simp only [hjd, beq_self_eq_true, Bool.not_true, Bool.or_false] at this
    exact (Nat.eq_of_beq_eq_true this).symm
  · have := (get i o ho).2.2
    simp only [List.all_eq_true, List.mem_range] at this
    have := this t ht j hj
    simp only [hjt, beq_self_eq_true, Bool.not_true, Bool.false_or, Bool.or_eq_true, Bool.and_eq_true] at this
    rcases this with ⟨a, b⟩ | ⟨a, b⟩
    · exact .inl ⟨Nat.le_of_ble_eq_true a, b⟩
    · exact .inr ⟨Nat.le_of_ble_eq_true a, b⟩
  · have := h2 i (List.mem_filter.2 ⟨List.mem_range.2 hi, hc⟩) j (List.mem_filter.2 ⟨List.mem_range.2 (by omega), hd⟩)
    have hb : Nat.blt j i = true := Nat.ble_eq_true_of_le hj
    rw [hb] at this
    simpa using this
theorem drawV_any {G : Nat → Prop} {ms : List Nat} (hT : TextV ops ms) {s0 : St} {se : Nat → St} {xs : Nat → AV} {S : Nat → List AObj} {g0 : Ghost} {w0 : World} {a0 : Act} {QQ : Exit → Act → World → Prop} {Q : St → Prop}
    (hS : ∀ i, i ≤ ops.size → (se i).st = S (cnt (chAt ops) i))
    (D1 : ∀ i j t, i ≤ ops.size → j < i → dstOf ops j = some t → (se i).get t = xs j) (D2 : ∀ i t, i ≤ ops.size → (∀ j, j < i → dstOf ops j ≠ some t) → (se i).get t = s0.get t)
    (hone : ∀ i, i < ops.size → One r P ops i (lookS ops i ⟨s0.nt, (se i).env, S (cnt (chAt ops) i)⟩) (xs i) (S (cnt (chAt ops) (i + 1))))
    (hlat : ∀ i m, i < ops.size → chAt ops i = false → m ≤ cnt (chAt ops) ops.size → okV ms (chs ops) i m = true → One r P ops i (lookS ops i ⟨s0.nt, (se i).env, S m⟩) (xs i) (S m))
    (hQ : Q ⟨s0.nt, (se ops.size).env, S (cnt (chAt ops) ops.size)⟩)
    (kk : ∀ s' g' w' a', Q s' → Rel G s' g' w' a' → Evo s0.st g0 w0 s'.st g' w' → a'.defers = a0.defers → QQ Exit.normal a' w') :
    ∀ (fuel : Nat) (listed : Array Bool) (a : Act) (g : Ghost) (w : World) (m : Nat), listed.size = ops.size → left listed ops.size = fuel → Closed ops listed → (∀ j, j < ops.size → chAt ops j = true → (listed.getD j false = true ↔ cnt (chAt ops) j < m)) → m ≤ cnt (chAt ops) ops.size →
      a.tmps.size = s0.nt → SR G (S m) g w → (∀ j t, j < ops.size → dstOf ops j = some t → listed.getD j false = true → AR G (S m) g w (xs j) (a.tmps.getD t undef)) →
      (∀ t, (∀ j, j < ops.size → dstOf ops j = some t → listed.getD j false = false) → AR G (S m) g w (s0.get t) (a.tmps.getD t undef)) →
      Evo s0.st g0 w0 (S m) g w → a.defers = a0.defers → wpAnyIn (FW r) 0 P .any ops QQ fuel listed a w := by
  intro fuel
  induction fuel with
  | zero =>
    intro listed a g w m hs hl hc hm hmM hsz hsr hv1 hv2 hev hdf
    have h1 : ∀ j, j < ops.size → listed.getD j true = true := fun j hj => by
      unfold left at hl
      rw [List.length_eq_zero_iff, List.filter_eq_nil_iff] at hl
      have := hl j (List.mem_range.2 hj)
      simpa using this
    have h1' : ∀ j, j < ops.size → listed.getD j false = true := fun j hj => by rw [getD_tf (by omega) false true]; exact h1 j hj
    refine ⟨?_, ?_⟩
    · rw [List.eq_nil_iff_forall_not_mem]
      intro j hj
      obtain ⟨hj1, hj2, _⟩ := mem_ready hj
      rw [h1 j hj1] at hj2
      simp at hj2
    · have em : m = cnt (chAt ops) ops.size := by
        rcases Nat.lt_or_ge m (cnt (chAt ops) ops.size) with hlt | hge
        · exfalso
          have hget : (chs ops)[m]? = some ((chs ops)[m]'hlt) := List.getElem?_eq_getElem hlt
          obtain ⟨c1, c2, c3⟩ := cnt_lt (chAt ops) (i := 0) hget
          have := (hm _ c1 c2).1 (h1' _ c1)
          omega
        · omega
      subst em
      refine kk _ g w a hQ ⟨fun t => ?_, hsz, hsr⟩ hev hdf
      show AR G _ g w ((se ops.size).get t) _
      by_cases hw : ∃ j, j < ops.size ∧ dstOf ops j = some t
      · obtain ⟨j, hj, hjt⟩ := hw
        rw [D1 _ j t (Nat.le_refl _) hj hjt]
        exact hv1 j t hj hjt (h1' j hj)
      · rw [D2 _ t (Nat.le_refl _) fun j hj hjt => hw ⟨j, hj, hjt⟩]
        exact hv2 t fun j hj hjt => absurd ⟨j, hj, hjt⟩ hw
  | succ fuel ih =>
    intro listed a g w m hs hl hc hm hmM hsz hsr hv1 hv2 hev hdf
    have hex : ∃ j, j < ops.size ∧ listed.getD j true = false := by
      by_cases he : ∃ j, j < ops.size ∧ listed.getD j true = false
      · exact he
      · exfalso
        have : left listed ops.size = 0 := by
          unfold left
          rw [List.length_eq_zero_iff, List.filter_eq_nil_iff]
          intro j hj
          cases hb : listed.getD j true with
          | true => simp
          | false => exact absurd ⟨j, List.mem_range.1 hj, hb⟩ he
        omega
    refine ⟨fun hnil => ?_, fun i hi => ?_⟩
    · exfalso
      have least : ∀ n j, j ≤ n → j < ops.size → listed.getD j true = false → ∃ i, i < ops.size ∧ listed.getD i true = false ∧ ∀ k, k < i → listed.getD k true = true := by
        intro n
        induction n with
        | zero =>
          intro j hj hjq hjl
          exact ⟨j, hjq, hjl, fun k hk => by omega⟩
        | succ n ihn =>
          intro j hj hjq hjl
          by_cases hk : ∃ k, k < j ∧ listed.getD k true = false
          · obtain ⟨k, hk1, hk2⟩ := hk
            exact ihn k (by omega) (by omega) hk2
          · refine ⟨j, hjq, hjl, fun k hk' => ?_⟩
            cases hb : listed.getD k true with
            | true => rfl
            | false => exact absurd ⟨k, hk', hb⟩ hk
      obtain ⟨j, hj1, hj2⟩ := hex
      obtain ⟨i, hi1, hi2, hi3⟩ := least j j (Nat.le_refl _) hj1 hj2
      have ho := Array.getElem?_eq_getElem hi1
      have hmem := ready_of ho hi2 (fun e hem hb => by
        have := hT.e i _ ho e hem hb
        rw [getD_tf (by omega) false true]
        exact hi3 _ this)
      rw [hnil] at hmem
      exact List.not_mem_nil hmem
    · obtain ⟨hi1, hi2, o, ho, he⟩ := mem_ready hi
      have hpre : ∀ o', ops[i]? = some o' → ∀ e ∈ o'.after, bindsE e = true → listed.getD e.on false = true := fun o' ho' => by
        rw [ho] at ho'
        obtain rfl := Option.some.inj ho'
        exact he
      have hnot : listed.getD i false = false := by rw [getD_tf (by omega) false true]; exact hi2
      have ahd : ∀ j, ahM ms i j = true → listed.getD j false = true := fun j h => (ahM_ok hT.eqm h).listed hc hpre
      have bhd : ∀ j, ahM ms j i = true → listed.getD j false = false := fun j h => by
        cases hb : listed.getD j false with
        | false => rfl
        | true =>
          have := (ahM_ok hT.eqm h).of_listed hc hb
          rw [hnot] at this
          cases this
      -- the operation, at the version that the store has
      have key : ∃ m', m' ≤ cnt (chAt ops) ops.size ∧ One r P ops i (lookS ops i ⟨s0.nt, (se i).env, S m⟩) (xs i) (S m') ∧ (∀ j, j < ops.size → chAt ops j = true → ((listed.setIfInBounds i true).getD j false = true ↔ cnt (chAt ops) j < m')) := by
        cases hch : chAt ops i with
        | true =>
          have e1 : m = cnt (chAt ops) i := by
            have h1 : ¬ cnt (chAt ops) i < m := fun h => by
              have := (hm i hi1 hch).2 h
              rw [hnot] at this
              cases this
            rcases Nat.lt_or_ge m (cnt (chAt ops) i) with hlt | hge
            · exfalso
              have hlt2 : m < (chs ops).length := Nat.lt_of_lt_of_le hlt (cnt_mono _ (Nat.le_of_lt hi1))
              have hget : (chs ops)[m]? = some ((chs ops)[m]'hlt2) := List.getElem?_eq_getElem hlt2
              obtain ⟨c1, c2, c3⟩ := cnt_lt (chAt ops) (i := 0) hget
              have hci : (chs ops)[m] < i := by
                rcases Nat.lt_trichotomy ((chs ops)[m]'hlt2) i with h | h | h
                · exact h
                · rw [h] at c3; omega
                · have := cnt_strict (chAt ops) h hch; omega
              have := (hm _ c1 c2).1 (ahd _ (hT.c i _ hi1 hci hch c2))
              omega
            · omega
          subst e1
          refine ⟨cnt (chAt ops) (i + 1), cnt_mono _ hi1, hone i hi1, fun j hj hcj => ?_⟩
          rw [getD_setB _ _ _ _ (by omega), cnt_succ, hch]
          by_cases e : i = j
          · subst e; simp
          · rw [if_neg e, hm j hj hcj]
            simp only [if_true]
            constructor
            · intro h; omega
            · intro h
              rcases Nat.lt_or_ge j i with h' | h'
              · exact cnt_strict _ h' hcj
              · have := cnt_strict (chAt ops) (show i < j by omega) hch; omega
        | false =>
          refine ⟨m, hmM, hlat i m hi1 hch hmM ?_, fun j hj hcj => ?_⟩
          · unfold okV
            rw [List.all_eq_true]
            intro j hj
            rw [List.mem_range] at hj
            have hget : (chs ops)[j]? = some ((chs ops)[j]'hj) := List.getElem?_eq_getElem hj
            obtain ⟨c1, c2, c3⟩ := cnt_lt (chAt ops) (i := 0) hget
            rw [hget]
            simp only [Bool.and_eq_true, Bool.or_eq_true, Bool.not_eq_true']
            refine ⟨?_, ?_⟩
            · cases ha : ahM ms i ((chs ops)[j]'hj) with
              | false => exact .inl rfl
              | true =>
                right
                have := (hm _ c1 c2).1 (ahd _ ha)
                exact Nat.ble_eq_true_of_le (by omega)
            · cases ha : ahM ms ((chs ops)[j]'hj) i with
              | false => exact .inl rfl
              | true =>
                right
                have h1 := bhd _ ha
                have : ¬ cnt (chAt ops) ((chs ops)[j]'hj) < m := fun h => by
                  have := (hm _ c1 c2).2 h
                  rw [h1] at this
                  cases this
                exact Nat.ble_eq_true_of_le (by omega)
          · rw [getD_setB _ _ _ _ (by omega)]
            have : i ≠ j := fun e => by subst e; rw [hch] at hcj; cases hcj
            rw [if_neg this]
            exact hm j hj hcj
      obtain ⟨m', hm'M, h1, hm'⟩ := key
      have hlk : lookS ops i ⟨s0.nt, (se i).env, S m⟩ = restr ⟨s0.nt, (se i).env, S m⟩ (o.looksAt ops) := by simp only [lookS, ho]
      rw [hlk] at h1
      have hrel : Rel G (restr ⟨s0.nt, (se i).env, S m⟩ (o.looksAt ops)) g w a := by
        refine ⟨fun t => ?_, hsz, hsr⟩
        show AR G (S m) g w (look ((o.looksAt ops).map fun t => (t, St.get ⟨s0.nt, (se i).env, S m⟩ t)) t) _
        rw [look_restr]
        split
        · rename_i ht
          show AR G (S m) g w ((se i).get t) _
          by_cases hw : ∃ j, j < ops.size ∧ dstOf ops j = some t
          · obtain ⟨j, hj, hjt⟩ := hw
            rcases hT.l i o ho t ht j hj hjt with ⟨h2, h3⟩ | ⟨h2, h3⟩
            · rw [D1 i j t (by omega) h2 hjt]
              exact hv1 j t hj hjt (ahd j h3)
            · rw [D2 i t (by omega) fun q hq hqt => by have := hT.d j t hj hjt q (by omega) hqt; omega]
              exact hv2 t fun q hq hqt => by
                obtain rfl := hT.d j t hj hjt q hq hqt
                exact bhd _ h3
          · rw [D2 i t (by omega) fun j hj hjt => hw ⟨j, by omega, hjt⟩]
            exact hv2 t fun j hj hjt => absurd ⟨j, hj, hjt⟩ hw
        · exact .any _
      have h := h1 [] (fun s' => s' = putS (restr ⟨s0.nt, (se i).env, S m⟩ (o.looksAt ops)) (dstOf ops i) (xs i) (S m')) (AOL.nil rfl) G g w a (fun e a' w' => match e with | .normal => wpAnyIn (FW r) 0 P .any ops QQ fuel (listed.setIfInBounds i true) a' w' | e => QQ e a' w') hrel ?_
      · exact wpOpIn_of h
      · rintro s' g' w' a' rfl hr' hev' hdf' hfr
        rw [putS_st] at hev'
        have hev' : Evo (S m) g w (S m') g' w' := hev'
        have hsr' : SR G (S m') g' w' := by have := hr'.sr; rw [putS_st] at this; exact this
        have hnt : a'.tmps.size = s0.nt := hr'.size.trans (by cases dstOf ops i <;> rfl)
        have hdo : dstOf ops i = o.dst := by simp [dstOf, ho]
        have same : ∀ t, dstOf ops i ≠ some t → a'.tmps.getD t undef = a.tmps.getD t undef := fun t ht => hfr t fun j hj p hp => by
          obtain rfl := List.mem_singleton.1 hj
          rw [ho] at hp
          obtain rfl := Option.some.inj hp
          rw [← hdo]
          exact ht
        refine ih _ a' g' w' m' (by simp [hs]) ?_ (closed_set hc ho (by omega) he) hm' hm'M hnt hsr' (fun j t hj hjt hlj => ?_) (fun t ht => ?_) (hev.trans hev') (hdf'.trans hdf)
        · have := left_set (listed := listed) (by omega) hi1 hi2
          omega
        · rw [getD_setB _ _ _ _ (by omega)] at hlj
          by_cases e : i = j
          · subst e
            have := hr'.slots t
            rw [putS_st] at this
            have hg : (putS (restr ⟨s0.nt, (se i).env, S m⟩ (o.looksAt ops)) (dstOf ops i) (xs i) (S m')).get t = xs i := by
              rw [hjt]
              exact look_cons_eq
            rw [hg] at this
            exact this
          · rw [if_neg e] at hlj
            have hne : dstOf ops i ≠ some t := fun h => e (hT.d j t hj hjt i hi1 h)
            rw [same t hne]
            exact (hv1 j t hj hjt hlj).evo hev'
        · have hne : dstOf ops i ≠ some t := fun h => by
            have := ht i hi1 h
            rw [getD_setB _ _ _ _ (by omega), if_pos rfl] at this
            cases this
          rw [same t hne]
          refine (hv2 t fun j hj hjt => ?_).evo hev'
          have := ht j hj hjt
          rw [getD_setB _ _ _ _ (by omega)] at this
          split at this
          · cases this
          · exact this
end main
section fin
variable {r : Option Nat} {P : Program} {ops : Array Oper}
def stV (ops : Array Oper) (s : List AObj) (se : Nat → St) : Nat → List AObj
  | 0 => s
  | m + 1 => (se ((chs ops).getD m 0 + 1)).st
theorem stV_eq {s : St} {se : Nat → St} (h0 : se 0 = s) (hq : ∀ i, i < ops.size → chAt ops i = false → (se (i + 1)).st = (se i).st) : ∀ i, i ≤ ops.size → (se i).st = stV ops s.st se (cnt (chAt ops) i)
  | 0, _ => by rw [h0]; rfl
  | i + 1, hi => by
    rw [cnt_succ]
    cases hc : chAt ops i with
    | true =>
      have hg := cnt_get (chAt ops) (n := ops.size) (by omega) hc
      have : (chs ops).getD (cnt (chAt ops) i) 0 = i := by rw [List.getD_eq_getElem?_getD]; unfold chs; rw [hg]; rfl
      simp only [if_true, stV, this]
    | false =>
      rw [hq i (by omega) hc]
      simpa using stV_eq h0 hq i (by omega)
theorem vers_get {s : St} {se : Nat → St} {xs : Nat → AV} (hS : ∀ i, i ≤ ops.size → (se i).st = stV ops s.st se (cnt (chAt ops) i)) :
    ∀ (n k : Nat), k + n = ops.size → ∀ j, cnt (chAt ops) k + j ≤ cnt (chAt ops) ops.size →
      (vers ops (stV ops s.st se (cnt (chAt ops) k)) ((List.range n).map fun j => ⟨k + j, se (k + j), xs (k + j), (se (k + j + 1)).st⟩))[j]? = some (stV ops s.st se (cnt (chAt ops) k + j))
  | 0, k, hk, j, hj => by
    obtain rfl : k = ops.size := by omega
    obtain rfl : j = 0 := by omega
    rfl
  | n + 1, k, hk, j, hj => by
    have e : (List.range (n + 1)).map (fun j => (⟨k + j, se (k + j), xs (k + j), (se (k + j + 1)).st⟩ : TRec)) = ⟨k, se k, xs k, (se (k + 1)).st⟩ :: (List.range n).map fun j => ⟨k + 1 + j, se (k + 1 + j), xs (k + 1 + j), (se (k + 1 + j + 1)).st⟩ := by
      rw [List.range_succ_eq_map, List.map_cons, List.map_map]
      simp only [Nat.add_zero]
      congr 1
      refine List.map_congr_left fun j _ => ?_
      simp only [Function.comp, Nat.succ_eq_add_one]
      rw [show k + (j + 1) = k + 1 + j by omega]
    rw [e]
    have ih := vers_get (xs := xs) hS n (k + 1) (by omega)
    cases hc : chAt ops k with
    | true =>
      have e2 : cnt (chAt ops) (k + 1) = cnt (chAt ops) k + 1 := by rw [cnt_succ, hc]; rfl
      simp only [vers, hc]
      rw [hS (k + 1) (by omega)]
      cases j with
      | zero => rfl
      | succ j =>
        rw [List.getElem?_cons_succ, ih j (by omega), e2]
        congr 2; omega
    | false =>
      have e2 : cnt (chAt ops) (k + 1) = cnt (chAt ops) k := by rw [cnt_succ, hc]; rfl
      simp only [vers, hc]
      rw [← e2] at hj ⊢
      exact ih j hj
theorem AWp.drawV {id : Nat} {s : St} {Q : Exit → St → Prop} {l : List Nat} (hm : P.follows .mixedOrders = true) (hb : drawVB ops = true) (hl : List.range ops.size = l)
    (h : TR r P ops l s [] fun T rc => SameQ ops rc ∧ AllO r P ops (obl ops (masks ops.toList []) (chs ops) (vers ops s.st rc) rc) ∧ Q .normal T) : AWp r P (.region id ops true) s Q := fun G g w a B QQ hr hB hd k => by
  subst hl
  have hT := textV hb
  have h' : TR r P ops ((List.range ops.size).map (0 + ·)) s [] fun T rc => SameQ ops rc ∧ AllO r P ops (obl ops (masks ops.toList []) (chs ops) (vers ops s.st rc) rc) ∧ Q .normal T := by
    have : (List.range ops.size).map (0 + ·) = List.range ops.size := by
      have : (List.range ops.size).map (fun x => 0 + x) = (List.range ops.size).map (fun x => x) := List.map_congr_left fun x _ => Nat.zero_add x
      rw [this, List.map_id']
    rw [this]; exact h
  obtain ⟨se, xs, h0, h1, hq, ho, hQ⟩ := TR.collect _ _ _ _ h'
  rw [List.nil_append] at hq ho
  rw [Nat.zero_add] at hQ
  have hq' : ∀ i, i < ops.size → chAt ops i = false → (se (i + 1)).st = (se i).st := fun i hi hc => by
    have := SameQ_mem hq ⟨0 + i, se (0 + i), xs (0 + i), (se (0 + i + 1)).st⟩ (List.mem_map.2 ⟨i, List.mem_range.2 hi, rfl⟩) (by rw [Nat.zero_add]; exact hc)
    simp only [Nat.zero_add] at this
    exact this
  have hS := stV_eq h0 hq'
  have hnt : ∀ i, i ≤ ops.size → (se i).nt = s.nt := fun i => by
    induction i with
    | zero => intro _; rw [h0]
    | succ i ih =>
      intro hi
      rw [(h1 i (Nat.zero_le _) (by omega)).2]
      have : (putS (se i) (dstOf ops i) (xs i) (se (i + 1)).st).nt = (se i).nt := by cases dstOf ops i <;> rfl
      rw [this]; exact ih (by omega)
  have hget : ∀ i t, i < ops.size → (se (i + 1)).get t = if dstOf ops i = some t then xs i else (se i).get t := fun i t hi => by
    rw [(h1 i (Nat.zero_le _) (by omega)).2]
    cases hdo : dstOf ops i with
    | none => simp [putS]; rfl
    | some d =>
      show look ((d, xs i) :: (se i).env) t = _
      by_cases e : d = t
      · subst e; rw [look_cons_eq]; simp
      · rw [look_cons_ne e]; simp [e]; rfl
  have D2 : ∀ i t, i ≤ ops.size → (∀ j, j < i → dstOf ops j ≠ some t) → (se i).get t = s.get t := fun i => by
    induction i with
    | zero => intro t _ _; rw [h0]
    | succ i ih =>
      intro t hi hn
      rw [hget i t (by omega), if_neg (hn i (Nat.lt_succ_self i))]
      exact ih t (by omega) fun j hj => hn j (by omega)
  have D1 : ∀ i j t, i ≤ ops.size → j < i → dstOf ops j = some t → (se i).get t = xs j := fun i => by
    induction i with
    | zero => intro j t _ hj _; omega
    | succ i ih =>
      intro j t hi hj hjt
      rw [hget i t (by omega)]
      by_cases e : j = i
      · subst e; rw [if_pos hjt]
      · rw [if_neg fun h => e (hT.d i t (by omega) h j (by omega) hjt)]
        exact ih j t (by omega) (by omega) hjt
  have hlk : ∀ i m, i ≤ ops.size → lookS ops i ⟨s.nt, (se i).env, m⟩ = lookS ops i ⟨(se i).nt, (se i).env, m⟩ := fun i m hi => by rw [hnt i hi]
  have hM : (chs ops).length = cnt (chAt ops) ops.size := rfl
  have hv : ∀ m, m ≤ cnt (chAt ops) ops.size → (vers ops s.st ((List.range ops.size).map fun j => ⟨0 + j, se (0 + j), xs (0 + j), (se (0 + j + 1)).st⟩))[m]? = some (stV ops s.st se m) := fun m hm => by
    have := vers_get (xs := xs) hS ops.size 0 (by omega) m (by simpa [cnt] using hm)
    simpa [cnt, stV] using this
  have ev0 : Evo s.st g w s.st g { w with drawn := w.drawn + 1 } := .below ⟨rfl, rfl, rfl, Nat.le_refl _, fun _ _ => rfl⟩
  have sr0 : SR G s.st g { w with drawn := w.drawn + 1 } := hr.sr.below (w := w) (w' := { w with drawn := w.drawn + 1 }) ⟨rfl, rfl, rfl, Nat.le_refl _, fun _ _ => rfl⟩
  refine wpIn_region_any hm ?_
  refine drawV_any (G := G) hT (s0 := s) (se := se) (xs := xs) (S := stV ops s.st se) (g0 := g) (w0 := w) (a0 := a) (Q := Q .normal) hS D1 D2 (fun i hi => ?_) (fun i m hi hc hmM hok => ?_) ?_ (fun s' g' w' a' qs hr' he' hd' => k _ s' g' w' a' qs hr' he' (by rw [hd']; exact hd.evo hr.sr he')) ops.size _ a g _ 0 (by simp) ?_ ?_ ?_ (Nat.zero_le _) hr.size sr0 ?_ ?_ ev0 rfl
  · have := (h1 i (Nat.zero_le _) (by omega)).1
    rw [← hS i (by omega), ← hS (i + 1) (by omega), hlk i _ (by omega)]
    exact this
  · by_cases e : m = cnt (chAt ops) i
    · subst e
      have := (h1 i (Nat.zero_le _) (by omega)).1
      rw [hq' i hi hc] at this
      rw [← hS i (by omega), hlk i _ (by omega)]
      exact this
    · have hmem := obl_mem (ops := ops) (ms := masks ops.toList []) (cs := chs ops) (S := vers ops s.st ((List.range ops.size).map fun j => ⟨0 + j, se (0 + j), xs (0 + j), (se (0 + j + 1)).st⟩)) (t := ⟨0 + i, se (0 + i), xs (0 + i), (se (0 + i + 1)).st⟩) (by rw [Nat.zero_add]; exact hc) (m := m) hmM
        (by simp only [Nat.zero_add]; exact hok) (by simp only [Nat.zero_add]; unfold chs; rw [cnt_below _ (by omega)]; exact e) (hv m hmM) (List.mem_map.2 (⟨i, List.mem_range.2 hi, rfl⟩ : ∃ a, a ∈ List.range ops.size ∧ (fun j => (⟨0 + j, se (0 + j), xs (0 + j), (se (0 + j + 1)).st⟩ : TRec)) a = ⟨0 + i, se (0 + i), xs (0 + i), (se (0 + i + 1)).st⟩))
      have := AllO_mem ho _ hmem
      simp only [Nat.zero_add] at this
      rw [lookS_st] at this
      rw [hlk i _ (by omega)]
      exact this
  · have e : (⟨s.nt, (se ops.size).env, stV ops s.st se (cnt (chAt ops) ops.size)⟩ : St) = se ops.size := by
      rw [← hS _ (Nat.le_refl _), ← hnt _ (Nat.le_refl _)]
    rw [e]; exact hQ
  · unfold left
    have : (List.range ops.size).filter (fun j => !(Array.replicate ops.size false).getD j true) = List.range ops.size := by
      rw [List.filter_eq_self]
      intro j hj
      have := List.mem_range.1 hj
      simp [this]
    rw [this, List.length_range]
  · intro i o hi ho e hem hbe
    exfalso
    have := (Array.getElem?_eq_some_iff.1 ho).1
    simp [this] at hi
  · intro j hj _
    simp [hj]
  · intro j t hj _ hl
    simp [hj] at hl
  · intro t _
    exact (hr.slots t).evo ev0
/-! ### for the tactics -/
def advT (A : Ar) (tab : List TI) (ops : Array Oper) (D G : List Nat) : List Nat → St → List TRec → List Nat × St × List TRec
  | [], s, rc => ([], s, rc)
  | i :: rest, s, rc => match ops[i]? with
    | some o => match hint ops G (lookS ops i s) o && !stops D o with
      | true => match gd ops (lookS ops i s) o.guard with
        | some true => match ev1 A tab (lookS ops i s) o.op with
          | some (x, st') => match dstOk (lookS ops i s) o.dst with
            | true => advT A tab ops D G rest (putS s o.dst x st') (rc ++ [⟨i, s, x, st'⟩])
            | false => (i :: rest, s, rc)
          | none => (i :: rest, s, rc)
        | some false => match dstOk (lookS ops i s) o.dst with
          | true => advT A tab ops D G rest (putS s o.dst (.tup []) s.st) (rc ++ [⟨i, s, .tup [], s.st⟩])
          | false => (i :: rest, s, rc)
        | none => (i :: rest, s, rc)
      | false => (i :: rest, s, rc)
    | none => (i :: rest, s, rc)
theorem TR.adv {A : Ar} {tab : List TI} (hA : A = real) (hT : TabOk P tab) {D Gh : List Nat} {Q : St → List TRec → Prop} : ∀ (l : List Nat) (s : St) (rc : List TRec), TR r P ops (advT A tab ops D Gh l s rc).1 (advT A tab ops D Gh l s rc).2.1 (advT A tab ops D Gh l s rc).2.2 Q → TR r P ops l s rc Q
  | [], s, rc, h => h
  | i :: rest, s, rc, h => by
    simp only [advT] at h
    cases ho : ops[i]? with
    | none => simp only [ho] at h; exact h
    | some o =>
      simp only [ho] at h
      have hdo : dstOf ops i = o.dst := by simp [dstOf, ho]
      cases hh : (hint ops Gh (lookS ops i s) o && !stops D o) with
      | false => simp only [hh] at h; exact h
      | true =>
        simp only [hh] at h
        cases hg : gd ops (lookS ops i s) o.guard with
        | none => simp only [hg] at h; exact h
        | some b =>
          cases b with
          | true =>
            simp only [hg] at h
            cases he : ev1 A tab (lookS ops i s) o.op with
            | none => simp only [he] at h; exact h
            | some p =>
              obtain ⟨x, st'⟩ := p
              simp only [he] at h
              cases hd : dstOk (lookS ops i s) o.dst with
              | false => simp only [hd] at h; exact h
              | true =>
                simp only [hd] at h
                refine ⟨x, st', fun rest' Q' k => ?_, by rw [hdo]; exact TR.adv hA hT rest _ _ h⟩
                rw [hdo] at k
                exact AOL.step ho hg hd (ev1_nd he) (ev1_mem hA hT he) k
          | false =>
            simp only [hg] at h
            cases hd : dstOk (lookS ops i s) o.dst with
            | false => simp only [hd] at h; exact h
            | true =>
              simp only [hd] at h
              refine ⟨.tup [], s.st, fun rest' Q' k => ?_, by rw [hdo]; exact TR.adv hA hT rest _ _ h⟩
              refine AOL.skip ho hg hd ?_
              rw [hdo] at k
              rw [lookS_st]
              exact k
def tnxt (A : Ar) (tab : List TI) (ops : Array Oper) (D G : List Nat) (l : List Nat) (s : St) (rc : List TRec) : List Nat × St × List TRec × Ev := match advT A tab ops D G l s rc with
  | (l', s', rc') => (l', s', rc', qevOf D G ops l' s')
def TRg (D G : List Nat) (r : Option Nat) (P : Program) (ops : Array Oper) (l : List Nat) (s : St) (rc : List TRec) (Q : St → List TRec → Prop) : Prop := TR r P ops l s rc Q
def TX (D G : List Nat) (r : Option Nat) (P : Program) (ops : Array Oper) (l : List Nat) (s : St) (rc : List TRec) (Q : St → List TRec → Prop) (ev : Ev) : Prop := qevOf D G ops l s = ev → TR r P ops l s rc Q
variable {D Gh : List Nat} {Q : St → List TRec → Prop}
theorem TRg.nx {A : Ar} {tab : List TI} (hA : A = real) (hT : TabOk P tab) {l l' : List Nat} {s s' : St} {rc rc' : List TRec} {ev : Ev} (h : tnxt A tab ops D Gh l s rc = (l', s', rc', ev)) (k : TX D Gh r P ops l' s' rc' Q ev) : TRg D Gh r P ops l s rc Q := by
  simp only [tnxt, Prod.mk.injEq] at h
  obtain ⟨h1, h2, h3, h4⟩ := h
  refine TR.adv hA hT (D := D) (Gh := Gh) l s rc ?_
  rw [h1, h2, h3]
  rw [h1, h2] at h4
  exact k h4
theorem TRg.pass {l : List Nat} {s : St} {rc : List TRec} (k : TRg D Gh r P ops l s rc Q) : TRg D Gh r P ops l s rc Q := k
theorem TX.done {s : St} {rc : List TRec} (h : Q s rc) : TX D Gh r P ops [] s rc Q .done := fun _ => h
theorem TX.gt {j : Nat} {l : List Nat} {s : St} {rc : List TRec} (k : TRg D (j :: Gh) r P ops l s rc Q) : TX D Gh r P ops l s rc Q (.guard j true) := fun _ => k
theorem TX.gf {j : Nat} {l : List Nat} {s : St} {rc : List TRec} (k : TRg D (j :: Gh) r P ops l s rc Q) : TX D Gh r P ops l s rc Q (.guard j false) := fun _ => k
theorem TX.gs {j : Nat} {b : Bool} {l : List Nat} {s : St} {rc : List TRec} (h1 : b = true → TRg D (j :: Gh) r P ops l s rc Q) (h2 : b = false → TRg D (j :: Gh) r P ops l s rc Q) : TX D Gh r P ops l s rc Q (.guard j b) := fun _ => by
  cases b with
  | true => exact h1 rfl
  | false => exact h2 rfl
theorem TX.one {ev : Ev} {i : Nat} {rest : List Nat} {s : St} {rc : List TRec} {x : AV} {st' : List AObj} (h : One r P ops i (lookS ops i s) x st') (k : TRg D Gh r P ops rest (putS s (dstOf ops i) x st') (rc ++ [⟨i, s, x, st'⟩]) Q) : TX D Gh r P ops (i :: rest) s rc Q ev := fun _ => ⟨x, st', h, k⟩
theorem TX.call {i : Nat} {rest : List Nat} {s : St} {rc : List TRec} {f : FuncId} {p : List PV} {y : PV} (hc : PureCalls P f p y) (k : TRg D Gh r P ops rest (putS s (dstOf ops i) y.av s.st) (rc ++ [⟨i, s, y.av, s.st⟩]) Q) : TX D Gh r P ops (i :: rest) s rc Q (.call f p) := fun h => by
  obtain ⟨op, h1, h2⟩ := evOf_op (l := rest) (i := i) h (by simp) (by simp) (by simp)
  obtain ⟨x, args, ts, first, cap, rfl, h3, h4⟩ := opEv_call h2
  have := One.call (r := r) false h1 h3 h4 hc rfl
  rw [lookS_st] at this
  exact ⟨_, _, this, k⟩
theorem TX.callO {i : Nat} {rest : List Nat} {s : St} {rc : List TRec} {own : Bool} {f : FuncId} {p : List PV} {q : List (Nat × Nat)} {y : PV} (hc : PureCalls P f p y) (hq : allEq q) (hn : (!own || noSl y) = true) (k : TRg D Gh r P ops rest (putS s (dstOf ops i) y.av s.st) (rc ++ [⟨i, s, y.av, s.st⟩]) Q) : TX D Gh r P ops (i :: rest) s rc Q (.callO own f p q) := fun h => by
  obtain ⟨op, h1, h2⟩ := evOf_op (l := rest) (i := i) h (by simp) (by simp) (by simp)
  obtain ⟨x, args, ts, first, cap, rfl, h3, h4⟩ := opEv_callO h2
  have := One.callO (r := r) own h1 h3 h4 hc hn hq
  rw [lookS_st] at this
  exact ⟨_, _, this, k⟩
theorem TX.raw {ev : Ev} {l : List Nat} {s : St} {rc : List TRec} (h : TR r P ops l s rc Q) : TX D Gh r P ops l s rc Q ev := fun _ => h
theorem TX.k (n : Nat) {l : List Nat} {s : St} {rc : List TRec} (h : TX D Gh r P ops l s rc Q (.one n)) : TX D Gh r P ops l s rc Q (.one n) := h
theorem TX.kC {f : FuncId} {p : List PV} {l : List Nat} {s : St} {rc : List TRec} (h : TX D Gh r P ops l s rc Q (.call f p)) : TX D Gh r P ops l s rc Q (.call f p) := h
theorem TX.kO {own : Bool} {f : FuncId} {p : List PV} {q : List (Nat × Nat)} {l : List Nat} {s : St} {rc : List TRec} (h : TX D Gh r P ops l s rc Q (.callO own f p q)) : TX D Gh r P ops l s rc Q (.callO own f p q) := h
/-- What is left behind the walk: the obligations, written out. -/
def Fin3 (r : Option Nat) (P : Program) (ops : Array Oper) (l : List (Nat × St × AV)) (sq : Prop) (K : Prop) : Prop := sq ∧ AllO r P ops l ∧ K
theorem AWp.drawVG (D : List Nat) {id : Nat} {s : St} {Q : Exit → St → Prop} {l : List Nat} (hm : P.follows .mixedOrders = true) (hb : drawVB ops = true) (hl : List.range ops.size = l)
    (h : TRg D [] r P ops l s [] fun T rc => Fin3 r P ops (obl ops (masks ops.toList []) (chs ops) (vers ops s.st rc) rc) (SameQ ops rc) (Q .normal T)) : AWp r P (.region id ops true) s Q := AWp.drawV hm hb hl h
theorem Fin3.of {l l' : List (Nat × St × AV)} {sq K : Prop} (e : l = l') (h1 : sq) (h2 : AllO r P ops l') (h3 : K) : Fin3 r P ops l sq K := ⟨h1, e ▸ h2, h3⟩
theorem AllO.nil : AllO r P ops [] := trivial
theorem AllO.cons {i : Nat} {s : St} {x : AV} {l : List (Nat × St × AV)} (h : One r P ops i s x s.st) (k : AllO r P ops l) : AllO r P ops ((i, s, x) :: l) := ⟨h, k⟩
theorem AllO.consX {i : Nat} {s : St} {x x' : AV} {st' : List AObj} {l : List (Nat × St × AV)} (h : One r P ops i s x' st') (e : x' = x) (e2 : st' = s.st) (k : AllO r P ops l) : AllO r P ops ((i, s, x) :: l) := by
  subst e e2
  exact ⟨h, k⟩
theorem AllO.pass {l : List (Nat × St × AV)} (k : AllO r P ops l) : AllO r P ops l := k
theorem AllO.call {i : Nat} {s : St} {x : AV} {l : List (Nat × St × AV)} {f : FuncId} {p : List PV} {y : PV} (h : callAt ops i s = some (f, p)) (hc : PureCalls P f p y) (e : y.av = x) (k : AllO r P ops l) : AllO r P ops ((i, s, x) :: l) := by
  subst e
  exact ⟨One.callF h hc, k⟩
def skipAt (ops : Array Oper) (i : Nat) (s : St) : Bool := match ops[i]? with
  | some o => match gd ops s o.guard with
    | some false => dstOk s o.dst
    | _ => false
  | none => false
theorem One.skipB {i : Nat} {s : St} (h : skipAt ops i s = true) : One r P ops i s (.tup []) s.st := fun rest Q k => by
  unfold skipAt at h
  split at h
  · rename_i o ho
    split at h
    · rename_i hg
      have hdo : dstOf ops i = o.dst := by simp [dstOf, ho]
      rw [hdo] at k
      exact AOL.skip ho hg h k
    · simp at h
  · simp at h
end fin
end Go.Proofs.YtklecijcpkolfaaDoor.Aw

/- Plain words that many contracts use: what holds of all places, the first place, strings. -/
set_option linter.unusedVariables false
set_option linter.unusedSimpArgs false
namespace Go.Proofs.YtklecijcpkolfaaDoor.Aw
open Go Go.RowKit
def allB (n : Nat) (p : Nat → Bool) : Bool := (List.range n).all p
/-- The first place of which something is so; -1: none. -/
def idxB (n : Nat) (p : Nat → Bool) : Int := match (List.range n).find? p with
  | some i => (i : Int)
  | none => -1
/-- Two texts are the same. -/
def eqS (a b : ByteArray) : Bool := decide (a.toList = b.toList)
theorem sb_range (s : ByteArray) (i : Int) : 0 ≤ sb s i ∧ sb s i ≤ 255 := by
  unfold sb
  have := (s.data.toList.getD i.toNat 0).toNat_lt
  omega
abbrev SP (s : ByteArray) : PV := .c (.lit (.string s))
abbrev UP (z : Int) : PV := .c (.lit (.int .u8 z))
end Go.Proofs.YtklecijcpkolfaaDoor.Aw

/- The abstract walk, part 40: bytes read as a text. -/
set_option linter.unusedVariables false
set_option linter.unusedSimpArgs false
namespace Go.Proofs.YtklecijcpkolfaaDoor.Aw
open Go Go.RowKit
def mkS (l : List Int) : ByteArray := l.foldl (fun r n => r.push (UInt8.ofNat n.toNat)) ByteArray.empty
def encU (n : Int) : List IC := [.lit (.int .u8 n)]
theorem Flat.bytes {w : World} {ok : Nat → Prop} {l : List Int} {cs : List Value} (h : Flat w ok 1 (List.map encU l) cs) : cs = l.map (Value.int .u8) := by
  have hl := h.len
  rw [List.length_map, Nat.mul_one] at hl
  apply List.ext_getElem?
  intro j
  rcases Nat.lt_or_ge j l.length with hj | hj
  · obtain ⟨u, hu, hr⟩ := h.rel j (encU l[j]) 0 (.lit (.int .u8 l[j])) (by rw [List.getElem?_map, List.getElem?_eq_getElem hj]; rfl) rfl
    rw [Nat.mul_one, Nat.add_zero] at hu
    cases hr
    rw [hu, List.getElem?_map, List.getElem?_eq_getElem hj]
    rfl
  · rw [List.getElem?_eq_none (by omega), List.getElem?_eq_none (by rw [List.length_map]; omega)]
theorem run_bytes {P : Program} (w : World) (Ad : Option Addr) (l : List Int) (n c : Nat) (hn : n = l.length) (h : ∀ (j : Nat) (u : Value), (l.map (Value.int .u8))[j]? = some u → ∃ b o, Ad = some ⟨b, o, none⟩ ∧ w.cell? ⟨b, o + j, none⟩ = some u) :
    (Conv.bytesToString (.slice Ad n c)).run P w = .ok (.string (mkS l)) w := by
  subst hn
  cases Ad with
  | none =>
    cases l with
    | nil => simp [Conv.bytesToString, mkS]
    | cons x l =>
      obtain ⟨b, o, e, _⟩ := h 0 (.int .u8 x) rfl
      cases e
  | some a =>
    have h3 := run_loadCells_list (P := P) (w := w) a (l.map (Value.int .u8)) (fun j v hj => by
      obtain ⟨b, o, e, hc⟩ := h j v hj
      obtain rfl := Option.some.inj e
      rw [add_block]; exact hc)
    rw [List.length_map] at h3
    exact run_bytesToString w a l.length c l h3
theorem does_bytes {P : Program} {s : St} (src dst e : TypeId) (x : Operand) (ex : Bool) (l : List Int) (hk : (tyi P src).k = .slice e) (he : (tyi P e).k = .int .u8) (hd : (tyi P dst).k = .string) (hx : s.ev x = .ic (.sl 1 ex (List.map encU l))) :
    Does P s (fun ρ => do pure (.value (← convert src dst (ρ x)))) (.ic (.lit (.string (mkS l)))) s.st :=
  .pure fun G g w act hrel => by
    have h := hrel.ev x
    rw [hx] at h
    obtain ⟨Ad, c, cs, e1, _, _, _, hf, hc⟩ := h.ic_inv.flat
    obtain rfl := hf.bytes
    refine ⟨_, ?_, .ic _ _ (.lit _ rfl)⟩
    have hr := run_bytes (P := P) w Ad l (List.map encU l).length c (by simp) hc
    simp only [e1, Sem.run_bind, run_convert_bytes_string w src dst e Ad (List.map encU l).length c (tk_slice hk) (tk_int he) (tk_string hd), hr, Result.andThen_ok, Sem.run_pure]
section one
variable {r : Option Nat} {P : Program} {ops : Array Oper} {i : Nat} {s : St} {tab : List TI} {A : Ar}
theorem One.bytesM (hA : A = real) (hT : TabOk P tab) {src dst e : TypeId} {j q : TI} {x : Operand} {ex : Bool} {l : List Int} {rows : List (List IC)} (h : opAt ops i s = some (.convert src dst x)) (hs : slT tab src = some (e, j)) (he : j.k = .int .u8) (hd : tiAt tab dst = some q) (hq : q.k = .string)
    (hx : s.ev x = .ic (.sl 1 ex rows)) (hr : rows = hid A (List.map encU l)) : One r P ops i s (.ic (.lit (.string (hid A (mkS l))))) s.st := by
  rw [hid_eq hA]
  rw [hr, hid_eq hA] at hx
  obtain ⟨h1, h2, rfl⟩ := slT_ok hT hs
  obtain ⟨rfl, h3⟩ := tiAt_ok hT hd
  exact .does h rfl fun o hop => (does_bytes src dst e x ex l h2 he hq hx).congr fun ρ => by simp only [execOp, hop]
end one
end Go.Proofs.YtklecijcpkolfaaDoor.Aw

/- The abstract walk, part 41: a literal slice of one number as a row of the call's own; a variable's cells told in other words in the midst of a region. -/
set_option linter.unusedVariables false
set_option linter.unusedSimpArgs false
namespace Go.Proofs.YtklecijcpkolfaaDoor.Aw
open Go Go.RowKit
theorem set_one (f : Nat → Value) (v : Value) : ((Array.range 1).map f).setIfInBounds 0 v = #[v] := by
  apply Array.ext
  · simp
  · intro i h1 h2
    have : i = 0 := by simp at h2; exact h2
    subst this
    simp
theorem does_build1 {P : Program} {s : St} (t e : TypeId) (x : Operand) (k : IntKind) (n : Int) (z : Value) (ht : (tyi P t).there = true) (hk : (tyi P t).k = .slice e) (hsz : (tyi P e).size = 1) (hz : (tyi P e).zero = some [z]) (hx : s.ev x = .ic (.lit (.int k n))) :
    Does P s (fun ρ => do pure (.value (← Instr.buildSlice t 1 ((#[(0, x)] : Array (Nat × Operand)).map fun (i, x) => (i, ρ x))))) (.own s.st.length 0) (s.st ++ [.row true 0 e 1 [[.lit (.int k n)]]]) := fun G g w a hrel => by
  have hu := tk_slice hk
  have h1 := hrel.ev x
  rw [hx] at h1
  have h1 := h1.lit_inv
  obtain ⟨zv, hzr, hzc⟩ := run_zero hz w
  have hss := run_size (P := P) (there_elem ht hu) w
  have hz2 : P.cellsOf e = 1 := hsz
  rw [hz2] at hss
  have hrun : (Instr.buildSlice t 1 ((#[(0, x)] : Array (Nat × Operand)).map fun (i, x) => (i, a.eval x))).run P w = .ok (.slice (some ⟨w.heap.size, 0, none⟩) 1 1) (w.alloc (.cells #[.int k n] e)) := by
    simp [Instr.buildSlice, run_underlying hu, hss, hzr, Instr.fill, newRow, h1, Value.cells, run_newObj]
    refine congrArg (fun c => w.alloc (Obj.cells c e)) ?_
    exact set_one _ _
  have hg : w.grownBy (w.alloc (.cells #[.int k n] e)) none := ⟨rfl, rfl, rfl, by simp, fun b hb _ => Below.heap_alloc _ _ _ hb⟩
  obtain ⟨g', hev, hsr, har⟩ := SR.newRow hrel e 1 [[.lit (.int k n)]] (.slice (some ⟨w.heap.size, 0, none⟩) 1 1) [.int k n] hg (fun b hb => by simp [gb] at hb; omega)
    ⟨by simp, .inr ⟨w.heap.size, 1, #[.int k n], rfl, Nat.zero_le _, heap_alloc_new _ _, Nat.le_refl _, by simp [maxLen], by simp, by simp⟩⟩ (fun ok => ⟨by simp, fun j r hj => by
      match j, hj with
      | 0, hj => obtain rfl := Option.some.inj hj; rfl, fun j r q y hj hq => by
      match j, hj with
      | 0, hj =>
        obtain rfl := Option.some.inj hj
        match q, hq with
        | 0, hq =>
          obtain rfl := Option.some.inj hq
          exact ⟨_, rfl, .lit _ rfl⟩, by simp [Value.oneCell']⟩)
  exact ⟨_, _, g', _, by simp only [Sem.run_bind, hrun, Result.andThen_ok, Sem.run_pure], .inl rfl, hev, hsr, har⟩
theorem One.build1 {r : Option Nat} {P : Program} {ops : Array Oper} {i : Nat} {s : St} {tab : List TI} (hT : TabOk P tab) {t e : TypeId} {j : TI} {x : Operand} {k : IntKind} {n : Int} {z : Value} (h : opAt ops i s = some (.buildSlice t 1 #[(0, x)])) (ht : slT tab t = some (e, j)) (hz : j.zero = some [z]) (hs : j.size = 1) (hx : s.ev x = .ic (.lit (.int k n))) : One r P ops i s (.own s.st.length 0) (s.st ++ [.row true 0 e 1 [[.lit (.int k n)]]]) := by
  obtain ⟨g1, g2, rfl⟩ := slT_ok hT ht
  exact .does h rfl fun o hop => (does_build1 t e x k n z g1 g2 hs hz hx).congr fun ρ => by simp only [execOp, hop]
theorem AOL.recell {r : Option Nat} {P : Program} {ops : Array Oper} {l : List Nat} {s : St} {Q : St → Prop} (i : Nat) {m : Bool} {t : TypeId} {cs : List AV} (cs' : List AV) (hi : s.st[i]? = some (.var m t cs)) (hc : CLes s.st cs cs') (h : AOL r P ops l ⟨s.nt, s.env, s.st.set i (.var m t cs')⟩ Q) : AOL r P ops l s Q := fun G g w a QQ hr k => by
  obtain ⟨hev, hsr⟩ := hr.sr.recell i hi hc
  exact h G g w a QQ ⟨fun t => (hr.slots t).evo hev, hr.size, hsr⟩ fun s' g' w' a' q hr' he hd hf => k s' g' w' a' q hr' (hev.trans he) hd hf
theorem CLe.int {s : List AObj} {k : IntKind} {a b : Int} (e : a = b) : CLe s (.ic (.lit (.int k a))) (.ic (.lit (.int k b))) := e ▸ .refl _
theorem CLe.str {s : List AObj} {a b : ByteArray} (e : a = b) : CLe s (.ic (.lit (.string a))) (.ic (.lit (.string b))) := e ▸ .refl _
/-- Code behind other code, from a state that the first leaves on all its ways. -/
theorem AWp.cut {r : Option Nat} {P : Program} {s : St} {Q : Exit → St → Prop} {x y : Code} (up : List (Nat × AV)) (st' : List AObj) {keep : List (Nat × AV)} (hk : keepOf (wr x 0) s.env = keep) (h : AWp r P x s (Thn (fun s' => s'.nt = s.nt ∧ s'.st = st' ∧ subE s' up ∧ subE s' keep) Q)) (k : AWp r P y ⟨s.nt, up ++ keep, st'⟩ Q) : AWp r P (.seq x y) s Q := by
  refine AWp.seq (h.mono fun e s' hq => ?_)
  cases e with
  | normal =>
    obtain ⟨h1, h2, h3, h4⟩ := hq
    exact AWp.sub (Sub.of h1 h2 (subE_append h3 h4)) k
  | _ => exact hq
/-- A text's bytes from one place up to another. -/
def cutS (b : ByteArray) (l n : Int) : ByteArray := b.extract l.toNat n.toNat
theorem cutS_size (b : ByteArray) (l n : Int) (h0 : 0 ≤ l) (h1 : l ≤ n) (h2 : n ≤ (b.size : Int)) : ((cutS b l n).size : Int) = n - l := by
  unfold cutS; rw [ByteArray.size_extract]; omega
theorem cutS_get (b : ByteArray) (l n i : Int) (h0 : 0 ≤ l) (h2 : n ≤ (b.size : Int)) (h3 : 0 ≤ i) (h4 : i < n - l) : sb (cutS b l n) i = sb b (l + i) := by
  unfold sb cutS
  rw [ByteArray.data_extract, Array.toList_extract]
  simp only [List.getD_eq_getElem?_getD, List.extract_eq_take_drop, List.getElem?_take, List.getElem?_drop]
  rw [if_pos (by omega), show l.toNat + i.toNat = (l + i).toNat by omega]
section strcut
variable {r : Option Nat} {P : Program} {ops : Array Oper} {i : Nat} {s : St} {tab : List TI} {A : Ar}
theorem One.strcut_lhM (hA : A = real) (hT : TabOk P tab) {t : TypeId} {j : TI} {x y z : Operand} {b : ByteArray} {k k' : IntKind} {l n : Int} (h : opAt ops i s = some (.slice t x (some y) (some z) none)) (ht : tiAt tab t = some j) (hk : j.k = .string) (hx : s.ev x = .ic (.lit (.string b))) (hy : s.ev y = .ic (.lit (.int k l))) (hz : s.ev z = .ic (.lit (.int k' n)))
    (h0 : 0 ≤ l) (h1 : l ≤ n) (h2 : n ≤ (b.size : Int)) : One r P ops i s (.ic (.lit (.string (hid A (cutS b l n))))) s.st := by
  rw [hid_eq hA]
  obtain ⟨rfl, h3⟩ := tiAt_ok hT ht
  exact .does h rfl fun o hop => (does_strcut t x b (some y) (some z) l.toNat n.toNat hk hx (by omega) (by omega) ⟨k, by rw [Int.toNat_of_nonneg h0]; exact hy⟩ ⟨k', by rw [Int.toNat_of_nonneg (by omega)]; exact hz⟩).congr fun ρ => by simp only [execOp, hop]
theorem One.strcut_lM (hA : A = real) (hT : TabOk P tab) {t : TypeId} {j : TI} {x y : Operand} {b : ByteArray} {k : IntKind} {l : Int} (h : opAt ops i s = some (.slice t x (some y) none none)) (ht : tiAt tab t = some j) (hk : j.k = .string) (hx : s.ev x = .ic (.lit (.string b))) (hy : s.ev y = .ic (.lit (.int k l)))
    (h0 : 0 ≤ l) (h1 : l ≤ (b.size : Int)) : One r P ops i s (.ic (.lit (.string (hid A (cutS b l b.size))))) s.st := by
  rw [hid_eq hA]
  obtain ⟨rfl, h3⟩ := tiAt_ok hT ht
  exact .does h rfl fun o hop => (does_strcut t x b (some y) none l.toNat (b.size : Int).toNat hk hx (by omega) (by omega) ⟨k, by rw [Int.toNat_of_nonneg h0]; exact hy⟩ (by simp)).congr fun ρ => by simp only [execOp, hop]
theorem One.strcut_hM (hA : A = real) (hT : TabOk P tab) {t : TypeId} {j : TI} {x z : Operand} {b : ByteArray} {k : IntKind} {n : Int} (h : opAt ops i s = some (.slice t x none (some z) none)) (ht : tiAt tab t = some j) (hk : j.k = .string) (hx : s.ev x = .ic (.lit (.string b))) (hz : s.ev z = .ic (.lit (.int k n)))
    (h0 : 0 ≤ n) (h1 : n ≤ (b.size : Int)) : One r P ops i s (.ic (.lit (.string (hid A (cutS b 0 n))))) s.st := by
  rw [hid_eq hA]
  obtain ⟨rfl, h3⟩ := tiAt_ok hT ht
  exact .does h rfl fun o hop => (does_strcut t x b none (some z) (0 : Int).toNat n.toNat hk hx (by omega) (by omega) (by simp) ⟨k, by rw [Int.toNat_of_nonneg h0]; exact hz⟩).congr fun ρ => by simp only [execOp, hop]
end strcut
end Go.Proofs.YtklecijcpkolfaaDoor.Aw

/- The abstract walk, part 42: an argument that is a text, read from the row's data. -/
set_option linter.unusedVariables false
namespace Go.Proofs.YtklecijcpkolfaaDoor.Aw
open Go Go.RowKit Go.ChangeShapes Go.WideShapes
theorem open_str {H : Type} {enc : TypeId × Value → H} {P : Program} {w : World} {base : Nat} {sp : Nat → Bool} {held : Bool} {r : Reach} {b0 : Nat} {t : TypeId} {v : Value} {d : DataW H} {ps : List MemPlace} (ht : P.underlying t = some .string) (hval : Value.okWide P w r b0 t v) (hd : DataW.Trod enc P w base sp held t v d ps) :
    ∃ s : ByteArray, v = .string s ∧ d = .lit (.string s.data.toList) ∧ ps = [] ∧ s.size ≤ maxLen := by
  obtain ⟨s, rfl⟩ := okWide_string ht hval
  obtain ⟨fuel, hf⟩ := hd
  obtain ⟨s', h, hx, hw⟩ := DataW.trod_string ht hf
  simp [Value.cells] at h
  subst h
  simp only [Prod.mk.injEq] at hx
  exact ⟨s, rfl, hx.1, hx.2, hw⟩
theorem shut_str {H : Type} {enc : TypeId × Value → H} {P : Program} {w : World} {base : Nat} {sp : Nat → Bool} {held : Bool} {t : TypeId} {s : ByteArray} (ht : P.underlying t = some .string) (hw : s.size ≤ maxLen) : DataW.Trod enc P w base sp held t (.string s) (.lit (.string s.data.toList)) [] :=
  ⟨1, by simp [DataW.trod, Value.cells, ht, hw]⟩
theorem str_size {H : Type} {P : Program} {t : TypeId} {s : ByteArray} (hw : ((DataW.lit (.string s.data.toList) : DataW H).weights P t).all (· ≤ reachBytes) = true) : s.size ≤ 140737488351232 := by
  simp only [DataW.weights, List.all_cons, List.all_nil, Bool.and_true, decide_eq_true_eq] at hw
  have : s.data.toList.length = s.size := by rw [Array.length_toList]; rfl
  rw [this] at hw
  exact hw
end Go.Proofs.YtklecijcpkolfaaDoor.Aw

/- The abstract walk, part 43: short names for the tactics that close what is beside a step. Printed by inst.py. -/
set_option linter.unusedVariables false
namespace Go.Proofs.YtklecijcpkolfaaDoor.Aw
open Go Go.RowKit
theorem Zd {p : Prop} (h : p := by (((try simp only [zn]) <;> (try simp (disch := omega) only [zz hA, zb, zy, reduceCtorEq, Bool.false_eq_true, Int.reduceLT, Int.reduceLE, Int.reduceNeg]) <;> (try simp only [zw])) <;> omega)) : p := h
theorem Zc {p : Prop} (h : p := by conv => lhs; cbv) : p := h
theorem Zk {p : Prop} (h : p := by repeat' (first | exact subE.nil | refine subE.cons rfl ?_)) : p := h
theorem Z1 {p : Prop} (h : p := by first | exact One.elemM hA tabOk rfl rfl rfl rfl Zd Zd | exact One.elemOwnM hA tabOk rfl rfl rfl rfl rfl Zd Zd) : p := h
theorem Z2 {p : Prop} (h : p := by first | exact One.clipM tabOk rfl rfl rfl rfl rfl Zd Zd | exact One.cut_hM hA tabOk rfl rfl rfl rfl Zd Zd | exact One.cut_lM hA tabOk rfl rfl rfl rfl Zd Zd | exact One.cut_lhM hA tabOk rfl rfl rfl rfl rfl Zd Zd Zd) : p := h
theorem Z3 {p : Prop} (h : p := by first | exact One.quoM hA rfl rfl rfl Zd) : p := h
theorem Z4 {p : Prop} (h : p := by first | exact One.remM hA rfl rfl rfl Zd) : p := h
theorem Z7 {p : Prop} (h : p := by first | exact One.concatM hA rfl rfl rfl Zd) : p := h
theorem Z8 {p : Prop} (h : p := by first | exact One.eqBoolM hA tabOk rfl rfl rfl rfl rfl) : p := h
theorem Z9 {p : Prop} (h : p := by first | exact One.neBoolM hA tabOk rfl rfl rfl rfl rfl) : p := h
theorem Z10 {p : Prop} (h : p := by first | exact One.lenOwnM hA tabOk rfl rfl rfl rfl) : p := h
theorem Z11 {p : Prop} (h : p := by first | exact One.appendM hA tabOk _ rfl rfl rfl rfl rfl rfl Zd Zd | exact One.appendMM hA tabOk rfl rfl rfl rfl rfl Zd Zd | exact One.appendOwnM hA tabOk _ rfl rfl rfl rfl rfl rfl rfl Zd Zd | exact One.appendOwnMM hA tabOk rfl rfl rfl rfl rfl rfl Zd Zd | exact One.appendOwn0 hA tabOk rfl rfl rfl rfl rfl rfl Zd Zd) : p := h
theorem Z13 {p : Prop} (h : p := by first | exact One.byteM hA tabOk rfl rfl rfl rfl rfl Zd Zd) : p := h
theorem Z14 {p : Prop} (h : p := by first | exact One.loadRatM hA tabOk rfl rfl rfl rfl rfl rfl Zd) : p := h
theorem Z15 {p : Prop} (h : p := by first | exact One.storeRatM hA tabOk _ rfl rfl rfl rfl rfl rfl rfl rfl (fun _ => rfl) Zd) : p := h
theorem Z17 {p : Prop} (h : p := by first | exact One.build0 tabOk rfl rfl) : p := h
theorem Z18 {p : Prop} (h : p := by first | exact One.fieldRat tabOk rfl rfl rfl rfl (by decide) rfl rfl) : p := h
theorem ZX {p : Prop} (h : p := by first | exact One.elemM hA tabOk rfl rfl rfl rfl Zd Zd | exact One.elemOwnM hA tabOk rfl rfl rfl rfl rfl Zd Zd | exact One.cut_hM hA tabOk rfl rfl rfl rfl Zd Zd | exact One.cut_lM hA tabOk rfl rfl rfl rfl Zd Zd | exact One.cut_lhM hA tabOk rfl rfl rfl rfl rfl Zd Zd Zd | exact One.byteM hA tabOk rfl rfl rfl rfl rfl Zd Zd | exact One.quoM hA rfl rfl rfl Zd | exact One.remM hA rfl rfl rfl Zd | exact One.lenOwnM hA tabOk rfl rfl rfl rfl | exact One.loadRatM hA tabOk rfl rfl rfl rfl rfl rfl Zd | exact One.concatM hA rfl rfl rfl Zd) : p := h
theorem Ze {p : Prop} (h : p := by first | (exfalso; omega) | (refine rPV_then Zc ?_; rfl) | (refine rPV_then Zc ?_; refine congrArg (fun b => PV.c (IC.lit (Value.bool b))) ?_; ((try simp only [zn]) <;> (try simp (disch := omega) only [zz hA, zb, zy, reduceCtorEq, Bool.false_eq_true, Int.reduceLT, Int.reduceLE, Int.reduceNeg]) <;> (try simp only [zw])); done) | (refine rPV_then Zc ?_; refine congrArg (fun b => PV.c (IC.lit (Value.bool b))) ?_; ((try simp only [zn]) <;> (try simp (disch := omega) only [zz hA, zb, zy, reduceCtorEq, Bool.false_eq_true, Int.reduceLT, Int.reduceLE, Int.reduceNeg]) <;> (try simp only [zw])); omega)) : p := h
end Go.Proofs.YtklecijcpkolfaaDoor.Aw


/- The abstract walk, part 44: an empty literal slice that nobody writes, as mere data. -/
set_option linter.unusedVariables false
set_option linter.unusedSimpArgs false
namespace Go.Proofs.YtklecijcpkolfaaDoor.Aw
open Go Go.RowKit
end Go.Proofs.YtklecijcpkolfaaDoor.Aw
