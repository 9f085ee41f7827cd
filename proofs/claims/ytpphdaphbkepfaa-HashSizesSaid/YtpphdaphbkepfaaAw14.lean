/- The abstract walk, part 14: single operations with conditions; regions that draw their order, by computation. -/
import Derived.Test.YtpphdaphbkepfaaAw13
set_option linter.unusedVariables false
set_option linter.unusedSimpArgs false
namespace Go.Proofs.Ytpphdaphbkepfaa.Aw
open Go Go.RowKit

/-- Operation i, from s: it leaves x and the store st'. -/
def One (r : Option Nat) (P : Program) (ops : Array Oper) (i : Nat) (s : St) (x : AV) (st' : List AObj) : Prop :=
  ∀ (rest : List Nat) (Q : St → Prop), AOL r P ops rest (putS s (dstOf ops i) x st') Q → AOL r P ops (i :: rest) s Q

/-- The operation, if it is carried out. -/
def opAt (ops : Array Oper) (i : Nat) (s : St) : Option Op := match ops[i]? with
  | some o => match gd ops s o.guard with
    | some true => bif dstOk s o.dst then some o.op else none
    | _ => none
  | none => none

theorem opAt_some {ops : Array Oper} {i : Nat} {s : St} {op : Op} (h : opAt ops i s = some op) : ∃ o, ops[i]? = some o ∧ gd ops s o.guard = some true ∧ dstOk s o.dst = true ∧ o.op = op ∧ dstOf ops i = o.dst := by
  unfold opAt at h
  split at h
  · rename_i o ho
    split at h
    · rename_i hg
      cases hd : dstOk s o.dst with
      | false => rw [hd] at h; simp at h
      | true =>
        rw [hd] at h
        refine ⟨o, ho, hg, hd, by simpa using h, by simp [dstOf, ho]⟩
    · simp at h
  · simp at h

section one
variable {r : Option Nat} {P : Program} {ops : Array Oper} {i : Nat} {s : St} {tab : List TI}

theorem One.does {op : Op} {x : AV} {st' : List AObj} (h : opAt ops i s = some op) (hn : notDefer op = true) (hD : ∀ o : Oper, o.op = op → Does P s (fun ρ => execOp ρ o) x st') : One r P ops i s x st' := fun rest Q k => by
  obtain ⟨o, ho, hg, hd, hop, he⟩ := opAt_some h
  rw [he] at k
  exact AOL.step ho hg hd (by rw [hop]; exact hn) (hD o hop) k

def slT (tab : List TI) (t : TypeId) : Option (TypeId × TI) := match tab[t]? with
  | some i => match i.k with
    | .slice e => match tab[e]? with
      | some j => bif i.there then some (e, j) else none
      | none => none
    | _ => none
  | none => none
theorem slT_ok (hT : TabOk P tab) {t e : TypeId} {j : TI} (h : slT tab t = some (e, j)) : (tyi P t).there = true ∧ (tyi P t).k = .slice e ∧ j = tyi P e := by
  unfold slT at h
  split at h
  · rename_i i hi
    have := hT t i hi
    subst this
    split at h
    · rename_i e' hk
      split at h
      · rename_i j' hj
        have := hT e' j' hj
        subst this
        cases hb : (tyi P t).there with
        | false => rw [hb] at h; simp at h
        | true =>
          rw [hb] at h
          simp only [cond_true, Option.some.injEq, Prod.mk.injEq] at h
          obtain ⟨rfl, rfl⟩ := h
          exact ⟨rfl, hk, rfl⟩
      · simp at h
    · simp at h
  · simp at h
def tiAt (tab : List TI) (t : TypeId) : Option TI := match tab[t]? with
  | some i => bif i.there then some i else none
  | none => none
theorem tiAt_ok (hT : TabOk P tab) {t : TypeId} {i : TI} (h : tiAt tab t = some i) : i = tyi P t ∧ i.there = true := by
  unfold tiAt at h
  split at h
  · rename_i j hj
    have := hT t j hj
    cases hb : j.there with
    | false => rw [hb] at h; simp at h
    | true =>
      rw [hb] at h
      simp only [cond_true, Option.some.injEq] at h
      subst h
      exact ⟨this, hb⟩
  · simp at h

theorem One.elem (hT : TabOk P tab) {t e : TypeId} {j : TI} {x y : Operand} {ex : Bool} {xs : List (List IC)} {k : IntKind} {n : Int} {row : List IC} (h : opAt ops i s = some (.indexAddr t x y)) (ht : slT tab t = some (e, j))
    (hx : s.ev x = .ic (.sl j.size ex xs)) (hy : s.ev y = .ic (.lit (.int k n))) (h0 : 0 ≤ n) (hr : xs[n.toNat]? = some row) : One r P ops i s (.at row) s.st := by
  obtain ⟨h1, h2, rfl⟩ := slT_ok hT ht
  exact .does h rfl fun o hop => (does_elem t e x y _ ex xs k n row h1 h2 rfl hx hy h0 hr).congr fun ρ => by simp only [execOp, hop]

theorem One.elemOwn (hT : TabOk P tab) {t e : TypeId} {j : TI} {x y : Operand} {q ver : Nat} {m : Bool} {xs : List (List IC)} {k : IntKind} {n : Int} (h : opAt ops i s = some (.indexAddr t x y)) (ht : slT tab t = some (e, j))
    (hx : s.ev x = .own q ver) (hs : s.st[q]? = some (.row m ver e j.size xs)) (hy : s.ev y = .ic (.lit (.int k n))) (h0 : 0 ≤ n) (hr : n < (xs.length : Int)) : One r P ops i s (.rat q ver n.toNat 0) s.st := by
  obtain ⟨h1, h2, rfl⟩ := slT_ok hT ht
  exact .does h rfl fun o hop => (does_elemOwn t e x y q ver m _ xs k n h1 h2 rfl hx hs hy h0 hr).congr fun ρ => by simp only [execOp, hop]

theorem One.cut_h (hT : TabOk P tab) {t e : TypeId} {j : TI} {x z : Operand} {ex : Bool} {xs : List (List IC)} {k : IntKind} {n : Int} (h : opAt ops i s = some (.slice t x none (some z) none)) (ht : slT tab t = some (e, j))
    (hx : s.ev x = .ic (.sl j.size ex xs)) (hz : s.ev z = .ic (.lit (.int k n))) (h0 : 0 ≤ n) (h1 : n ≤ (xs.length : Int)) : One r P ops i s (.ic (.sl j.size false (xs.take n.toNat))) s.st := by
  obtain ⟨g1, g2, rfl⟩ := slT_ok hT ht
  exact .does h rfl fun o hop => (does_cut_h t e x _ ex xs g1 g2 rfl hx hz h0 h1).congr fun ρ => by simp only [execOp, hop]
theorem One.cut_l (hT : TabOk P tab) {t e : TypeId} {j : TI} {x y : Operand} {ex : Bool} {xs : List (List IC)} {k : IntKind} {n : Int} (h : opAt ops i s = some (.slice t x (some y) none none)) (ht : slT tab t = some (e, j))
    (hx : s.ev x = .ic (.sl j.size ex xs)) (hy : s.ev y = .ic (.lit (.int k n))) (h0 : 0 ≤ n) (h1 : n ≤ (xs.length : Int)) : One r P ops i s (.ic (.sl j.size false (xs.drop n.toNat))) s.st := by
  obtain ⟨g1, g2, rfl⟩ := slT_ok hT ht
  exact .does h rfl fun o hop => (does_cut_l t e x _ ex xs g1 g2 rfl hx hy h0 h1).congr fun ρ => by simp only [execOp, hop]
theorem One.cut_lh (hT : TabOk P tab) {t e : TypeId} {j : TI} {x y z : Operand} {ex : Bool} {xs : List (List IC)} {k k' : IntKind} {l n : Int} (h : opAt ops i s = some (.slice t x (some y) (some z) none)) (ht : slT tab t = some (e, j))
    (hx : s.ev x = .ic (.sl j.size ex xs)) (hy : s.ev y = .ic (.lit (.int k l))) (hz : s.ev z = .ic (.lit (.int k' n))) (h0 : 0 ≤ l) (h1 : l ≤ n) (h2 : n ≤ (xs.length : Int)) : One r P ops i s (.ic (.sl j.size false ((xs.take n.toNat).drop l.toNat))) s.st := by
  obtain ⟨g1, g2, rfl⟩ := slT_ok hT ht
  exact .does h rfl fun o hop => (does_cut_lh t e x _ ex xs g1 g2 rfl hx hy hz h0 h1 h2).congr fun ρ => by simp only [execOp, hop]
theorem One.clip (hT : TabOk P tab) {t e : TypeId} {j : TI} {x y z : Operand} {ex : Bool} {xs : List (List IC)} {k k' : IntKind} {l n : Int} (h : opAt ops i s = some (.slice t x none (some y) (some z))) (ht : slT tab t = some (e, j))
    (hx : s.ev x = .ic (.sl j.size ex xs)) (hy : s.ev y = .ic (.lit (.int k l))) (hz : s.ev z = .ic (.lit (.int k' n))) (hl : l = (xs.length : Int)) (hn : n = (xs.length : Int)) : One r P ops i s (.ic (.sl j.size true xs)) s.st := by
  obtain ⟨g1, g2, rfl⟩ := slT_ok hT ht
  subst hl hn
  exact .does h rfl fun o hop => (does_clip t e x _ ex xs g1 g2 rfl hx hy hz).congr fun ρ => by simp only [execOp, hop]

theorem One.append (hT : TabOk P tab) {t e : TypeId} {j : TI} {x y : Operand} {ex : Bool} {sz' : Nat} {xs ys : List (List IC)} (h : opAt ops i s = some (.call { callee := .builtin .append, args := #[x, y], argTypes := #[t, t] })) (ht : slT tab t = some (e, j))
    (hj : j.zero.isSome = true) (hx : s.ev x = .ic (.sl sz' true xs)) (hs' : sz' = j.size ∨ xs = []) (hy : s.ev y = .ic (.sl j.size ex ys)) (hn : (xs.length + ys.length) * j.bytes ≤ 140737488355328) (hm : xs.length + ys.length ≤ maxLen) :
    One r P ops i s (.ic (.sl j.size false (xs ++ ys))) s.st := by
  obtain ⟨g1, g2, rfl⟩ := slT_ok hT ht
  exact .does h rfl fun o hop => (does_appendX t o.type e x y _ sz' ex xs ys g1 g2 rfl hj hx hs' hy hn hm).congr fun ρ => by simp only [execOp, hop, bcall, call1]
theorem One.appendOwn (hT : TabOk P tab) {t e : TypeId} {j : TI} {x y : Operand} {ex : Bool} {q ver : Nat} {xs ys : List (List IC)} (h : opAt ops i s = some (.call { callee := .builtin .append, args := #[x, y], argTypes := #[t, t] })) (ht : slT tab t = some (e, j))
    (hj : (Nat.blt 0 j.size && (j.zero.map (·.length) == some j.size)) = true) (hx : s.ev x = .own q ver) (hs : s.st[q]? = some (.row true ver e j.size xs)) (hy : s.ev y = .ic (.sl j.size ex ys)) (hn : (xs.length + ys.length) * j.bytes ≤ 140737488355328) (hm : xs.length + ys.length ≤ maxLen) :
    One r P ops i s (.own q (ver + 1)) (s.st.set q (.row true (ver + 1) e j.size (xs ++ ys))) := by
  obtain ⟨g1, g2, rfl⟩ := slT_ok hT ht
  simp only [Bool.and_eq_true, beq_iff_eq] at hj
  exact .does h rfl fun o hop => (does_appendOwn t o.type e x y q ver _ ex xs ys g1 g2 rfl hj.1 hj.2 hx hs hy hn hm).congr fun ρ => by simp only [execOp, hop, bcall, call1]
theorem One.takeOwn (hT : TabOk P tab) {t e : TypeId} {j : TI} {x z : Operand} {q ver : Nat} {xs : List (List IC)} {k : IntKind} {n : Int} (h : opAt ops i s = some (.slice t x none (some z) none)) (ht : slT tab t = some (e, j))
    (hx : s.ev x = .own q ver) (hs : s.st[q]? = some (.row true ver e j.size xs)) (hz : s.ev z = .ic (.lit (.int k n))) (h0 : 0 ≤ n) (h1 : n ≤ (xs.length : Int)) : One r P ops i s (.own q (ver + 1)) (s.st.set q (.row true (ver + 1) e j.size (xs.take n.toNat))) := by
  obtain ⟨g1, g2, rfl⟩ := slT_ok hT ht
  exact .does h rfl fun o hop => (does_takeOwn t e x z q ver _ xs k n g1 g2 rfl hx hs hz h0 h1).congr fun ρ => by simp only [execOp, hop]
theorem One.make (hT : TabOk P tab) {t e : TypeId} {j : TI} {x y : Operand} {z : List Value} {k k' : IntKind} {n : Int} (h : opAt ops i s = some (.makeSlice t x y)) (ht : slT tab t = some (e, j)) (hz : j.zero = some z) (hj : (Nat.beq z.length j.size && z.all (·.oneCell')) = true)
    (hx : s.ev x = .ic (.lit (.int k n))) (hy : s.ev y = .ic (.lit (.int k' n))) (h0 : 0 ≤ n) (hb : j.bytes * n.toNat ≤ 281474976710656) (hm : n.toNat ≤ maxLen) : One r P ops i s (.own s.st.length 0) (s.st ++ [.row true 0 e j.size (List.replicate n.toNat (z.map zIC))]) := by
  obtain ⟨g1, g2, rfl⟩ := slT_ok hT ht
  simp only [Bool.and_eq_true] at hj
  exact .does h rfl fun o hop => (does_make t e x y _ z k k' n g1 g2 rfl hz hj.1 hj.2 hx hy h0 hb hm).congr fun ρ => by simp only [execOp, hop]
theorem One.copyOwn (hT : TabOk P tab) {t t2 e : TypeId} {j : TI} {x y : Operand} {ex : Bool} {q ver : Nat} {xs ys : List (List IC)} (h : opAt ops i s = some (.call { callee := .builtin .copy, args := #[x, y], argTypes := #[t, t2] })) (ht : slT tab t = some (e, j)) (hj : j.size = 1)
    (hx : s.ev x = .own q ver) (hs : s.st[q]? = some (.row true ver e 1 xs)) (hy : s.ev y = .ic (.sl 1 ex ys)) (hl : ys.length = xs.length) : One r P ops i s (.ic (.lit (.int .i64 (xs.length : Int)))) (s.st.set q (.row true ver e 1 ys)) := by
  obtain ⟨g1, g2, rfl⟩ := slT_ok hT ht
  exact .does h rfl fun o hop => (does_copyOwn t t2 o.type e x y q ver ex xs ys g1 g2 hj hx hs hy hl).congr fun ρ => by simp only [execOp, hop, bcall, call1]
theorem One.lenOwn (hT : TabOk P tab) {t e e' : TypeId} {j : TI} {x : Operand} {q ver sz : Nat} {m : Bool} {xs : List (List IC)} (h : opAt ops i s = some (.call { callee := .builtin .len, args := #[x], argTypes := #[t] })) (ht : slT tab t = some (e, j)) (hx : s.ev x = .own q ver)
    (hs : s.st[q]? = some (.row m ver e' sz xs)) {n : Int} (hn : (xs.length : Int) = n) : One r P ops i s (.ic (.lit (.int .i64 n))) s.st := by
  obtain ⟨g1, g2, rfl⟩ := slT_ok hT ht
  subst hn
  exact .does h rfl fun o hop => (does_lenOwn t o.type e x q ver m e' sz xs g2 hx hs).congr fun ρ => by simp only [execOp, hop, bcall, call1]
theorem One.fieldRat (hT : TabOk P tab) {t : TypeId} {j : TI} {x : Operand} {f : Nat} {fs : List (Nat × Nat × Bool)} {off n : Nat} {ag m : Bool} {q ver row o e sz : Nat} {xs : List (List IC)} (h : opAt ops i s = some (.fieldAddr t x f)) (ht : tiAt tab t = some j) (hk : j.k = .struct fs) (hf : fs[f]? = some (off, n, ag)) (hn : n ≠ 0)
    (hx : s.ev x = .rat q ver row o) (hs : s.st[q]? = some (.row m ver e sz xs)) : One r P ops i s (.rat q ver row (o + off)) s.st := by
  obtain ⟨rfl, hth⟩ := tiAt_ok hT ht
  exact .does h rfl fun o' hop => (does_fieldRat t x f fs off n ag q ver row o m e sz xs hth hk hf hn hx hs).congr fun ρ => by simp only [execOp, hop]
theorem One.loadRat (hT : TabOk P tab) {t : TypeId} {j : TI} {x : Operand} {q ver n o e sz : Nat} {m : Bool} {xs : List (List IC)} {row : List IC} {v : AV} (h : opAt ops i s = some (.load t x)) (ht : tiAt tab t = some j) (hx : s.ev x = .rat q ver n o) (hs : s.st[q]? = some (.row m ver e sz xs))
    (hrow : xs[n]? = some row) (hr : bif j.agg then Nat.ble (o + j.size) row.length = true ∧ v = .agg (((row.drop o).take j.size).map .ic) else row[o]?.map AV.ic = some v) : One r P ops i s v s.st := by
  obtain ⟨rfl, hth⟩ := tiAt_ok hT ht
  exact .does h rfl fun o' hop => (does_loadRat t x q ver n o e sz m xs row v hth hx hs hrow hr).congr fun ρ => by simp only [execOp, hop]
theorem One.storeRat (hT : TabOk P tab) {t : TypeId} {j : TI} {x y : Operand} {q ver n o e sz : Nat} {xs : List (List IC)} {row : List IC} {ys : List AV} {yc : List IC} (h : opAt ops i s = some (.store t x y)) (ht : tiAt tab t = some j) (hx : s.ev x = .rat q ver n o)
    (hs : s.st[q]? = some (.row true ver e sz xs)) (hrow : xs[n]? = some row) (hy : cellsOk (s.ev y) = some ys) (hyc : allIC ys = some yc) (hl : Nat.beq yc.length j.size = true) (ho : o + yc.length ≤ row.length) :
    One r P ops i s .any (s.st.set q (.row true ver e sz (xs.set n (row.take o ++ yc ++ row.drop (o + yc.length))))) := by
  obtain ⟨rfl, hth⟩ := tiAt_ok hT ht
  exact .does h rfl fun o' hop => (does_storeRat t x y q ver n o e sz xs row ys yc hth hx hs hrow hy hyc hl ho).congr fun ρ => by simp only [execOp, hop]

theorem One.quo {t t' : TypeId} {x y : Operand} {k : IntKind} {a b : Int} (h : opAt ops i s = some (.binOp .quo t x y t')) (hx : s.ev x = .ic (.lit (.int k a))) (hy : s.ev y = .ic (.lit (.int k b))) (hb : b ≠ 0) : One r P ops i s (.ic (.lit (.int k (k.wrap (a.tdiv b))))) s.st :=
  .does h rfl fun o hop => (does_quo t x y k a b hx hy hb).congr fun ρ => by simp only [execOp, hop]
theorem One.rem {t t' : TypeId} {x y : Operand} {k : IntKind} {a b : Int} (h : opAt ops i s = some (.binOp .rem t x y t')) (hx : s.ev x = .ic (.lit (.int k a))) (hy : s.ev y = .ic (.lit (.int k b))) (hb : b ≠ 0) : One r P ops i s (.ic (.lit (.int k (a.tmod b)))) s.st :=
  .does h rfl fun o hop => (does_rem t x y k a b hx hy hb).congr fun ρ => by simp only [execOp, hop]
theorem One.eqBool (hT : TabOk P tab) {t t' : TypeId} {j : TI} {x y : Operand} {a b : Bool} (h : opAt ops i s = some (.binOp .eql t x y t')) (ht : tiAt tab t = some j) (hk : j.k = .bool) (hx : s.ev x = .ic (.lit (.bool a))) (hy : s.ev y = .ic (.lit (.bool b))) : One r P ops i s (.ic (.lit (.bool (a == b)))) s.st := by
  obtain ⟨rfl, hth⟩ := tiAt_ok hT ht
  exact .does h rfl fun o hop => (does_eqBool t x y a b hk hx hy).congr fun ρ => by simp only [execOp, hop]
theorem One.neBool (hT : TabOk P tab) {t t' : TypeId} {j : TI} {x y : Operand} {a b : Bool} (h : opAt ops i s = some (.binOp .neq t x y t')) (ht : tiAt tab t = some j) (hk : j.k = .bool) (hx : s.ev x = .ic (.lit (.bool a))) (hy : s.ev y = .ic (.lit (.bool b))) : One r P ops i s (.ic (.lit (.bool (!(a == b))))) s.st := by
  obtain ⟨rfl, hth⟩ := tiAt_ok hT ht
  exact .does h rfl fun o hop => (does_neBool t x y a b hk hx hy).congr fun ρ => by simp only [execOp, hop]
theorem One.concat {t t' : TypeId} {x y : Operand} {a b : ByteArray} (h : opAt ops i s = some (.binOp .add t x y t')) (hx : s.ev x = .ic (.lit (.string a))) (hy : s.ev y = .ic (.lit (.string b))) (hb : a.size + b.size ≤ 9223372036854775807) : One r P ops i s (.ic (.lit (.string (a ++ b)))) s.st :=
  .does h rfl fun o hop => (does_concat t x y a b hx hy hb).congr fun ρ => by simp only [execOp, hop]
theorem One.byte (hT : TabOk P tab) {t : TypeId} {j : TI} {x y : Operand} {b : ByteArray} {k : IntKind} {n : Int} (h : opAt ops i s = some (.index t x y)) (ht : tiAt tab t = some j) (hk : j.k = .string) (hx : s.ev x = .ic (.lit (.string b))) (hy : s.ev y = .ic (.lit (.int k n))) (h0 : 0 ≤ n) (h1 : n < (b.size : Int)) :
    One r P ops i s (.ic (.lit (.int .u8 (sb b n)))) s.st := by
  obtain ⟨rfl, hth⟩ := tiAt_ok hT ht
  exact .does h rfl fun o hop => (does_byte t x y b k n hk hx hy h0 h1).congr fun ρ => by simp only [execOp, hop]

/-- A call whose contract needs no store. -/
theorem One.call {x : Operand} {args : Array Operand} {ts : Array TypeId} {f : FuncId} {first cap : List AV} {pvs : List PV} {y : PV} (own : Bool) (h : opAt ops i s = some (.call { callee := .value x, args := args, argTypes := ts })) (hf : s.ev x = .fn (.func f) first cap)
    (hx : toPVs own s.st (first ++ args.toList.map s.ev ++ cap) = some pvs) (hc : PureCalls P f pvs y) (hn : (!own || noSl y) = true) : One r P ops i s y.av s.st := fun rest Q k => by
  obtain ⟨o, ho, hg, hd, hop, he⟩ := opAt_some h
  rw [he] at k
  exact AOL.pcall own ho hop hg hd hf hx hc hn k
/-- A call in the store. -/
theorem AOL.scall {rest : List Nat} {Q : St → Prop} {x : Operand} {args : Array Operand} {ts : Array TypeId} {f : FuncId} {first cap : List AV} {R : AV → List AObj → Prop} (h : opAt ops i s = some (.call { callee := .value x, args := args, argTypes := ts })) (hf : s.ev x = .fn (.func f) first cap)
    (hc : ACalls P f (first ++ args.toList.map s.ev ++ cap) s.st R) (k : ∀ y st', R y st' → AOL r P ops rest (putS s (dstOf ops i) y st') Q) : AOL r P ops (i :: rest) s Q := by
  obtain ⟨o, ho, hg, hd, hop, he⟩ := opAt_some h
  rw [he] at k
  exact AOL.acall ho hop hg hd hf hc k
end one

/-! ### quiet operations in any order -/
/-- The operation's own looks, at s. -/
def lookS (ops : Array Oper) (i : Nat) (s : St) : St := match ops[i]? with
  | some o => restr s (o.looksAt ops)
  | none => s

/-- The operations of the list leave the store as it is; in order they lead to a state with Q. -/
def QS (P : Program) (ops : Array Oper) : List Nat → St → (St → Prop) → Prop
  | [], s, Q => Q s
  | i :: rest, s, Q => ∃ d x, dstOf ops i = some d ∧ One none P ops i (lookS ops i s) x s.st ∧ QS P ops rest ⟨s.nt, (d, x) :: s.env, s.st⟩ Q

theorem QS.one {P : Program} {ops : Array Oper} {i : Nat} {rest : List Nat} {s : St} {Q : St → Prop} {d : Nat} {x : AV} (hd : dstOf ops i = some d) (h : One none P ops i (lookS ops i s) x s.st) (k : QS P ops rest ⟨s.nt, (d, x) :: s.env, s.st⟩ Q) : QS P ops (i :: rest) s Q := ⟨d, x, hd, h, k⟩

theorem lookS_st (ops : Array Oper) (i : Nat) (s : St) : (lookS ops i s).st = s.st := by unfold lookS; split <;> rfl

/-- Operations that change no store. -/
def stillOp : Op → Bool
  | .alloc _ => false
  | .box _ _ => false
  | .store _ _ _ => false
  | _ => true
theorem ev1_still {A : Ar} {tab : List TI} {s : St} {op : Op} {x : AV} {st' : List AObj} (h : ev1 A tab s op = some (x, st')) (hs : stillOp op = true) : st' = s.st := by
  cases op with
  | alloc t => simp [stillOp] at hs
  | box t y => simp [stillOp] at hs
  | store t y z => simp [stillOp] at hs
  | unOp op t y =>
    cases op <;> simp only [ev1] at h <;> (try split at h) <;> simp_all
  | call c =>
    simp only [ev1, evLen] at h
    repeat' split at h
    all_goals first
      | (simp only [Option.some.injEq, Prod.mk.injEq] at h; exact h.2.symm)
      | (simp at h; done)
      | (simp only [cond] at h; split at h <;> simp_all)
  | _ =>
    simp only [ev1] at h
    repeat' split at h
    all_goals first
      | (simp only [Option.some.injEq, Prod.mk.injEq] at h; exact h.2.symm)
      | (simp at h; done)
      | (simp only [cond] at h; repeat' split at h
         all_goals first | (simp at h; done) | (simp only [Option.some.injEq, Prod.mk.injEq] at h; exact h.2.symm))

/-- On through quiet operations as far as they go. -/
def qadv (A : Ar) (tab : List TI) (ops : Array Oper) : List Nat → St → List Nat × St
  | [], s => ([], s)
  | i :: rest, s => match ops[i]? with
    | some o => match o.dst with
      | some d => match gd ops (lookS ops i s) o.guard with
        | some true => match ev1 A tab (lookS ops i s) o.op with
          | some (x, _) => bif stillOp o.op && dstOk (lookS ops i s) o.dst then qadv A tab ops rest ⟨s.nt, (d, x) :: s.env, s.st⟩ else (i :: rest, s)
          | none => (i :: rest, s)
        | some false => bif dstOk (lookS ops i s) o.dst then qadv A tab ops rest ⟨s.nt, (d, .tup []) :: s.env, s.st⟩ else (i :: rest, s)
        | none => (i :: rest, s)
      | none => (i :: rest, s)
    | none => (i :: rest, s)

theorem QS.adv {P : Program} {A : Ar} {tab : List TI} (hA : A = real) (hT : TabOk P tab) {ops : Array Oper} {Q : St → Prop} : ∀ (l : List Nat) (s : St), QS P ops (qadv A tab ops l s).1 (qadv A tab ops l s).2 Q → QS P ops l s Q
  | [], s, h => h
  | i :: rest, s, h => by
    simp only [qadv] at h
    cases ho : ops[i]? with
    | none => simp only [ho] at h; exact h
    | some o =>
      simp only [ho] at h
      cases hd : o.dst with
      | none => simp only [hd] at h; exact h
      | some d =>
        simp only [hd] at h
        have hdo : dstOf ops i = some d := by simp [dstOf, ho, hd]
        cases hg : gd ops (lookS ops i s) o.guard with
        | none => simp only [hg] at h; exact h
        | some b =>
          cases b with
          | true =>
            simp only [hg] at h
            cases he : ev1 A tab (lookS ops i s) o.op with
            | none => simp only [he] at h; exact h
            | some p =>
              obtain ⟨x, st'⟩ := p
              simp only [he] at h
              cases hc : (stillOp o.op && dstOk (lookS ops i s) (some d)) with
              | false => rw [hc] at h; exact h
              | true =>
                rw [hc] at h
                simp only [cond_true] at h
                simp only [Bool.and_eq_true] at hc
                have hst := ev1_still he hc.1
                rw [lookS_st] at hst
                subst hst
                refine ⟨d, x, hdo, fun rest' Q' k => ?_, QS.adv hA hT rest _ h⟩
                refine AOL.step ho hg (by rw [hd]; exact hc.2) (ev1_nd he) (ev1_mem hA hT he) ?_
                rw [hdo, ← hd] at k
                exact k
          | false =>
            simp only [hg] at h
            cases hc : dstOk (lookS ops i s) (some d) with
            | false => rw [hc] at h; exact h
            | true =>
              rw [hc] at h
              simp only [cond_true] at h
              refine ⟨d, .tup [], hdo, fun rest' Q' k => ?_, QS.adv hA hT rest _ h⟩
              refine AOL.skip ho hg (by rw [hd]; exact hc) ?_
              rw [hdo, ← lookS_st ops i s, ← hd] at k
              exact k

theorem QS.to {P : Program} {A : Ar} {tab : List TI} (hA : A = real) (hT : TabOk P tab) {ops : Array Oper} {Q : St → Prop} {l l' : List Nat} {s s' : St} (h : qadv A tab ops l s = (l', s')) (k : QS P ops l' s' Q) : QS P ops l s Q :=
  QS.adv hA hT l s (by rw [h]; exact k)

theorem look_cons_ne {k t : Nat} {x : AV} {env : List (Nat × AV)} (h : k ≠ t) : look ((k, x) :: env) t = look env t := by
  have : Nat.beq k t = false := by
    cases hb : Nat.beq k t with
    | false => rfl
    | true => exact absurd (Nat.eq_of_beq_eq_true hb) h
  simp [look, this]
theorem look_cons_eq {k : Nat} {x : AV} {env : List (Nat × AV)} : look ((k, x) :: env) k = x := by simp [look, Nat.beq_refl]
theorem restr_congr {T s : St} {ts : List Nat} (hn : T.nt = s.nt) (hs : T.st = s.st) (h : ∀ t ∈ ts, T.get t = s.get t) : restr T ts = restr s ts := by
  unfold restr
  rw [hn, hs]
  congr 1
  exact List.map_congr_left fun t ht => by rw [h t ht]

/-- What a run of quiet operations is, put together. -/
theorem QS.collect {P : Program} {ops : Array Oper} {q : Nat} (hq : q ≤ ops.size) (hD : ∀ i o, i < q → ops[i]? = some o → ∃ d, o.dst = some d ∧ ∀ j, j < ops.size → dstOf ops j = some d → j = i)
    (hL : ∀ i o, i < q → ops[i]? = some o → ∀ t ∈ o.looksAt ops, ∀ j, j < ops.size → dstOf ops j = some t → j < i) {Q : St → Prop} :
    ∀ (n k : Nat) (s : St), k + n = q → QS P ops ((List.range n).map (k + ·)) s Q → ∃ env, Q ⟨s.nt, env ++ s.env, s.st⟩ ∧ (∀ p ∈ env, ∃ i, k ≤ i ∧ i < q ∧ dstOf ops i = some p.1) ∧
      (∀ t, (∀ j, k ≤ j → j < q → dstOf ops j ≠ some t) → look (env ++ s.env) t = s.get t) ∧
      ∀ i o d, k ≤ i → i < q → ops[i]? = some o → o.dst = some d → ∃ x, look (env ++ s.env) d = x ∧ One none P ops i (restr ⟨s.nt, env ++ s.env, s.st⟩ (o.looksAt ops)) x s.st
  | 0, k, s, hk, h => ⟨[], h, by simp, fun t _ => rfl, fun i o d h1 h2 => by omega⟩
  | n + 1, k, s, hk, h => by
    rw [List.range_succ_eq_map, List.map_cons, List.map_map] at h
    simp only [QS, Nat.add_zero] at h
    obtain ⟨d, x, hd, hone, hrest⟩ := h
    have hrest' : QS P ops ((List.range n).map (k + 1 + ·)) ⟨s.nt, (d, x) :: s.env, s.st⟩ Q := by
      have : (List.range n).map ((fun x => k + x) ∘ Nat.succ) = (List.range n).map (k + 1 + ·) := List.map_congr_left fun j _ => by simp; omega
      rw [this] at hrest
      exact hrest
    obtain ⟨env, hQ, he, hl, ho⟩ := QS.collect hq hD hL n (k + 1) _ (by omega) hrest'
    refine ⟨env ++ [(d, x)], by simpa using hQ, fun p hp => ?_, fun t ht => ?_, fun i o d' h1 h2 hoi hdi => ?_⟩
    · rcases List.mem_append.1 hp with hp | hp
      · obtain ⟨i, a, b, c⟩ := he p hp
        exact ⟨i, by omega, b, c⟩
      · obtain rfl := List.mem_singleton.1 hp
        exact ⟨k, Nat.le_refl _, by omega, hd⟩
    · have := hl t fun j hj1 hj2 => ht j (by omega) hj2
      simp only [List.append_assoc, List.singleton_append]
      rw [this]
      exact look_cons_ne fun e => ht k (Nat.le_refl _) (by omega) (by rw [hd, e])
    · simp only [List.append_assoc, List.singleton_append]
      by_cases e : i = k
      · subst e
        obtain ⟨d2, hd2, huniq⟩ := hD i o h2 hoi
        have hdo : dstOf ops i = some d2 := by simp [dstOf, hoi, hd2]
        rw [hd] at hdo
        obtain rfl := Option.some.inj hdo
        rw [hdi] at hd2
        obtain rfl := Option.some.inj hd2
        have hsame : look (env ++ (d', x) :: s.env) d' = x := by
          rw [hl d' fun j hj1 hj2 hjd => by have := huniq j (by omega) hjd; omega]
          exact look_cons_eq
        refine ⟨x, hsame, ?_⟩
        have hre : restr ⟨s.nt, env ++ (d', x) :: s.env, s.st⟩ (o.looksAt ops) = lookS ops i s := by
          unfold lookS
          rw [hoi]
          refine restr_congr rfl rfl fun t ht => ?_
          have hlt := hL i o h2 hoi t ht
          show look (env ++ (d', x) :: s.env) t = _
          rw [hl t fun j hj1 hj2 hjd => by have := hlt j (by omega) hjd; omega]
          refine look_cons_ne fun e => ?_
          subst e
          have := hlt i (by omega) hd
          omega
        rw [hre]
        exact hone
      · exact ho i o d' (by omega) h2 hoi hdi

/-- A region that draws its order: its first q operations are quiet, the others stand behind all. -/
theorem AWp.drawQ {P : Program} {ops : Array Oper} {id : Nat} {s : St} {Q : Exit → St → Prop} (q : Nat) (hm : P.follows .mixedOrders = true) (hb : drawB ops q = true)
    (h : QS P ops (List.range q) s fun T => AOL none P ops ((List.range (ops.size - q)).map (q + ·)) T (Q .normal)) : AWp none P (.region id ops true) s Q := by
  have hb' := hb
  simp only [drawB, Bool.and_eq_true, List.all_eq_true, List.mem_range] at hb
  obtain ⟨hq, hb⟩ := hb
  have hq := Nat.le_of_ble_eq_true hq
  have hquiet : ∀ i o, i < q → ops[i]? = some o → (∀ e ∈ o.after, bindsE e = true → e.on < i) ∧ (match o.dst with | some d => (List.range ops.size).all (fun j => Nat.beq i j || !(dstOf ops j == some d)) | none => false) = true ∧
      (o.looksAt ops).all (fun t => (List.range ops.size).all (fun j => !(dstOf ops j == some t) || (Nat.blt j q && o.after.any (fun e => bindsE e && Nat.beq e.on j)))) = true := fun i o hi ho => by
    have := hb i (Array.getElem?_eq_some_iff.1 ho).1
    simp only [ho, Bool.and_eq_true, Array.all_eq_true_iff_forall_mem] at this
    have h2 := this.2
    have hf : Nat.blt i q = true := Nat.ble_eq_true_of_le hi
    rw [hf] at h2
    simp only [cond_true, Bool.and_eq_true] at h2
    refine ⟨fun e hem hbe => ?_, h2⟩
    have := this.1 e hem
    rw [hbe] at this
    simp only [Bool.not_true, Bool.false_or] at this
    exact Nat.le_of_ble_eq_true this
  have hD : ∀ i o, i < q → ops[i]? = some o → ∃ d, o.dst = some d ∧ ∀ j, j < ops.size → dstOf ops j = some d → j = i := fun i o hi ho => by
    have h1 := (hquiet i o hi ho).2.1
    cases hd : o.dst with
    | none => simp [hd] at h1
    | some d =>
      refine ⟨d, rfl, fun j hj hjd => ?_⟩
      simp only [hd, List.all_eq_true, List.mem_range] at h1
      have := h1 j hj
      simp only [hjd, beq_self_eq_true, Bool.not_true, Bool.or_false] at this
      exact (Nat.eq_of_beq_eq_true this).symm
  have hL : ∀ i o, i < q → ops[i]? = some o → ∀ t ∈ o.looksAt ops, ∀ j, j < ops.size → dstOf ops j = some t → j < i := fun i o hi ho t ht j hj hjt => by
    obtain ⟨h1, _, h2⟩ := hquiet i o hi ho
    simp only [List.all_eq_true, List.mem_range] at h2
    have := h2 t ht j hj
    simp only [hjt, beq_self_eq_true, Bool.not_true, Bool.false_or, Bool.and_eq_true, Array.any_eq_true] at this
    obtain ⟨_, x, hx, e1, e2⟩ := this
    have := h1 _ (Array.getElem_mem hx) e1
    rw [Nat.eq_of_beq_eq_true e2] at this
    exact this
  have h' : QS P ops ((List.range q).map (0 + ·)) s fun T => AOL none P ops ((List.range (ops.size - q)).map (q + ·)) T (Q .normal) := by
    have : (List.range q).map (0 + ·) = List.range q := by
      have : (List.range q).map (fun x => 0 + x) = (List.range q).map (fun x => x) := List.map_congr_left fun x _ => Nat.zero_add x
      rw [this, List.map_id']
    rw [this]
    exact h
  obtain ⟨env, hQ, he, hl, ho⟩ := QS.collect hq hD hL q 0 s (by omega) h'
  refine AWp.draw q env hm hb' (fun p hp => let ⟨i, _, b, c⟩ := he p hp; ⟨i, b, c⟩) (fun i o d hi hoi hdi => ?_) hQ
  obtain ⟨x, hx, hone⟩ := ho i o d (Nat.zero_le _) hi hoi hdi
  have hdo : dstOf ops i = some d := by simp [dstOf, hoi, hdi]
  refine hone [] _ (AOL.nil ?_)
  rw [hdo]
  exact ⟨by show look ((d, x) :: _) d = _; rw [look_cons_eq, hx], rfl, rfl⟩

end Go.Proofs.Ytpphdaphbkepfaa.Aw
