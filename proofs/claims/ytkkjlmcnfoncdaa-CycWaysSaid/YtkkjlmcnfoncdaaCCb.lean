/- Texts of the proof, put together: the abstract walk, contracts of the functions that the statement reaches, plain laws, part 2 of 5. -/
import Derived.Test.YtkkjlmcnfoncdaaCCa
import Derived.IntWalk
import Derived.Laws.StructEq
import Derived.ChangeKeysEq
import Derived.ChangeArms
import Derived.SizedLaws
import Derived.DataReads
import Derived.WideShapes
import Derived.ChangeMaps5
import Derived.Laws.Cover3
import Derived.Test.YtkkjlmcnfoncdaaProg
import Derived.KernelRfl
import Derived.MapKept
set_option linter.unusedVariables false
set_option linter.unusedSimpArgs false
set_option linter.unusedSectionVars false
namespace Go.Proofs.Ytkkjlmcnfoncdaa.Aw
open Go Go.RowKit
def One (r : Option Nat) (P : Program) (ops : Array Oper) (i : Nat) (s : St) (x : AV) (st' : List AObj) : Prop :=
  ∀ (rest : List Nat) (Q : St → Prop), AOL r P ops rest (putS s (dstOf ops i) x st') Q → AOL r P ops (i :: rest) s Q
def opAt (ops : Array Oper) (i : Nat) (s : St) : Option Op := match ops[i]? with
  | some o => match gd ops s o.guard with
    | some true => bif dstOk s o.dst then some o.op else none
    | _ => none
  | none => none
theorem opAt_some {ops : Array Oper} {i : Nat} {s : St} {op : Op} (h : opAt ops i s = some op) : ∃ o, ops[i]? = some o ∧ gd ops s o.guard = some true ∧ dstOk s o.dst = true ∧ o.op = op ∧ dstOf ops i = o.dst := by
  unfold opAt at h
  split at h
  · rename_i o ho
    split at h
    · rename_i hg
      cases hd : dstOk s o.dst with
      | false => rw [hd] at h; simp at h
      | true =>
        rw [hd] at h
        refine ⟨o, ho, hg, hd, by simpa using h, by simp [dstOf, ho]⟩
    · simp at h
  · simp at h
section one
variable {r : Option Nat} {P : Program} {ops : Array Oper} {i : Nat} {s : St} {tab : List TI}
theorem One.does {op : Op} {x : AV} {st' : List AObj} (h : opAt ops i s = some op) (hn : notDefer op = true) (hD : ∀ o : Oper, o.op = op → Does P s (fun ρ => execOp ρ o) x st') : One r P ops i s x st' := fun rest Q k => by
  obtain ⟨o, ho, hg, hd, hop, he⟩ := opAt_some h
  rw [he] at k
  exact AOL.step ho hg hd (by rw [hop]; exact hn) (hD o hop) k
def slT (tab : List TI) (t : TypeId) : Option (TypeId × TI) := match tab[t]? with
  | some i => match i.k with
    | .slice e => match tab[e]? with
      | some j => bif i.there then some (e, j) else none
      | none => none
    | _ => none
  | none => none
theorem slT_ok (hT : TabOk P tab) {t e : TypeId} {j : TI} (h : slT tab t = some (e, j)) : (tyi P t).there = true ∧ (tyi P t).k = .slice e ∧ j = tyi P e := by
  unfold slT at h
  split at h
  · rename_i i hi
    have := hT t i hi
    subst this
    split at h
    · rename_i e' hk
      split at h
      · rename_i j' hj
        have := hT e' j' hj
        subst this
        cases hb : (tyi P t).there with
        | false => rw [hb] at h; simp at h
        | true =>
          rw [hb] at h
          simp only [cond_true, Option.some.injEq, Prod.mk.injEq] at h
          obtain ⟨rfl, rfl⟩ := h
          exact ⟨rfl, hk, rfl⟩
      · simp at h
    · simp at h
  · simp at h
def tiAt (tab : List TI) (t : TypeId) : Option TI := match tab[t]? with
  | some i => bif i.there then some i else none
  | none => none
theorem tiAt_ok (hT : TabOk P tab) {t : TypeId} {i : TI} (h : tiAt tab t = some i) : i = tyi P t ∧ i.there = true := by
  unfold tiAt at h
  split at h
  · rename_i j hj
    have := hT t j hj
    cases hb : j.there with
    | false => rw [hb] at h; simp at h
    | true =>
      rw [hb] at h
      simp only [cond_true, Option.some.injEq] at h
      subst h
      exact ⟨this, hb⟩
  · simp at h
theorem One.elem (hT : TabOk P tab) {t e : TypeId} {j : TI} {x y : Operand} {ex : Bool} {xs : List (List IC)} {k : IntKind} {n : Int} {row : List IC} (h : opAt ops i s = some (.indexAddr t x y)) (ht : slT tab t = some (e, j))
    (hx : s.ev x = .ic (.sl j.size ex xs)) (hy : s.ev y = .ic (.lit (.int k n))) (h0 : 0 ≤ n) (hr : xs[n.toNat]? = some row) : One r P ops i s (.at row) s.st := by
  obtain ⟨h1, h2, rfl⟩ := slT_ok hT ht
  exact .does h rfl fun o hop => (does_elem t e x y _ ex xs k n row h1 h2 rfl hx hy h0 hr).congr fun ρ => by simp only [execOp, hop]
theorem One.elemOwn (hT : TabOk P tab) {t e : TypeId} {j : TI} {x y : Operand} {q ver : Nat} {m : Bool} {xs : List (List IC)} {k : IntKind} {n : Int} (h : opAt ops i s = some (.indexAddr t x y)) (ht : slT tab t = some (e, j))
    (hx : s.ev x = .own q ver) (hs : s.st[q]? = some (.row m ver e j.size xs)) (hy : s.ev y = .ic (.lit (.int k n))) (h0 : 0 ≤ n) (hr : n < (xs.length : Int)) : One r P ops i s (.rat q ver n.toNat 0) s.st := by
  obtain ⟨h1, h2, rfl⟩ := slT_ok hT ht
  exact .does h rfl fun o hop => (does_elemOwn t e x y q ver m _ xs k n h1 h2 rfl hx hs hy h0 hr).congr fun ρ => by simp only [execOp, hop]
theorem One.cut_h (hT : TabOk P tab) {t e : TypeId} {j : TI} {x z : Operand} {ex : Bool} {xs : List (List IC)} {k : IntKind} {n : Int} (h : opAt ops i s = some (.slice t x none (some z) none)) (ht : slT tab t = some (e, j))
    (hx : s.ev x = .ic (.sl j.size ex xs)) (hz : s.ev z = .ic (.lit (.int k n))) (h0 : 0 ≤ n) (h1 : n ≤ (xs.length : Int)) : One r P ops i s (.ic (.sl j.size false (xs.take n.toNat))) s.st := by
  obtain ⟨g1, g2, rfl⟩ := slT_ok hT ht
  exact .does h rfl fun o hop => (does_cut_h t e x _ ex xs g1 g2 rfl hx hz h0 h1).congr fun ρ => by simp only [execOp, hop]
theorem One.cut_l (hT : TabOk P tab) {t e : TypeId} {j : TI} {x y : Operand} {ex : Bool} {xs : List (List IC)} {k : IntKind} {n : Int} (h : opAt ops i s = some (.slice t x (some y) none none)) (ht : slT tab t = some (e, j))
    (hx : s.ev x = .ic (.sl j.size ex xs)) (hy : s.ev y = .ic (.lit (.int k n))) (h0 : 0 ≤ n) (h1 : n ≤ (xs.length : Int)) : One r P ops i s (.ic (.sl j.size false (xs.drop n.toNat))) s.st := by
  obtain ⟨g1, g2, rfl⟩ := slT_ok hT ht
  exact .does h rfl fun o hop => (does_cut_l t e x _ ex xs g1 g2 rfl hx hy h0 h1).congr fun ρ => by simp only [execOp, hop]
theorem One.cut_lh (hT : TabOk P tab) {t e : TypeId} {j : TI} {x y z : Operand} {ex : Bool} {xs : List (List IC)} {k k' : IntKind} {l n : Int} (h : opAt ops i s = some (.slice t x (some y) (some z) none)) (ht : slT tab t = some (e, j))
    (hx : s.ev x = .ic (.sl j.size ex xs)) (hy : s.ev y = .ic (.lit (.int k l))) (hz : s.ev z = .ic (.lit (.int k' n))) (h0 : 0 ≤ l) (h1 : l ≤ n) (h2 : n ≤ (xs.length : Int)) : One r P ops i s (.ic (.sl j.size false ((xs.take n.toNat).drop l.toNat))) s.st := by
  obtain ⟨g1, g2, rfl⟩ := slT_ok hT ht
  exact .does h rfl fun o hop => (does_cut_lh t e x _ ex xs g1 g2 rfl hx hy hz h0 h1 h2).congr fun ρ => by simp only [execOp, hop]
theorem One.clip (hT : TabOk P tab) {t e : TypeId} {j : TI} {x y z : Operand} {ex : Bool} {xs : List (List IC)} {k k' : IntKind} {l n : Int} (h : opAt ops i s = some (.slice t x none (some y) (some z))) (ht : slT tab t = some (e, j))
    (hx : s.ev x = .ic (.sl j.size ex xs)) (hy : s.ev y = .ic (.lit (.int k l))) (hz : s.ev z = .ic (.lit (.int k' n))) (hl : l = (xs.length : Int)) (hn : n = (xs.length : Int)) : One r P ops i s (.ic (.sl j.size true xs)) s.st := by
  obtain ⟨g1, g2, rfl⟩ := slT_ok hT ht
  subst hl hn
  exact .does h rfl fun o hop => (does_clip t e x _ ex xs g1 g2 rfl hx hy hz).congr fun ρ => by simp only [execOp, hop]
theorem One.append (hT : TabOk P tab) {t e : TypeId} {j : TI} {x y : Operand} {ex : Bool} {sz' : Nat} {xs ys : List (List IC)} (h : opAt ops i s = some (.call { callee := .builtin .append, args := #[x, y], argTypes := #[t, t] })) (ht : slT tab t = some (e, j))
    (hj : j.zero.isSome = true) (hx : s.ev x = .ic (.sl sz' true xs)) (hs' : sz' = j.size ∨ xs = []) (hy : s.ev y = .ic (.sl j.size ex ys)) (hn : (xs.length + ys.length) * j.bytes ≤ 140737488355328) (hm : xs.length + ys.length ≤ maxLen) :
    One r P ops i s (.ic (.sl j.size false (xs ++ ys))) s.st := by
  obtain ⟨g1, g2, rfl⟩ := slT_ok hT ht
  exact .does h rfl fun o hop => (does_appendX t o.type e x y _ sz' ex xs ys g1 g2 rfl hj hx hs' hy hn hm).congr fun ρ => by simp only [execOp, hop, bcall, call1]
theorem One.appendOwn (hT : TabOk P tab) {t e : TypeId} {j : TI} {x y : Operand} {ex : Bool} {q ver : Nat} {xs ys : List (List IC)} (h : opAt ops i s = some (.call { callee := .builtin .append, args := #[x, y], argTypes := #[t, t] })) (ht : slT tab t = some (e, j))
    (hj : (Nat.blt 0 j.size && (j.zero.map (·.length) == some j.size)) = true) (hx : s.ev x = .own q ver) (hs : s.st[q]? = some (.row true ver e j.size xs)) (hy : s.ev y = .ic (.sl j.size ex ys)) (hn : (xs.length + ys.length) * j.bytes ≤ 140737488355328) (hm : xs.length + ys.length ≤ maxLen) :
    One r P ops i s (.own q (ver + 1)) (s.st.set q (.row true (ver + 1) e j.size (xs ++ ys))) := by
  obtain ⟨g1, g2, rfl⟩ := slT_ok hT ht
  simp only [Bool.and_eq_true, beq_iff_eq] at hj
  exact .does h rfl fun o hop => (does_appendOwn t o.type e x y q ver _ ex xs ys g1 g2 rfl hj.1 hj.2 hx hs hy hn hm).congr fun ρ => by simp only [execOp, hop, bcall, call1]
theorem One.takeOwn (hT : TabOk P tab) {t e : TypeId} {j : TI} {x z : Operand} {q ver : Nat} {xs : List (List IC)} {k : IntKind} {n : Int} (h : opAt ops i s = some (.slice t x none (some z) none)) (ht : slT tab t = some (e, j))
    (hx : s.ev x = .own q ver) (hs : s.st[q]? = some (.row true ver e j.size xs)) (hz : s.ev z = .ic (.lit (.int k n))) (h0 : 0 ≤ n) (h1 : n ≤ (xs.length : Int)) : One r P ops i s (.own q (ver + 1)) (s.st.set q (.row true (ver + 1) e j.size (xs.take n.toNat))) := by
  obtain ⟨g1, g2, rfl⟩ := slT_ok hT ht
  exact .does h rfl fun o hop => (does_takeOwn t e x z q ver _ xs k n g1 g2 rfl hx hs hz h0 h1).congr fun ρ => by simp only [execOp, hop]
theorem One.make (hT : TabOk P tab) {t e : TypeId} {j : TI} {x y : Operand} {z : List Value} {k k' : IntKind} {n : Int} (h : opAt ops i s = some (.makeSlice t x y)) (ht : slT tab t = some (e, j)) (hz : j.zero = some z) (hj : (Nat.beq z.length j.size && z.all (·.oneCell')) = true)
    (hx : s.ev x = .ic (.lit (.int k n))) (hy : s.ev y = .ic (.lit (.int k' n))) (h0 : 0 ≤ n) (hb : j.bytes * n.toNat ≤ 281474976710656) (hm : n.toNat ≤ maxLen) : One r P ops i s (.own s.st.length 0) (s.st ++ [.row true 0 e j.size (List.replicate n.toNat (z.map zIC))]) := by
  obtain ⟨g1, g2, rfl⟩ := slT_ok hT ht
  simp only [Bool.and_eq_true] at hj
  exact .does h rfl fun o hop => (does_make t e x y _ z k k' n g1 g2 rfl hz hj.1 hj.2 hx hy h0 hb hm).congr fun ρ => by simp only [execOp, hop]
theorem One.lenOwn (hT : TabOk P tab) {t e e' : TypeId} {j : TI} {x : Operand} {q ver sz : Nat} {m : Bool} {xs : List (List IC)} (h : opAt ops i s = some (.call { callee := .builtin .len, args := #[x], argTypes := #[t] })) (ht : slT tab t = some (e, j)) (hx : s.ev x = .own q ver)
    (hs : s.st[q]? = some (.row m ver e' sz xs)) {n : Int} (hn : (xs.length : Int) = n) : One r P ops i s (.ic (.lit (.int .i64 n))) s.st := by
  obtain ⟨g1, g2, rfl⟩ := slT_ok hT ht
  subst hn
  exact .does h rfl fun o hop => (does_lenOwn t o.type e x q ver m e' sz xs g2 hx hs).congr fun ρ => by simp only [execOp, hop, bcall, call1]
theorem One.fieldRat (hT : TabOk P tab) {t : TypeId} {j : TI} {x : Operand} {f : Nat} {fs : List (Nat × Nat × Bool)} {off n : Nat} {ag m : Bool} {q ver row o e sz : Nat} {xs : List (List IC)} (h : opAt ops i s = some (.fieldAddr t x f)) (ht : tiAt tab t = some j) (hk : j.k = .struct fs) (hf : fs[f]? = some (off, n, ag)) (hn : n ≠ 0)
    (hx : s.ev x = .rat q ver row o) (hs : s.st[q]? = some (.row m ver e sz xs)) : One r P ops i s (.rat q ver row (o + off)) s.st := by
  obtain ⟨rfl, hth⟩ := tiAt_ok hT ht
  exact .does h rfl fun o' hop => (does_fieldRat t x f fs off n ag q ver row o m e sz xs hth hk hf hn hx hs).congr fun ρ => by simp only [execOp, hop]
theorem One.loadRat (hT : TabOk P tab) {t : TypeId} {j : TI} {x : Operand} {q ver n o e sz : Nat} {m : Bool} {xs : List (List IC)} {row : List IC} {v : AV} (h : opAt ops i s = some (.load t x)) (ht : tiAt tab t = some j) (hx : s.ev x = .rat q ver n o) (hs : s.st[q]? = some (.row m ver e sz xs))
    (hrow : xs[n]? = some row) (hr : bif j.agg then Nat.ble (o + j.size) row.length = true ∧ v = .agg (((row.drop o).take j.size).map .ic) else row[o]?.map AV.ic = some v) : One r P ops i s v s.st := by
  obtain ⟨rfl, hth⟩ := tiAt_ok hT ht
  exact .does h rfl fun o' hop => (does_loadRat t x q ver n o e sz m xs row v hth hx hs hrow hr).congr fun ρ => by simp only [execOp, hop]
theorem One.storeRat (hT : TabOk P tab) {t : TypeId} {j : TI} {x y : Operand} {q ver n o e sz : Nat} {xs : List (List IC)} {row : List IC} {ys : List AV} {yc : List IC} (h : opAt ops i s = some (.store t x y)) (ht : tiAt tab t = some j) (hx : s.ev x = .rat q ver n o)
    (hs : s.st[q]? = some (.row true ver e sz xs)) (hrow : xs[n]? = some row) (hy : cellsOk (s.ev y) = some ys) (hyc : allIC ys = some yc) (hl : Nat.beq yc.length j.size = true) (ho : o + yc.length ≤ row.length) :
    One r P ops i s .any (s.st.set q (.row true ver e sz (xs.set n (row.take o ++ yc ++ row.drop (o + yc.length))))) := by
  obtain ⟨rfl, hth⟩ := tiAt_ok hT ht
  exact .does h rfl fun o' hop => (does_storeRat t x y q ver n o e sz xs row ys yc hth hx hs hrow hy hyc hl ho).congr fun ρ => by simp only [execOp, hop]
theorem One.quo {t t' : TypeId} {x y : Operand} {k : IntKind} {a b : Int} (h : opAt ops i s = some (.binOp .quo t x y t')) (hx : s.ev x = .ic (.lit (.int k a))) (hy : s.ev y = .ic (.lit (.int k b))) (hb : b ≠ 0) : One r P ops i s (.ic (.lit (.int k (k.wrap (a.tdiv b))))) s.st :=
  .does h rfl fun o hop => (does_quo t x y k a b hx hy hb).congr fun ρ => by simp only [execOp, hop]
theorem One.rem {t t' : TypeId} {x y : Operand} {k : IntKind} {a b : Int} (h : opAt ops i s = some (.binOp .rem t x y t')) (hx : s.ev x = .ic (.lit (.int k a))) (hy : s.ev y = .ic (.lit (.int k b))) (hb : b ≠ 0) : One r P ops i s (.ic (.lit (.int k (a.tmod b)))) s.st :=
  .does h rfl fun o hop => (does_rem t x y k a b hx hy hb).congr fun ρ => by simp only [execOp, hop]
theorem One.eqBool (hT : TabOk P tab) {t t' : TypeId} {j : TI} {x y : Operand} {a b : Bool} (h : opAt ops i s = some (.binOp .eql t x y t')) (ht : tiAt tab t = some j) (hk : j.k = .bool) (hx : s.ev x = .ic (.lit (.bool a))) (hy : s.ev y = .ic (.lit (.bool b))) : One r P ops i s (.ic (.lit (.bool (a == b)))) s.st := by
  obtain ⟨rfl, hth⟩ := tiAt_ok hT ht
  exact .does h rfl fun o hop => (does_eqBool t x y a b hk hx hy).congr fun ρ => by simp only [execOp, hop]
theorem One.neBool (hT : TabOk P tab) {t t' : TypeId} {j : TI} {x y : Operand} {a b : Bool} (h : opAt ops i s = some (.binOp .neq t x y t')) (ht : tiAt tab t = some j) (hk : j.k = .bool) (hx : s.ev x = .ic (.lit (.bool a))) (hy : s.ev y = .ic (.lit (.bool b))) : One r P ops i s (.ic (.lit (.bool (!(a == b))))) s.st := by
  obtain ⟨rfl, hth⟩ := tiAt_ok hT ht
  exact .does h rfl fun o hop => (does_neBool t x y a b hk hx hy).congr fun ρ => by simp only [execOp, hop]
theorem One.concat {t t' : TypeId} {x y : Operand} {a b : ByteArray} (h : opAt ops i s = some (.binOp .add t x y t')) (hx : s.ev x = .ic (.lit (.string a))) (hy : s.ev y = .ic (.lit (.string b))) (hb : a.size + b.size ≤ 9223372036854775807) : One r P ops i s (.ic (.lit (.string (a ++ b)))) s.st :=
  .does h rfl fun o hop => (does_concat t x y a b hx hy hb).congr fun ρ => by simp only [execOp, hop]
theorem One.byte (hT : TabOk P tab) {t : TypeId} {j : TI} {x y : Operand} {b : ByteArray} {k : IntKind} {n : Int} (h : opAt ops i s = some (.index t x y)) (ht : tiAt tab t = some j) (hk : j.k = .string) (hx : s.ev x = .ic (.lit (.string b))) (hy : s.ev y = .ic (.lit (.int k n))) (h0 : 0 ≤ n) (h1 : n < (b.size : Int)) :
    One r P ops i s (.ic (.lit (.int .u8 (sb b n)))) s.st := by
  obtain ⟨rfl, hth⟩ := tiAt_ok hT ht
  exact .does h rfl fun o hop => (does_byte t x y b k n hk hx hy h0 h1).congr fun ρ => by simp only [execOp, hop]
theorem One.call {x : Operand} {args : Array Operand} {ts : Array TypeId} {f : FuncId} {first cap : List AV} {pvs : List PV} {y : PV} (own : Bool) (h : opAt ops i s = some (.call { callee := .value x, args := args, argTypes := ts })) (hf : s.ev x = .fn (.func f) first cap)
    (hx : toPVs own s.st (first ++ args.toList.map s.ev ++ cap) = some pvs) (hc : PureCalls P f pvs y) (hn : (!own || noSl y) = true) : One r P ops i s y.av s.st := fun rest Q k => by
  obtain ⟨o, ho, hg, hd, hop, he⟩ := opAt_some h
  rw [he] at k
  exact AOL.pcall own ho hop hg hd hf hx hc hn k
theorem AOL.scall {rest : List Nat} {Q : St → Prop} {x : Operand} {args : Array Operand} {ts : Array TypeId} {f : FuncId} {first cap : List AV} {R : AV → List AObj → Prop} (h : opAt ops i s = some (.call { callee := .value x, args := args, argTypes := ts })) (hf : s.ev x = .fn (.func f) first cap)
    (hc : ACalls P f (first ++ args.toList.map s.ev ++ cap) s.st R) (k : ∀ y st', R y st' → AOL r P ops rest (putS s (dstOf ops i) y st') Q) : AOL r P ops (i :: rest) s Q := by
  obtain ⟨o, ho, hg, hd, hop, he⟩ := opAt_some h
  rw [he] at k
  exact AOL.acall ho hop hg hd hf hc k
end one
def lookS (ops : Array Oper) (i : Nat) (s : St) : St := match ops[i]? with
  | some o => restr s (o.looksAt ops)
  | none => s
def QS (P : Program) (ops : Array Oper) : List Nat → St → (St → Prop) → Prop
  | [], s, Q => Q s
  | i :: rest, s, Q => ∃ d x, dstOf ops i = some d ∧ One none P ops i (lookS ops i s) x s.st ∧ QS P ops rest ⟨s.nt, (d, x) :: s.env, s.st⟩ Q
theorem QS.one {P : Program} {ops : Array Oper} {i : Nat} {rest : List Nat} {s : St} {Q : St → Prop} {d : Nat} {x : AV} (hd : dstOf ops i = some d) (h : One none P ops i (lookS ops i s) x s.st) (k : QS P ops rest ⟨s.nt, (d, x) :: s.env, s.st⟩ Q) : QS P ops (i :: rest) s Q := ⟨d, x, hd, h, k⟩
theorem lookS_st (ops : Array Oper) (i : Nat) (s : St) : (lookS ops i s).st = s.st := by unfold lookS; split <;> rfl
def stillOp : Op → Bool
  | .alloc _ => false
  | .box _ _ => false
  | .store _ _ _ => false
  | _ => true
theorem ev1_still {A : Ar} {tab : List TI} {s : St} {op : Op} {x : AV} {st' : List AObj} (h : ev1 A tab s op = some (x, st')) (hs : stillOp op = true) : st' = s.st := by
  cases op with
  | alloc t => simp [stillOp] at hs
  | box t y => simp [stillOp] at hs
  | store t y z => simp [stillOp] at hs
  | unOp op t y =>
    cases op <;> simp only [ev1] at h <;> (try split at h) <;> simp_all
  | call c =>
    simp only [ev1, evLen] at h
    repeat' split at h
    all_goals first
      | (simp only [Option.some.injEq, Prod.mk.injEq] at h; exact h.2.symm)
      | (simp at h; done)
      | (simp only [cond] at h; split at h <;> simp_all)
  | _ =>
    simp only [ev1] at h
    repeat' split at h
    all_goals first
      | (simp only [Option.some.injEq, Prod.mk.injEq] at h; exact h.2.symm)
      | (simp at h; done)
      | (simp only [cond] at h; repeat' split at h
         all_goals first | (simp at h; done) | (simp only [Option.some.injEq, Prod.mk.injEq] at h; exact h.2.symm))
def qadv (A : Ar) (tab : List TI) (ops : Array Oper) : List Nat → St → List Nat × St
  | [], s => ([], s)
  | i :: rest, s => match ops[i]? with
    | some o => match o.dst with
      | some d => match gd ops (lookS ops i s) o.guard with
        | some true => match ev1 A tab (lookS ops i s) o.op with
          | some (x, _) => bif stillOp o.op && dstOk (lookS ops i s) o.dst then qadv A tab ops rest ⟨s.nt, (d, x) :: s.env, s.st⟩ else (i :: rest, s)
          | none => (i :: rest, s)
        | some false => bif dstOk (lookS ops i s) o.dst then qadv A tab ops rest ⟨s.nt, (d, .tup []) :: s.env, s.st⟩ else (i :: rest, s)
        | none => (i :: rest, s)
      | none => (i :: rest, s)
    | none => (i :: rest, s)
theorem QS.adv {P : Program} {A : Ar} {tab : List TI} (hA : A = real) (hT : TabOk P tab) {ops : Array Oper} {Q : St → Prop} : ∀ (l : List Nat) (s : St), QS P ops (qadv A tab ops l s).1 (qadv A tab ops l s).2 Q → QS P ops l s Q
  | [], s, h => h
  | i :: rest, s, h => by
    simp only [qadv] at h
    cases ho : ops[i]? with
    | none => simp only [ho] at h; exact h
    | some o =>
      simp only [ho] at h
      cases hd : o.dst with
      | none => simp only [hd] at h; exact h
      | some d =>
        simp only [hd] at h
        have hdo : dstOf ops i = some d := by simp [dstOf, ho, hd]
        cases hg : gd ops (lookS ops i s) o.guard with
        | none => simp only [hg] at h; exact h
        | some b =>
          cases b with
          | true =>
            simp only [hg] at h
            cases he : ev1 A tab (lookS ops i s) o.op with
            | none => simp only [he] at h; exact h
            | some p =>
              obtain ⟨x, st'⟩ := p
              simp only [he] at h
              cases hc : (stillOp o.op && dstOk (lookS ops i s) (some d)) with
              | false => rw [hc] at h; exact h
              | true =>
                rw [hc] at h
                simp only [cond_true] at h
                simp only [Bool.and_eq_true] at hc
                have hst := ev1_still he hc.1
                rw [lookS_st] at hst
                subst hst
                refine ⟨d, x, hdo, fun rest' Q' k => ?_, QS.adv hA hT rest _ h⟩
                refine AOL.step ho hg (by rw [hd]; exact hc.2) (ev1_nd he) (ev1_mem hA hT he) ?_
                rw [hdo, ← hd] at k
                exact k
          | false =>
            simp only [hg] at h
            cases hc : dstOk (lookS ops i s) (some d) with
            | false => rw [hc] at h; exact h
            | true =>
              rw [hc] at h
              simp only [cond_true] at h
              refine ⟨d, .tup [], hdo, fun rest' Q' k => ?_, QS.adv hA hT rest _ h⟩
              refine AOL.skip ho hg (by rw [hd]; exact hc) ?_
              rw [hdo, ← lookS_st ops i s, ← hd] at k
              exact k
theorem QS.to {P : Program} {A : Ar} {tab : List TI} (hA : A = real) (hT : TabOk P tab) {ops : Array Oper} {Q : St → Prop} {l l' : List Nat} {s s' : St} (h : qadv A tab ops l s = (l', s')) (k : QS P ops l' s' Q) : QS P ops l s Q :=
  QS.adv hA hT l s (by rw [h]; exact k)
theorem look_cons_ne {k t : Nat} {x : AV} {env : List (Nat × AV)} (h : k ≠ t) : look ((k, x) :: env) t = look env t := by
  have : Nat.beq k t = false := by
    cases hb : Nat.beq k t with
    | false => rfl
    | true => exact absurd (Nat.eq_of_beq_eq_true hb) h
  simp [look, this]
theorem look_cons_eq {k : Nat} {x : AV} {env : List (Nat × AV)} : look ((k, x) :: env) k = x := by simp [look, Nat.beq_refl]
theorem restr_congr {T s : St} {ts : List Nat} (hn : T.nt = s.nt) (hs : T.st = s.st) (h : ∀ t ∈ ts, T.get t = s.get t) : restr T ts = restr s ts := by
  unfold restr
  rw [hn, hs]
  congr 1
  exact List.map_congr_left fun t ht => by rw [h t ht]
theorem QS.collect {P : Program} {ops : Array Oper} {q : Nat} (hq : q ≤ ops.size) (hD : ∀ i o, i < q → ops[i]? = some o → ∃ d, o.dst = some d ∧ ∀ j, j < ops.size → dstOf ops j = some d → j = i)
    (hL : ∀ i o, i < q → ops[i]? = some o → ∀ t ∈ o.looksAt ops, ∀ j, j < q → dstOf ops j = some t → j < i) {Q : St → Prop} :
    ∀ (n k : Nat) (s : St), k + n = q → QS P ops ((List.range n).map (k + ·)) s Q → ∃ env, Q ⟨s.nt, env ++ s.env, s.st⟩ ∧ (∀ p ∈ env, ∃ i, k ≤ i ∧ i < q ∧ dstOf ops i = some p.1) ∧
      (∀ t, (∀ j, k ≤ j → j < q → dstOf ops j ≠ some t) → look (env ++ s.env) t = s.get t) ∧
      ∀ i o d, k ≤ i → i < q → ops[i]? = some o → o.dst = some d → ∃ x, look (env ++ s.env) d = x ∧ One none P ops i (restr ⟨s.nt, env ++ s.env, s.st⟩ (o.looksAt ops)) x s.st
  | 0, k, s, hk, h => ⟨[], h, by simp, fun t _ => rfl, fun i o d h1 h2 => by omega⟩
  | n + 1, k, s, hk, h => by
    rw [List.range_succ_eq_map, List.map_cons, List.map_map] at h
    simp only [QS, Nat.add_zero] at h
    obtain ⟨d, x, hd, hone, hrest⟩ := h
    have hrest' : QS P ops ((List.range n).map (k + 1 + ·)) ⟨s.nt, (d, x) :: s.env, s.st⟩ Q := by
      have : (List.range n).map ((fun x => k + x) ∘ Nat.succ) = (List.range n).map (k + 1 + ·) := List.map_congr_left fun j _ => by simp; omega
      rw [this] at hrest
      exact hrest
    obtain ⟨env, hQ, he, hl, ho⟩ := QS.collect hq hD hL n (k + 1) _ (by omega) hrest'
    refine ⟨env ++ [(d, x)], by simpa using hQ, fun p hp => ?_, fun t ht => ?_, fun i o d' h1 h2 hoi hdi => ?_⟩
    · rcases List.mem_append.1 hp with hp | hp
      · obtain ⟨i, a, b, c⟩ := he p hp
        exact ⟨i, by omega, b, c⟩
      · obtain rfl := List.mem_singleton.1 hp
        exact ⟨k, Nat.le_refl _, by omega, hd⟩
    · have := hl t fun j hj1 hj2 => ht j (by omega) hj2
      simp only [List.append_assoc, List.singleton_append]
      rw [this]
      exact look_cons_ne fun e => ht k (Nat.le_refl _) (by omega) (by rw [hd, e])
    · simp only [List.append_assoc, List.singleton_append]
      by_cases e : i = k
      · subst e
        obtain ⟨d2, hd2, huniq⟩ := hD i o h2 hoi
        have hdo : dstOf ops i = some d2 := by simp [dstOf, hoi, hd2]
        rw [hd] at hdo
        obtain rfl := Option.some.inj hdo
        rw [hdi] at hd2
        obtain rfl := Option.some.inj hd2
        have hsame : look (env ++ (d', x) :: s.env) d' = x := by
          rw [hl d' fun j hj1 hj2 hjd => by have := huniq j (by omega) hjd; omega]
          exact look_cons_eq
        refine ⟨x, hsame, ?_⟩
        have hre : restr ⟨s.nt, env ++ (d', x) :: s.env, s.st⟩ (o.looksAt ops) = lookS ops i s := by
          unfold lookS
          rw [hoi]
          refine restr_congr rfl rfl fun t ht => ?_
          have hlt := hL i o h2 hoi t ht
          show look (env ++ (d', x) :: s.env) t = _
          rw [hl t fun j hj1 hj2 hjd => by have := hlt j (by omega) hjd; omega]
          refine look_cons_ne fun e => ?_
          subst e
          have := hlt i (by omega) hd
          omega
        rw [hre]
        exact hone
      · exact ho i o d' (by omega) h2 hoi hdi
theorem AWp.drawQ {P : Program} {ops : Array Oper} {id : Nat} {s : St} {Q : Exit → St → Prop} (q : Nat) (hm : P.follows .mixedOrders = true) (hb : drawB ops q = true)
    (h : QS P ops (List.range q) s fun T => AOL none P ops ((List.range (ops.size - q)).map (q + ·)) T (Q .normal)) : AWp none P (.region id ops true) s Q := by
  have hb' := hb
  simp only [drawB, Bool.and_eq_true, List.all_eq_true, List.mem_range] at hb
  obtain ⟨hq, hb⟩ := hb
  have hq := Nat.le_of_ble_eq_true hq
  have hquiet : ∀ i o, i < q → ops[i]? = some o → (∀ e ∈ o.after, bindsE e = true → e.on < i) ∧ (match o.dst with | some d => (List.range ops.size).all (fun j => Nat.beq i j || !(dstOf ops j == some d)) | none => false) = true ∧
      (o.looksAt ops).all (fun t => (List.range ops.size).all (fun j => !(dstOf ops j == some t) || (Nat.ble q j || o.after.any (fun e => bindsE e && Nat.beq e.on j)))) = true := fun i o hi ho => by
    have := hb i (Array.getElem?_eq_some_iff.1 ho).1
    simp only [ho, Bool.and_eq_true, Array.all_eq_true_iff_forall_mem] at this
    have h2 := this.2
    have hf : Nat.blt i q = true := Nat.ble_eq_true_of_le hi
    rw [hf] at h2
    simp only [cond_true, Bool.and_eq_true] at h2
    refine ⟨fun e hem hbe => ?_, h2⟩
    have := this.1 e hem
    rw [hbe] at this
    simp only [Bool.not_true, Bool.false_or] at this
    exact Nat.le_of_ble_eq_true this
  have hD : ∀ i o, i < q → ops[i]? = some o → ∃ d, o.dst = some d ∧ ∀ j, j < ops.size → dstOf ops j = some d → j = i := fun i o hi ho => by
    have h1 := (hquiet i o hi ho).2.1
    cases hd : o.dst with
    | none => simp [hd] at h1
    | some d =>
      refine ⟨d, rfl, fun j hj hjd => ?_⟩
      simp only [hd, List.all_eq_true, List.mem_range] at h1
      have := h1 j hj
      simp only [hjd, beq_self_eq_true, Bool.not_true, Bool.or_false] at this
      exact (Nat.eq_of_beq_eq_true this).symm
  have hL : ∀ i o, i < q → ops[i]? = some o → ∀ t ∈ o.looksAt ops, ∀ j, j < q → dstOf ops j = some t → j < i := fun i o hi ho t ht j hj hjt => by
    obtain ⟨h1, _, h2⟩ := hquiet i o hi ho
    simp only [List.all_eq_true, List.mem_range] at h2
    have := h2 t ht j (by omega)
    have hbl : Nat.ble q j = false := by
      cases hq' : Nat.ble q j with
      | false => rfl
      | true => have := Nat.le_of_ble_eq_true hq'; omega
    simp only [hjt, hbl, beq_self_eq_true, Bool.not_true, Bool.false_or, Bool.and_eq_true, Array.any_eq_true] at this
    obtain ⟨x, hx, e1, e2⟩ := this
    have := h1 _ (Array.getElem_mem hx) e1
    rw [Nat.eq_of_beq_eq_true e2] at this
    exact this
  have h' : QS P ops ((List.range q).map (0 + ·)) s fun T => AOL none P ops ((List.range (ops.size - q)).map (q + ·)) T (Q .normal) := by
    have : (List.range q).map (0 + ·) = List.range q := by
      have : (List.range q).map (fun x => 0 + x) = (List.range q).map (fun x => x) := List.map_congr_left fun x _ => Nat.zero_add x
      rw [this, List.map_id']
    rw [this]
    exact h
  obtain ⟨env, hQ, he, hl, ho⟩ := QS.collect hq hD hL q 0 s (by omega) h'
  refine AWp.draw q env hm hb' (fun p hp => let ⟨i, _, b, c⟩ := he p hp; ⟨i, b, c⟩) (fun i o d hi hoi hdi => ?_) hQ
  obtain ⟨x, hx, hone⟩ := ho i o d (Nat.zero_le _) hi hoi hdi
  have hdo : dstOf ops i = some d := by simp [dstOf, hoi, hdi]
  refine hone [] _ (AOL.nil ?_)
  rw [hdo]
  exact ⟨by show look ((d, x) :: _) d = _; rw [look_cons_eq, hx], rfl, rfl⟩
end Go.Proofs.Ytkkjlmcnfoncdaa.Aw

namespace Go.Proofs.Ytkkjlmcnfoncdaa.Aw
open Go Go.RowKit
section ar
variable {A : Ar} (hA : A = real)
include hA
theorem radd (k : IntKind) (a b : Int) : A .add k a b = k.wrap (a + b) := by rw [hA]; rfl
theorem rsub (k : IntKind) (a b : Int) : A .sub k a b = k.wrap (a - b) := by rw [hA]; rfl
theorem req (a b : Int) : A .eq a b = decide (a = b) := by rw [hA]; rfl
theorem rlt (a b : Int) : A .lt a b = decide (a < b) := by rw [hA]; rfl
theorem rle (a b : Int) : A .le a b = decide (a ≤ b) := by rw [hA]; rfl
theorem rno (b : Bool) : A .no b = !b := by rw [hA]; rfl
theorem rlen (l : List (List IC)) : A .len l = (l.length : Int) := by rw [hA]; rfl
end ar
theorem wok {z : Int} (h1 : -9223372036854775808 ≤ z) (h2 : z ≤ 9223372036854775807) : IntKind.i64.wrap z = z := IntWalk.i64_in z ⟨h1, h2⟩
abbrev I (z : Int) : IC := .lit (.int .i64 z)
abbrev Bo (b : Bool) : IC := .lit (.bool b)
theorem AOL.adv2 {r : Option Nat} {P : Program} {A : Ar} {tab : List TI} (hA : A = real) (hT : TabOk P tab) {ops : Array Oper} {Q : St → Prop} (rest' : List Nat) : ∀ (l : List Nat) (s : St), AOL r P ops ((Aw.adv A tab ops l s).1 ++ rest') (Aw.adv A tab ops l s).2 Q → AOL r P ops (l ++ rest') s Q
  | [], s, h => h
  | i :: rest, s, h => by
    simp only [Aw.adv] at h
    cases ho : ops[i]? with
    | none => simp only [ho] at h; exact h
    | some o =>
      simp only [ho] at h
      cases hg : gd ops s o.guard with
      | none => simp only [hg] at h; exact h
      | some b =>
        cases b with
        | true =>
          simp only [hg] at h
          cases he : ev1 A tab s o.op with
          | none => simp only [he] at h; exact h
          | some p =>
            obtain ⟨x, st'⟩ := p
            simp only [he] at h
            cases hd : dstOk s o.dst with
            | false => rw [hd] at h; exact h
            | true =>
              rw [hd] at h
              exact AOL.step ho hg hd (ev1_nd he) (ev1_mem hA hT he) (AOL.adv2 hA hT rest' rest _ h)
        | false =>
          simp only [hg] at h
          cases hd : dstOk s o.dst with
          | false => rw [hd] at h; exact h
          | true =>
            rw [hd] at h
            exact AOL.skip ho hg hd (AOL.adv2 hA hT rest' rest _ h)
theorem AOL.upto {r : Option Nat} {P : Program} {A : Ar} {tab : List TI} (hA : A = real) (hT : TabOk P tab) (n : Nat) {ops : Array Oper} {Q : St → Prop} {l : List Nat} {s s' : St} (h : Aw.adv A tab ops (l.take n) s = ([], s')) (k : AOL r P ops (l.drop n) s' Q) : AOL r P ops l s Q := by
  have := AOL.adv2 hA hT (r := r) (Q := Q) (l.drop n) (l.take n) s (by rw [h]; exact k)
  rwa [List.take_append_drop] at this
theorem QS.adv2 {P : Program} {A : Ar} {tab : List TI} (hA : A = real) (hT : TabOk P tab) {ops : Array Oper} {Q : St → Prop} (rest' : List Nat) : ∀ (l : List Nat) (s : St), QS P ops ((qadv A tab ops l s).1 ++ rest') (qadv A tab ops l s).2 Q → QS P ops (l ++ rest') s Q
  | [], s, h => h
  | i :: rest, s, h => by
    simp only [qadv] at h
    cases ho : ops[i]? with
    | none => simp only [ho] at h; exact h
    | some o =>
      simp only [ho] at h
      cases hd : o.dst with
      | none => simp only [hd] at h; exact h
      | some d =>
        simp only [hd] at h
        have hdo : dstOf ops i = some d := by simp [dstOf, ho, hd]
        cases hg : gd ops (lookS ops i s) o.guard with
        | none => simp only [hg] at h; exact h
        | some b =>
          cases b with
          | true =>
            simp only [hg] at h
            cases he : ev1 A tab (lookS ops i s) o.op with
            | none => simp only [he] at h; exact h
            | some p =>
              obtain ⟨x, st'⟩ := p
              simp only [he] at h
              cases hc : (stillOp o.op && dstOk (lookS ops i s) (some d)) with
              | false => rw [hc] at h; exact h
              | true =>
                rw [hc] at h
                simp only [cond_true] at h
                simp only [Bool.and_eq_true] at hc
                have hst := ev1_still he hc.1
                rw [lookS_st] at hst
                subst hst
                refine ⟨d, x, hdo, fun rest2 Q' k => ?_, QS.adv2 hA hT rest' rest _ h⟩
                refine AOL.step ho hg (by rw [hd]; exact hc.2) (ev1_nd he) (ev1_mem hA hT he) ?_
                rw [hdo, ← hd] at k
                exact k
          | false =>
            simp only [hg] at h
            cases hc : dstOk (lookS ops i s) (some d) with
            | false => rw [hc] at h; exact h
            | true =>
              rw [hc] at h
              simp only [cond_true] at h
              refine ⟨d, .tup [], hdo, fun rest2 Q' k => ?_, QS.adv2 hA hT rest' rest _ h⟩
              refine AOL.skip ho hg (by rw [hd]; exact hc) ?_
              rw [hdo, ← lookS_st ops i s, ← hd] at k
              exact k
theorem QS.upto {P : Program} {A : Ar} {tab : List TI} (hA : A = real) (hT : TabOk P tab) (n : Nat) {ops : Array Oper} {Q : St → Prop} {l : List Nat} {s s' : St} (h : qadv A tab ops (l.take n) s = ([], s')) (k : QS P ops (l.drop n) s' Q) : QS P ops l s Q := by
  have := QS.adv2 hA hT (Q := Q) (l.drop n) (l.take n) s (by rw [h]; exact k)
  rwa [List.take_append_drop] at this
end Go.Proofs.Ytkkjlmcnfoncdaa.Aw

namespace Go.Proofs.Ytkkjlmcnfoncdaa.Aw
open Go Go.RowKit
def AYield (P : Program) (i : Nat) (xs : List AV) (st : List AObj) (R : AV → List AObj → Prop) : Prop :=
  (∃ c, st[i]? = some (.lp c) ∧ xs.length = c.ps.size) ∧ ∀ (rr : Option Nat) (G : Nat → Prop) (g : Ghost) (w : World) (vals : Array Value) (l : Nat) (r : Loop), vals.size = xs.length → SR G st g w →
    (∀ (k : Nat) (x : AV), xs[k]? = some x → AR G st g w x (vals.getD k undef)) → g i = .pointer (some ⟨l, 0, none⟩) → w.heap[l]? = some (.loop r) →
    RoundIn (FW rr) 0 P l r.fn ((r.params.zip vals).foldl (fun tmps (t, a) => tmps.setIfInBounds t a) r.tmps) r.assign r.body w
      fun e w' => ∃ v x st' g', e = .returned v ∧ R x st' ∧ AR G st' g' w' x v ∧ SR G st' g' w' ∧ Evo st g w st' g' w'
theorem AR.yl_inv {G : Nat → Prop} {s : List AObj} {g : Ghost} {w : World} {i : Nat} {v : Value} (h : AR G s g w (.yl i) v) {c : RC} (hc : s[i]? = some (.lp c)) : ∃ b, g i = .pointer (some ⟨b, 0, none⟩) ∧ v = .func (.yield b) #[] #[] := by
  cases h with
  | yl i v hi hv h1 => exact hv c hc
theorem AOL.ycall {r : Option Nat} {P : Program} {ops : Array Oper} {n : Nat} {rest : List Nat} {s : St} {Q : St → Prop} {x : Operand} {args : Array Operand} {ts : Array TypeId} {i : Nat} {R : AV → List AObj → Prop}
    (h : opAt ops n s = some (.call { callee := .value x, args := args, argTypes := ts })) (hf : s.ev x = .yl i) (hc : AYield P i (args.toList.map s.ev) s.st R) (k : ∀ y st', R y st' → AOL r P ops rest (putS s (dstOf ops n) y st') Q) : AOL r P ops (n :: rest) s Q := fun G g w a QQ hr kk => by
  obtain ⟨o, ho, hg, hd, hop, he⟩ := opAt_some h
  obtain ⟨⟨c, hci, hlen⟩, hy⟩ := hc
  have hx := hr.ev x
  rw [hf] at hx
  obtain ⟨l, hgl, hxl⟩ := hx.yl_inv hci
  obtain ⟨b, rc, e1, hG, hh, f1, f2, f3, f4, f5, f6, f7⟩ := hr.sr.obj i _ hci
  rw [hgl] at e1
  obtain rfl : l = b := by simpa using e1
  have hsz : (args.map a.eval).size = rc.params.size := by rw [f3]; simpa using hlen
  simp only [wpOpsIn, ho, gd_wanted hr hg, if_true]
  refine ⟨fun _ _ => trivial, ?_⟩
  have hn : notDefer o.op = true := by rw [hop]; rfl
  have hrun' : (execOp a.eval o).run P w = .ok (.round l rc.fn ((rc.params.zip (args.map a.eval)).foldl (fun tmps (t, a) => tmps.setIfInBounds t a) rc.tmps) rc.assign rc.body) w := by
    unfold execOp
    rw [hop]
    have hr2 := run_yield (P := P) hh hsz
    refine Eq.trans ?_ hr2
    simp [bcall, resolve, Deferred.ofValue, hxl, invoke]
  rw [semAt_of hn, hrun']
  refine ⟨by simp [Fence.wide], (hy r G g w (args.map a.eval) l rc (by simp) hr.sr (fun k y hk => ?_) hgl hh).mono ?_⟩
  · rw [List.getElem?_map] at hk
    simp only [Option.map_eq_some_iff] at hk
    obtain ⟨q, hq, rfl⟩ := hk
    have : (args.map a.eval).getD k undef = a.eval q := by
      rw [getD_toList, List.getD_eq_getElem?_getD, Array.toList_map, List.getElem?_map, hq]
      rfl
    rw [this]
    exact hr.ev q
  · rintro e w' ⟨v, y, st', g', rfl, hR, hx, hsr, hevo⟩
    have k' := k y st' hR
    rw [he] at k'
    exact k' G g' w' _ QQ (hr.putS o.dst hd hevo hsr hx) fun s' g2 w2 a2 q hr2 he hdf hfr => kk s' g2 w2 a2 q hr2 (hevo.trans (by rw [putS_st] at he; exact he)) (hdf.trans (put_defers _ _ _)) (Fr.cons ho hfr)
def pz : List Nat → List AV → List (Nat × AV) → List (Nat × AV)
  | p :: ps, x :: xs, env => pz ps xs ((p, x) :: env)
  | _, _, env => env
theorem pz_ar {G : Nat → Prop} {s : List AObj} {g : Ghost} {w : World} {nt : Nat} : ∀ (ps : List Nat) (xs : List AV) (vs : List Value) (env : List (Nat × AV)) (tmps : Array Value), tmps.size = nt → (∀ p ∈ ps, p < nt) → xs.length = vs.length →
    (∀ (k : Nat) (x : AV), xs[k]? = some x → AR G s g w x (vs.getD k undef)) → (∀ t, AR G s g w (look env t) (tmps.getD t undef)) →
    ((ps.zip vs).foldl (fun tmps (q : Nat × Value) => tmps.setIfInBounds q.1 q.2) tmps).size = nt ∧ ∀ t, AR G s g w (look (pz ps xs env) t) (((ps.zip vs).foldl (fun tmps (q : Nat × Value) => tmps.setIfInBounds q.1 q.2) tmps).getD t undef)
  | [], xs, vs, env, tmps, h1, h2, h3, h4, h5 => ⟨h1, h5⟩
  | p :: ps, [], vs, env, tmps, h1, h2, h3, h4, h5 => by
    obtain rfl : vs = [] := List.length_eq_zero_iff.1 h3.symm
    exact ⟨h1, h5⟩
  | p :: ps, x :: xs, [], env, tmps, h1, h2, h3, h4, h5 => by simp at h3
  | p :: ps, x :: xs, v :: vs, env, tmps, h1, h2, h3, h4, h5 => by
    simp only [List.zip_cons_cons, List.foldl_cons, pz]
    refine pz_ar ps xs vs _ _ (by simpa using h1) (fun q hq => h2 q (List.mem_cons_of_mem _ hq)) (by simpa using h3) (fun k y hk => by simpa using h4 (k + 1) y (by simpa using hk)) (fun t => ?_)
    rw [getD_set _ _ _ _ _ (by rw [h1]; exact h2 p List.mem_cons_self)]
    by_cases e : p = t
    · subst e
      rw [if_pos rfl, look_cons_eq]
      exact h4 0 x rfl
    · rw [if_neg e, look_cons_ne e]
      exact h5 t
def YQ (i : Nat) (c : RC) (R : AV → List AObj → Prop) : Exit → St → Prop := fun e s => s.st[i]? = some (.lp { c with state := .busy }) ∧ match e with
  | .normal => R (.ic (.lit (.bool true))) (s.st.set i (.lp c))
  | .ret => R (.ic (.lit (.bool false))) (s.st.set i (.lp { c with state := .done, pend := some .ret }))
  | .exit id => R (.ic (.lit (.bool false))) (s.st.set i (.lp { c with state := .done, pend := some (.exit id) }))
  | _ => False
theorem SR.relp {G : Nat → Prop} {s : List AObj} {g : Ghost} {w : World} (h : SR G s g w) {i l : Nat} {c c' : RC} {r : Loop} (hi : s[i]? = some (.lp c)) (hg : g i = .pointer (some ⟨l, 0, none⟩)) (hh : w.heap[l]? = some (.loop r))
    (r' : Loop) (e1 : r'.state = c'.state) (e2 : r'.pending = c'.pend) (e3 : r'.params = r.params) (e4 : r'.assign = r.assign) (e5 : r'.body = r.body) (e6 : r'.tmps = r.tmps) (c3 : c'.ps = c.ps) (c4 : c'.asn = c.asn) (c5 : c'.body = c.body) (c6 : c'.nt = c.nt) (c7 : c'.env = c.env) :
    Evo s g w (s.set i (.lp c')) g (w.putObj l (.loop r')) ∧ SR G (s.set i (.lp c')) g (w.putObj l (.loop r')) := by
  have hlt := (Array.getElem?_eq_some_iff.1 hh).1
  obtain ⟨b, rc, g1, hG, hh', f1, f2, f3, f4, f5, f6, f7⟩ := h.obj i _ hi
  rw [hg] at g1
  obtain rfl : l = b := by simpa using g1
  rw [hh] at hh'
  obtain rfl : r = rc := by simpa using hh'
  refine h.turn i (.lp c) (.lp c') l hi rfl (by rw [hg]; rfl) rfl (by simp) (by simp) rfl rfl rfl (by simp) (fun k hk => World.putObj_heap_other hk) (fun k => ?_) (fun c2 _ => ⟨c, rfl⟩)
  exact ⟨l, r', hg, hG, World.putObj_heap_same hlt, e1, e2, by rw [e3, f3, c3], by rw [e4, f4, c4], by rw [e5, f5, c5], by rw [e6, f6, c6], fun t => by rw [e6, c7]; exact (f7 t).evo k⟩
theorem AYield.of {P : Program} {i : Nat} {xs : List AV} {st : List AObj} {R : AV → List AObj → Prop} {c : RC} (hi : st[i]? = some (.lp c)) (hs : c.state = .ready) (hp : c.pend = none) (hlen : xs.length = c.ps.size) (hps : c.ps.toList.all (fun p => Nat.blt p c.nt) = true)
    (h : ∀ l, AWp (some l) P c.asn ⟨c.nt, pz c.ps.toList xs c.env, st⟩ (fun e s1 => e = .normal ∧ s1.st[i]? = some (.lp c) ∧ AWp (some l) P c.body ⟨s1.nt, s1.env, s1.st.set i (.lp { c with state := .busy })⟩ (YQ i c R))) : AYield P i xs st R := by
  refine ⟨⟨c, hi, hlen⟩, fun rr G g w vals l r hsz hr hval hgl hh => ?_⟩
  obtain ⟨b, rc, g1, hG, hh', f1, f2, f3, f4, f5, f6, f7⟩ := hr.obj i _ hi
  rw [hgl] at g1
  obtain rfl : l = b := by simpa using g1
  rw [hh] at hh'
  obtain rfl : r = rc := by simpa using hh'
  have hpz := pz_ar (G := G) (s := st) (g := g) (w := w) (nt := c.nt) c.ps.toList xs vals.toList c.env r.tmps f6 (fun p hp => by rw [List.all_eq_true] at hps; exact Nat.le_of_ble_eq_true (hps p hp)) (by simpa using hsz.symm)
    (fun k x hk => by rw [← getD_toList]; exact hval k x hk) f7
  have hfold : (r.params.zip vals).foldl (fun tmps (t, a) => tmps.setIfInBounds t a) r.tmps = (c.ps.toList.zip vals.toList).foldl (fun tmps (q : Nat × Value) => tmps.setIfInBounds q.1 q.2) r.tmps := by
    rw [f3, ← Array.foldl_toList, Array.toList_zip]
  rw [hfold, f4, f5]
  generalize (c.ps.toList.zip vals.toList).foldl (fun tmps (q : Nat × Value) => tmps.setIfInBounds q.1 q.2) r.tmps = T at hpz
  refine roundIn_of_wpIn (F := FW rr) trivial ?_
  have hrel : Rel G ⟨c.nt, pz c.ps.toList xs c.env, st⟩ g w { tmps := T, defers := [] } := ⟨hpz.2, hpz.1, hr⟩
  refine h l G g w _ 0 _ hrel (Nat.zero_le _) ⟨[], rfl, by simp, by simp⟩ ?_
  rintro e s1 g1 w1 a1 ⟨rfl, hi1, hbody⟩ hr1 hev1 hd1
  have hg1 : g1 i = .pointer (some ⟨l, 0, none⟩) := ((hev1.lp i c (List.getElem?_eq_some_iff.1 hi).1 hi1).2).trans hgl
  obtain ⟨b1, r1, q1, hG1, hh1, k1, k2, k3, k4, k5, k6, k7⟩ := hr1.sr.obj i _ hi1
  rw [hg1] at q1
  obtain rfl : l = b1 := by simpa using q1
  obtain ⟨hev2, hsr2⟩ := hr1.sr.relp hi1 hg1 hh1 { r1 with state := .busy } (c' := { c with state := .busy }) rfl k2 rfl rfl rfl rfl rfl rfl rfl rfl rfl
  refine ⟨_, run_beginRound hh1 (by rw [k1, hs]), ?_⟩
  refine hbody G g1 _ a1 0 _ ⟨fun t => (hr1.slots t).evo hev2, hr1.size, hsr2⟩ (Nat.zero_le _) (hd1.evo hr1.sr hev2) ?_
  rintro e s3 g3 w3 a3 ⟨hi3, hq⟩ hr3 hev3 hd3
  have hil : i < s1.st.length := (List.getElem?_eq_some_iff.1 hi1).1
  have hg3 : g3 i = .pointer (some ⟨l, 0, none⟩) := ((hev3.lp i _ (by simpa using hil) hi3).2).trans hg1
  obtain ⟨b3, r3, q3, hG3, hh3, m1, m2, m3, m4, m5, m6, m7⟩ := hr3.sr.obj i _ hi3
  rw [hg3] at q3
  obtain rfl : l = b3 := by simpa using q3
  have fin : ∀ (jump : Option Code) (c' : RC), c'.state = (if jump.isNone then .ready else .done) → c'.pend = jump → c'.ps = c.ps → c'.asn = c.asn → c'.body = c.body → c'.nt = c.nt → c'.env = c.env → R (.ic (.lit (.bool jump.isNone))) (s3.st.set i (.lp c')) →
      ∃ v w', (Instr.endRound l jump).run P w3 = .ok v w' ∧ ∃ v' x st' g', Ending.returned v = .returned v' ∧ R x st' ∧ AR G st' g' w' x v' ∧ SR G st' g' w' ∧ Evo st g w st' g' w' := by
    intro jump c' d1 d2 d3 d4 d5 d6 d7 hR
    obtain ⟨hev4, hsr4⟩ := hr3.sr.relp hi3 hg3 hh3 { r3 with state := if jump.isNone then .ready else .done, pending := jump } (c' := c') d1.symm d2.symm rfl rfl rfl rfl d3 d4 d5 d6 d7
    exact ⟨_, _, run_endRound jump hh3, _, _, _, _, rfl, hR, .ic _ _ (.lit _ rfl), hsr4, ((hev1.trans hev2).trans hev3).trans hev4⟩
  cases e with
  | normal => exact fin none c (by rw [hs]; rfl) hp rfl rfl rfl rfl rfl hq
  | ret => exact fin (some .ret) { c with state := .done, pend := some .ret } rfl rfl rfl rfl rfl rfl rfl hq
  | exit id => exact fin (some (.exit id)) { c with state := .done, pend := some (.exit id) } rfl rfl rfl rfl rfl rfl rfl hq
  | goto t => exact hq.elim
  | panic ch => exact hq.elim
  | outgrown => exact hq.elim
theorem AWp.rangeFunc {P : Program} {s : St} {Q : Exit → St → Prop} {x : Operand} {ps : Array Tmp} {asn body : Code} {f : FuncId} {first cap : List AV} {R : AV → List AObj → Prop} (hx : s.ev x = .fn (.func f) first cap)
    (hc : ACalls P f (first ++ [.yl s.st.length] ++ cap) (s.st ++ [.lp ⟨.ready, none, ps, asn, body, s.nt, s.env⟩]) R)
    (k : ∀ y st', R y st' → ∃ c, st'[s.st.length]? = some (.lp c) ∧ c.state ≠ .busy ∧ (match c.pend with | none => Q .normal ⟨s.nt, s.env, st'.set s.st.length (.lp { c with state := .exhausted })⟩ | some j => AWp none P j ⟨s.nt, s.env, st'.set s.st.length (.lp { c with state := .exhausted })⟩ Q)) :
    AWp none P (.rangeFunc x ps asn body) s Q := fun G g w a B QQ hr hB hd kk => by
  have hxv := hr.ev x
  rw [hx] at hxv
  obtain ⟨vf, vc, e, h1, h2, h3, h4⟩ := hxv.fn_inv
  refine wpIn_rangeFunc fun fn _ => ?_
  have hent := run_enterLoop_outer (P := P) (w := w) fn a.tmps ps asn body
  generalize hw1 : (w.alloc (.deferred (some []))).alloc (.loop { state := .ready, pending := none, fn, tmps := a.tmps, params := ps, assign := asn, body, defers := w.heap.size }) = w1 at hent
  have hsz1 : w1.heap.size = w.heap.size + 2 := by rw [← hw1]; simp only [World.size_alloc]
  have hold : ∀ b, b < w.heap.size → w1.heap[b]? = w.heap[b]? := fun b hb => by
    rw [← hw1, Below.heap_alloc _ _ _ (by simp; omega), Below.heap_alloc _ _ _ hb]
  have hdef : w1.heap[w.heap.size]? = some (.deferred (some [])) := by
    rw [← hw1, Below.heap_alloc _ _ _ (by simp), World.alloc_heap_new]
  have hlp : w1.heap[w.heap.size + 1]? = some (.loop { state := .ready, pending := none, fn, tmps := a.tmps, params := ps, assign := asn, body, defers := w.heap.size }) := by
    rw [← hw1]
    have := World.alloc_heap_new (w.alloc (.deferred (some []))) (.loop { state := .ready, pending := none, fn, tmps := a.tmps, params := ps, assign := asn, body, defers := w.heap.size })
    simpa using this
  have hv : ∀ b, gb (.pointer (some ⟨w.heap.size + 1, 0, none⟩)) = some b → w.heap.size ≤ b := fun b hb => by simp [gb] at hb; omega
  have ev1 : Evo s.st g w (s.st ++ [.lp ⟨.ready, none, ps, asn, body, s.nt, s.env⟩]) (gput g s.st.length (.pointer (some ⟨w.heap.size + 1, 0, none⟩))) w1 :=
    .push _ _ (by rw [← hw1]; rfl) (by rw [← hw1]; rfl) (by rw [← hw1]; rfl) (by omega) hold hv
  have sr1 := hr.sr.push _ _ ev1 hold hv ⟨w.heap.size + 1, _, gput_new _ _ _, hr.sr.new _ (by omega), hlp, rfl, rfl, rfl, rfl, rfl, hr.size, fun t => (hr.slots t).evo ev1⟩
  have he := hc.1
  unfold entersB at he
  cases hfn : P.funcs[f]? with
  | none => simp [hfn] at he
  | some fd =>
    simp only [hfn, Bool.and_eq_true, Bool.not_eq_true'] at he
    have hbn : fd.body.isNone = false := by cases hb : fd.body <;> simp_all
    have hn : (fd.name == "runtime.NumGoroutine") = false := he.1
    simp only [beq_eq_false_iff_ne, ne_eq] at hn
    refine ⟨w.heap.size + 1, [{ target := .collected w.heap.size, args := #[] }], w1, { target := .fn (.func f) vc, args := vf ++ #[.func (.yield (w.heap.size + 1)) #[] #[]] }, w1, f, vf ++ #[.func (.yield (w.heap.size + 1)) #[] #[]] ++ vc, w1, hent, ?_, fun _ _ => trivial, ?_, by simp [Fence.wide], ?_⟩
    · have ec : ∀ v, a.eval (.const v) = v := fun _ => rfl
      simp [resolve, rangeCall, Deferred.ofValue, e, ec]
    · simp [invoke, callFunc, hfn, hn]
      intro hnone
      simp [hnone] at he
    · refine (callsIn_FW _).2 ((hc.2 G _ w1 _ (by simp [h1, h2]; omega) sr1 (fun q y hq => ?_)).mono ?_)
      · rw [getD_toList, List.getD_eq_getElem?_getD]
        simp only [Array.toList_append]
        by_cases k1 : q < first.length
        · rw [List.append_assoc, List.getElem?_append_left k1] at hq
          have := (h3 q y hq).evo ev1
          rw [getD_toList, List.getD_eq_getElem?_getD] at this
          rw [List.append_assoc, List.getElem?_append_left (by simp; omega)]
          exact this
        · by_cases k2 : q = first.length
          · subst k2
            rw [List.append_assoc, List.getElem?_append_right (Nat.le_refl _)] at hq
            simp at hq
            subst hq
            rw [List.append_assoc, List.getElem?_append_right (by simp [h1])]
            simp only [Array.length_toList, h1, Nat.sub_self, List.cons_append, List.getElem?_cons_zero, Option.getD_some]
            refine .yl _ _ (by simp) (fun c _ => ⟨_, gput_new _ _ _, rfl⟩) rfl
          · rw [List.getElem?_append_right (by simp; omega)] at hq
            have := (h4 _ y hq).evo ev1
            rw [getD_toList, List.getD_eq_getElem?_getD] at this
            rw [List.getElem?_append_right (by simp; omega)]
            simp only [List.length_append, Array.length_toList, h1, List.length_cons, List.length_nil] at this ⊢
            exact this
      · rintro e' w3 ⟨v, y, st', g3, rfl, hR, hy, sr3, ev3⟩
        obtain ⟨c, hci, hnb, hq⟩ := k y st' hR
        have hil : s.st.length < (s.st ++ [AObj.lp ⟨.ready, none, ps, asn, body, s.nt, s.env⟩]).length := by simp
        have hg3 : g3 s.st.length = .pointer (some ⟨w.heap.size + 1, 0, none⟩) := ((ev3.lp _ c hil hci).2).trans (gput_new _ _ _)
        obtain ⟨b3, r3, q3, hG3, hh3, m1, m2, m3, m4, m5, m6, m7⟩ := sr3.obj _ _ hci
        rw [hg3] at q3
        obtain rfl : w.heap.size + 1 = b3 := by simpa using q3
        obtain ⟨ev4, sr4⟩ := sr3.relp hci hg3 hh3 { r3 with state := .exhausted } (c' := { c with state := .exhausted }) rfl m2 rfl rfl rfl rfl rfl rfl rfl rfl rfl
        have ev := (ev1.trans ev3).trans ev4
        have hrel : Rel G ⟨s.nt, s.env, st'.set s.st.length (.lp { c with state := .exhausted })⟩ g3 (w3.putObj (w.heap.size + 1) (.loop { r3 with state := .exhausted })) { a with defers := [{ target := .collected w.heap.size, args := #[] }] ++ a.defers } :=
          ⟨fun t => (hr.slots t).evo ev, hr.size, sr4⟩
        have hdm : DM B (w3.putObj (w.heap.size + 1) (.loop { r3 with state := .exhausted })) ([{ target := .collected w.heap.size, args := #[] }] ++ a.defers) := by
          obtain ⟨qs, hds, hnd, hqs⟩ := hd.evo hr.sr ev
          obtain ⟨qs0, hds0, hnd0, hqs0⟩ := hd
          refine ⟨w.heap.size :: qs, by rw [hds]; rfl, List.nodup_cons.2 ⟨fun hm => ?_, hnd⟩, fun q hqm => ?_⟩
          · have : qs = qs0 := by
              rw [hds] at hds0
              have hinj : ∀ (l1 l2 : List Nat), l1.map (fun q => ({ target := .collected q, args := #[] } : Deferred)) = l2.map (fun q => { target := .collected q, args := #[] }) → l1 = l2 := by
                intro l1
                induction l1 with
                | nil => intro l2 h; cases l2 <;> simp_all
                | cons x xs ih =>
                  intro l2 h
                  cases l2 with
                  | nil => simp at h
                  | cons y ys =>
                    simp only [List.map_cons, List.cons.injEq, Deferred.mk.injEq, Target.collected.injEq, and_true] at h
                    rw [h.1, ih ys h.2]
              exact hinj _ _ hds0
            subst this
            have := (Array.getElem?_eq_some_iff.1 (hqs0 _ hm).2).1
            omega
          · rcases List.mem_cons.1 hqm with rfl | hqm
            · refine ⟨hB, ?_⟩
              have h5 := (ev3.trans ev4).heap w.heap.size (by omega) (not_own sr1 hdef (by simp) (by simp) (by simp))
              rw [h5, hdef]
            · exact hqs q hqm
        refine ⟨c.pend, _, by rw [← m2]; exact run_endLoop hh3 (by rw [m1]; exact hnb), ?_⟩
        have hBle : B ≤ (w3.putObj (w.heap.size + 1) (.loop { r3 with state := .exhausted })).heap.size := Nat.le_trans hB ev.size
        generalize ({ c with state := .exhausted } : RC) = c' at hq hrel ev
        cases hpd : c.pend with
        | none =>
          rw [hpd] at hq
          exact kk _ _ _ _ _ hq hrel ev hdm
        | some j =>
          rw [hpd] at hq
          exact hq G g3 _ _ B QQ hrel hBle hdm fun e2 s2 g2 w2 a2 q2 hr2 he2 hd2 => kk e2 s2 g2 w2 a2 q2 hr2 (ev.trans he2) hd2
end Go.Proofs.Ytkkjlmcnfoncdaa.Aw

namespace Go.Proofs.Ytkkjlmcnfoncdaa.Aw
open Go Go.RowKit
mutual
def closedB (n : Nat) : AV → Bool
  | .any => true
  | .ic _ => true
  | .own i _ => Nat.blt i n
  | .ptr i _ => Nat.blt i n
  | .at _ => true
  | .rat i _ _ _ => Nat.blt i n
  | .fn _ a b => closedBs n a && closedBs n b
  | .agg xs => closedBs n xs
  | .tup xs => closedBs n xs
  | .yl i => Nat.blt i n
  | .mo i => Nat.blt i n
def closedBs (n : Nat) : List AV → Bool
  | [] => true
  | x :: r => closedB n x && closedBs n r
end
def closedE (n : Nat) : List (Nat × AV) → Bool
  | [] => true
  | p :: r => closedB n p.2 && closedE n r
def closedO (n : Nat) : AObj → Bool
  | .dead => true
  | .var _ _ cs => closedBs n cs
  | .row _ _ _ _ _ => true
  | .lp c => closedE n c.env
  | .mpo _ => true
theorem closedBs_get {n : Nat} {l : List AV} (h : closedBs n l = true) : ∀ (k : Nat) (x : AV), l[k]? = some x → closedB n x = true := by
  induction l with
  | nil => simp
  | cons y r ih =>
    simp only [closedBs, Bool.and_eq_true] at h
    intro k x hk
    cases k with
    | zero => simp at hk; subst hk; exact h.1
    | succ k => exact ih h.2 k x (by simpa using hk)
theorem closedBs_of {n : Nat} {l : List AV} (h : ∀ (k : Nat) (x : AV), l[k]? = some x → closedB n x = true) : closedBs n l = true := by
  induction l with
  | nil => rfl
  | cons y r ih => simp only [closedBs, Bool.and_eq_true]; exact ⟨h 0 y rfl, ih fun k x hk => h (k + 1) x (by simpa using hk)⟩
theorem closedE_look {n : Nat} {env : List (Nat × AV)} (h : closedE n env = true) (t : Nat) : closedB n (look env t) = true := by
  induction env with
  | nil => rfl
  | cons p r ih =>
    obtain ⟨k, x⟩ := p
    simp only [closedE, Bool.and_eq_true] at h
    simp only [look]
    cases Nat.beq k t with
    | true => exact h.1
    | false => exact ih h.2
theorem AR.closed {G : Nat → Prop} {s : List AObj} {g : Ghost} {w : World} {x : AV} {v : Value} (h : AR G s g w x v) {n : Nat} (hn : s.length ≤ n) : closedB n x = true := by
  have lt : ∀ i, i < s.length → Nat.blt i n = true := fun i hi => Nat.ble_eq_true_of_le (show i + 1 ≤ n by omega)
  induction h with
  | any v => rfl
  | ic x v h => rfl
  | own i ver v hi hv h1 => exact lt i hi
  | ptr i off v hi hv h1 => exact lt i hi
  | «at» cs b o val hb hok hcell hin => rfl
  | rat i ver j off v hi hv h1 => exact lt i hi
  | fn f first cap vf vc h1 h2 h3 h4 ih3 ih4 =>
    simp only [closedB, Bool.and_eq_true]
    exact ⟨closedBs_of ih3, closedBs_of ih4⟩
  | agg xs vs h1 h2 h3 ih => exact closedBs_of ih
  | tup xs vs h1 h2 ih => exact closedBs_of ih
  | yl i v hi hv h1 => exact lt i hi
  | mo i v hi hv h1 => exact lt i hi
theorem own_take {s : List AObj} {g : Ghost} {b n : Nat} (h : Own (s.take n) g b) : Own s g b := by
  obtain ⟨i, o, hi, hm, hg⟩ := h
  rw [List.getElem?_take] at hi
  split at hi
  · exact ⟨i, o, hi, hm, hg⟩
  · simp at hi
theorem get_take {s : List AObj} {n i : Nat} {o : AObj} (h : (s.take n)[i]? = some o) : i < n ∧ s[i]? = some o := by
  rw [List.getElem?_take] at h
  split at h
  · exact ⟨by assumption, h⟩
  · simp at h
theorem IR.trim {G : Nat → Prop} {s : List AObj} {g : Ghost} {w : World} {x : IC} {v : Value} (h : IR w (Good G s g) x v) (n : Nat) : IR w (Good G (s.take n) g) x v :=
  h.mono (fun _ _ _ => rfl) (fun b _ hb => ⟨hb.1, fun ho => hb.2 (own_take ho)⟩) (Nat.le_refl _)
theorem AR.trim {G : Nat → Prop} {s : List AObj} {g : Ghost} {w : World} {x : AV} {v : Value} (h : AR G s g w x v) {n : Nat} (hc : closedB n x = true) (hl : n ≤ s.length) : AR G (s.take n) g w x v := by
  have lt : ∀ i, Nat.blt i n = true → i < (s.take n).length := fun i hi => by
    have := Nat.le_of_ble_eq_true hi
    rw [List.length_take]
    omega
  induction h with
  | any v => exact .any v
  | ic x v h => exact .ic x v (h.trim n)
  | own i ver v hi hv h1 => exact .own i ver v (lt i hc) (fun m v' e sz xs hs => hv m v' e sz xs (get_take hs).2) h1
  | ptr i off v hi hv h1 => exact .ptr i off v (lt i hc) (fun m t cs hs => hv m t cs (get_take hs).2) h1
  | «at» cs b o val hb hok hcell hin => exact .«at» cs b o val hb ⟨hok.1, fun ho => hok.2 (own_take ho)⟩ hcell (fun j x hj => (hin j x hj).trim n)
  | rat i ver j off v hi hv h1 => exact .rat i ver j off v (lt i hc) (fun m v' e sz xs hs => hv m v' e sz xs (get_take hs).2) h1
  | fn f first cap vf vc h1 h2 h3 h4 ih3 ih4 =>
    simp only [closedB, Bool.and_eq_true] at hc
    exact .fn f first cap vf vc h1 h2 (fun k x hk => ih3 k x hk (closedBs_get hc.1 k x hk)) (fun k x hk => ih4 k x hk (closedBs_get hc.2 k x hk))
  | agg xs vs h1 h2 h3 ih => exact .agg xs vs h1 (fun k x hk => ih k x hk (closedBs_get hc k x hk)) h3
  | tup xs vs h1 h2 ih => exact .tup xs vs h1 (fun k x hk => ih k x hk (closedBs_get hc k x hk))
  | yl i v hi hv h1 => exact .yl i v (lt i hc) (fun c hs => hv c (get_take hs).2) h1
  | mo i v hi hv h1 => exact .mo i v (lt i hc) (fun c hs => hv c (get_take hs).2) h1
def OClosed (n : Nat) : AObj → Prop
  | .var _ _ cs => closedBs n cs = true
  | .lp c => ∀ t, closedB n (look c.env t) = true
  | _ => True
theorem OR.closed {G : Nat → Prop} {s : List AObj} {g : Ghost} {w : World} {i : Nat} {o : AObj} (h : OR G s g w i o) {n : Nat} (hn : s.length ≤ n) : OClosed n o := by
  cases o with
  | dead => trivial
  | row => trivial
  | var m t cs =>
    obtain ⟨b, vs, h1, h2, h3, h4, h5, h6⟩ := h
    exact closedBs_of fun k x hk => (h6 k x hk).closed hn
  | lp c =>
    obtain ⟨b, r, h1, h2, h3, e1, e2, e3, e4, e5, e6, h4⟩ := h
    exact fun t => (h4 t).closed hn
  | mpo es => trivial
theorem OR.trim {G : Nat → Prop} {s : List AObj} {g : Ghost} {w : World} {i : Nat} {o : AObj} (h : OR G s g w i o) {n : Nat} (hl : n ≤ s.length) (hc : OClosed n o) : OR G (s.take n) g w i o := by
  cases o with
  | dead => trivial
  | row m ver e sz xs =>
    obtain ⟨cells, h1, h2, h3⟩ := h
    exact ⟨cells, h1, h2, h3.mono fun x v hr => hr.trim n⟩
  | var m t cs =>
    obtain ⟨b, vs, h1, h2, h3, h4, h5, h6⟩ := h
    exact ⟨b, vs, h1, h2, h3, h4, h5, fun k x hk => (h6 k x hk).trim (closedBs_get hc k x hk) hl⟩
  | lp c =>
    obtain ⟨b, r, h1, h2, h3, e1, e2, e3, e4, e5, e6, h4⟩ := h
    exact ⟨b, r, h1, h2, h3, e1, e2, e3, e4, e5, e6, fun t => (h4 t).trim (hc t) hl⟩
  | mpo es => exact h
def trimOk (n : Nat) : List AObj → List AObj → Prop
  | o :: os, p :: ps => (p = o ∨ closedO n p = true) ∧ trimOk n os ps
  | [], ps => ps.all (closedO n) = true
  | _ :: _, [] => True
theorem trimOk_get {n : Nat} : ∀ {l l' : List AObj}, trimOk n l l' → ∀ (i : Nat) (p : AObj), l'[i]? = some p → l[i]? = some p ∨ closedO n p = true
  | [], l', h, i, p, hp => by
    simp only [trimOk, List.all_eq_true] at h
    exact .inr (h p (List.mem_of_getElem? hp))
  | o :: os, [], h, i, p, hp => by simp at hp
  | o :: os, q :: qs, h, i, p, hp => by
    cases i with
    | zero =>
      simp at hp
      subst hp
      rcases h.1 with h | h
      · exact .inl (by rw [h]; rfl)
      · exact .inr h
    | succ i =>
      have := trimOk_get h.2 i p (by simpa using hp)
      simpa using this
theorem trimS {G : Nat → Prop} {s s' : List AObj} {g g' : Ghost} {w w' : World} (h0 : SR G s g w) (h : SR G s' g' w') (k : Evo s g w s' g' w') {n : Nat} (h1 : s.length ≤ n) (h2 : n ≤ s'.length) (ht : trimOk n s (s'.take n)) :
    SR G (s'.take n) g' w' ∧ Evo s g w (s'.take n) g' w' := by
  refine ⟨⟨fun i o hi => ?_, fun i j o o' b hi hj => h.inj i j o o' b (get_take hi).2 (get_take hj).2, h.new⟩,
    ⟨k.os, k.tape, k.output, k.size, k.heap, fun b hb ho => k.own b hb (own_take ho), by rw [List.length_take]; omega, fun i m t cs hi hs => k.var i m t cs hi (get_take hs).2,
      fun i m ver e sz xs hi hs => k.row i m ver e sz xs hi (get_take hs).2, fun i c hi hs => k.lp i c hi (get_take hs).2, fun i c hi hs => k.mpo i c hi (get_take hs).2⟩⟩
  refine (h.obj i o (get_take hi).2).trim h2 ?_
  rcases trimOk_get ht i o hi with ho | ho
  · exact (h0.obj i o ho).closed h1
  · cases o with
    | var m t cs => exact ho
    | lp c => exact fun t => closedE_look ho t
    | _ => trivial
def Trim (n : Nat) (st : List AObj) (env : List (Nat × AV)) (s' : St) : Prop := n ≤ s'.st.length ∧ trimOk n st (s'.st.take n) ∧ closedE n env = true ∧ ∀ p ∈ env, s'.get p.1 = p.2
theorem AWp.trim {r : Option Nat} {P : Program} {c : Code} {s : St} {Q : Exit → St → Prop} (n : Nat) (hn : s.st.length ≤ n) (h : AWp r P c s fun e s' => ∃ env, Trim n s.st env s' ∧ Q e ⟨s'.nt, env, s'.st.take n⟩) : AWp r P c s Q := fun G g w a B QQ hr hB hd kk => by
  refine h G g w a B QQ hr hB hd ?_
  rintro e s' g' w' a' ⟨env, ⟨h2, ht, hce, hget⟩, hQ⟩ hr' hev hd'
  obtain ⟨hsr, hev'⟩ := trimS hr.sr hr'.sr hev hn h2 ht
  refine kk e _ g' w' a' hQ ⟨fun t => ?_, hr'.size, hsr⟩ hev' hd'
  show AR G (s'.st.take n) g' w' (look env t) _
  rcases look_mem env t with e0 | ⟨p, hp, e1, e2⟩
  · rw [e0]; exact .any _
  · have hcl := closedE_look hce t
    rw [← e2] at hcl ⊢
    have hx := hr'.slots t
    rw [← e1] at hx
    rw [hget p hp] at hx
    rw [← e1]
    exact hx.trim hcl h2
def subE (s : St) : List (Nat × AV) → Prop
  | [] => True
  | p :: r => s.get p.1 = p.2 ∧ subE s r
theorem subE_mem {s : St} {env : List (Nat × AV)} (h : subE s env) : ∀ p ∈ env, s.get p.1 = p.2 := by
  induction env with
  | nil => simp
  | cons q r ih =>
    intro p hp
    rcases List.mem_cons.1 hp with rfl | hp
    · exact h.1
    · exact ih h.2 p hp
theorem subE.nil {s : St} : subE s [] := trivial
theorem subE.cons {s : St} {t : Nat} {x : AV} {r : List (Nat × AV)} (h : s.get t = x) (k : subE s r) : subE s ((t, x) :: r) := ⟨h, k⟩
theorem Sub.of {s : St} {nt : Nat} {env : List (Nat × AV)} {st : List AObj} (h1 : s.nt = nt) (h2 : s.st = st) (h : subE s env) : Sub ⟨nt, env, st⟩ s := by
  subst h1 h2
  exact ⟨rfl, rfl, subE_mem h⟩
theorem Blk.here {id : Nat} {Q : Exit → St → Prop} {s : St} (h : Q .normal s) : Blk id Q (.exit id) s := by simpa [Blk] using h
theorem Blk.other {id id' : Nat} {Q : Exit → St → Prop} {s : St} (hn : id' ≠ id) (h : Q (.exit id') s) : Blk id Q (.exit id') s := by simpa [Blk, hn] using h
theorem Thn.exit {Q1 : St → Prop} {Q : Exit → St → Prop} {id : Nat} {s : St} (h : Q (.exit id) s) : Thn Q1 Q (.exit id) s := h
theorem trimOk.nil {n : Nat} : trimOk n [] [] := rfl
theorem trimOk.same {n : Nat} {o : AObj} {os ps : List AObj} (k : trimOk n os ps) : trimOk n (o :: os) (o :: ps) := ⟨.inl rfl, k⟩
theorem trimOk.turn {n : Nat} {o p : AObj} {os ps : List AObj} (h : closedO n p = true) (k : trimOk n os ps) : trimOk n (o :: os) (p :: ps) := ⟨.inr h, k⟩
theorem Trim.of {n : Nat} {st : List AObj} {env : List (Nat × AV)} {s' : St} (h1 : Nat.ble n s'.st.length = true) (h2 : trimOk n st (s'.st.take n)) (h3 : closedE n env = true) (h4 : subE s' env) : Trim n st env s' := ⟨Nat.le_of_ble_eq_true h1, h2, h3, subE_mem h4⟩
end Go.Proofs.Ytkkjlmcnfoncdaa.Aw

namespace Go.Proofs.Ytkkjlmcnfoncdaa.Aw
open Go Go.RowKit
section draw
variable {r : Option Nat} {P : Program} {ops : Array Oper}
def mvOf (ops : Array Oper) (f : Nat) : Option (Nat × Operand) := match ops[f]? with
  | some o => match o.op, o.guard, o.dst with
    | .move x, none, some d => bif o.after.isEmpty then some (d, x) else none
    | _, _, _ => none
  | none => none
def takeB (nt : Nat) (ops : Array Oper) : List Nat → Array Bool → Bool
  | [], _ => true
  | f :: fr, listed => (match mvOf ops f with | some (d, _) => Nat.blt d nt | none => false) && !listed.getD f true && Region.free .any ops listed f && takeB nt ops fr (listed.setIfInBounds f true)
def frS (ops : Array Oper) : List Nat → St → St
  | [], s => s
  | f :: fr, s => match mvOf ops f with
    | some (d, x) => frS ops fr ⟨s.nt, (d, s.ev x) :: s.env, s.st⟩
    | none => frS ops fr s
def drawFB (ops : Array Oper) (q : Nat) (fr : List Nat) : Bool :=
  Nat.ble q ops.size && fr.all (fun f => Nat.blt f q) && Region.noSelect ops &&
  (List.range ops.size).all (fun i => match ops[i]? with
    | some o => o.after.all (fun e => !bindsE e || Nat.blt e.on i) &&
      (bif Nat.blt i q then
        (match o.dst with | some d => (List.range ops.size).all (fun j => Nat.beq i j || !(dstOf ops j == some d)) | none => false) &&
        (o.looksAt ops).all (fun t => (List.range ops.size).all (fun j => !(dstOf ops j == some t) || (Nat.blt j q && o.after.any (fun e => bindsE e && Nat.beq e.on j))))
      else (List.range i).all (fun j => fr.contains j || aheadB ops ops.size i j))
    | none => false)
end draw
end Go.Proofs.Ytkkjlmcnfoncdaa.Aw

namespace Go.Proofs.Ytkkjlmcnfoncdaa.Aw
open Go Go.RowKit
def YT (n i : Nat) (st : List AObj) (b c : RC) (R : AV → List AObj → Prop) : Exit → St → Prop := fun e s => s.st[i]? = some (.lp b) ∧ n ≤ s.st.length ∧ match e with
  | .normal => trimOk n st ((s.st.set i (.lp c)).take n) ∧ R (.ic (.lit (.bool true))) ((s.st.set i (.lp c)).take n)
  | .ret => ∀ d, d = { c with state := .done, pend := some .ret } → trimOk n st ((s.st.set i (.lp d)).take n) ∧ R (.ic (.lit (.bool false))) ((s.st.set i (.lp d)).take n)
  | .exit id => ∀ d, d = { c with state := .done, pend := some (.exit id) } → trimOk n st ((s.st.set i (.lp d)).take n) ∧ R (.ic (.lit (.bool false))) ((s.st.set i (.lp d)).take n)
  | _ => False
theorem AYield.of' {P : Program} {i : Nat} {xs : List AV} {st : List AObj} {R : AV → List AObj → Prop} {c : RC} {ps : Array Tmp} {asn body : Code} {nt : Nat} {env : List (Nat × AV)} (n : Nat) (hc : c = ⟨.ready, none, ps, asn, body, nt, env⟩) (hi : st[i]? = some (.lp c)) (hn : st.length ≤ n)
    (hlen : xs.length = ps.size) (hps : ps.toList.all (fun p => Nat.blt p nt) = true)
    (h : ∀ l, AWp (some l) P asn ⟨nt, pz ps.toList xs env, st⟩ (fun e s1 => e = .normal ∧ s1.st[i]? = some (.lp c) ∧ ∀ b, b = { c with state := .busy } → AWp (some l) P body ⟨s1.nt, s1.env, s1.st.set i (.lp b)⟩ (YT n i st b c R))) : AYield P i xs st R := by
  have hcs : c.state = .ready := by rw [hc]
  have hcp : c.pend = none := by rw [hc]
  refine ⟨⟨c, hi, by rw [hc]; exact hlen⟩, fun rr G g w vals l r hsz hr hval hgl hh => ?_⟩
  obtain ⟨b, rc, g1, hG, hh', f1, f2, f3, f4, f5, f6, f7⟩ := hr.obj i _ hi
  rw [hgl] at g1
  obtain rfl : l = b := by simpa using g1
  rw [hh] at hh'
  obtain rfl : r = rc := by simpa using hh'
  have e3 : r.params = ps := by rw [f3, hc]
  have e4 : r.assign = asn := by rw [f4, hc]
  have e5 : r.body = body := by rw [f5, hc]
  have e6 : r.tmps.size = nt := by rw [f6, hc]
  have e7 : ∀ t, AR G st g w (look env t) (r.tmps.getD t undef) := fun t => by have := f7 t; rw [hc] at this; exact this
  have hpz := pz_ar (G := G) (s := st) (g := g) (w := w) (nt := nt) ps.toList xs vals.toList env r.tmps e6 (fun p hp => by rw [List.all_eq_true] at hps; exact Nat.le_of_ble_eq_true (hps p hp)) (by simpa using hsz.symm)
    (fun k x hk => by rw [← getD_toList]; exact hval k x hk) e7
  have hfold : (r.params.zip vals).foldl (fun tmps (t, a) => tmps.setIfInBounds t a) r.tmps = (ps.toList.zip vals.toList).foldl (fun tmps (q : Nat × Value) => tmps.setIfInBounds q.1 q.2) r.tmps := by
    rw [e3, ← Array.foldl_toList, Array.toList_zip]
  rw [hfold, e4, e5]
  generalize (ps.toList.zip vals.toList).foldl (fun tmps (q : Nat × Value) => tmps.setIfInBounds q.1 q.2) r.tmps = T at hpz
  refine roundIn_of_wpIn (F := FW rr) trivial ?_
  have hrel : Rel G ⟨nt, pz ps.toList xs env, st⟩ g w { tmps := T, defers := [] } := ⟨hpz.2, hpz.1, hr⟩
  refine h l G g w _ 0 _ hrel (Nat.zero_le _) ⟨[], rfl, by simp, by simp⟩ ?_
  rintro e s1 g1 w1 a1 ⟨rfl, hi1, hbody⟩ hr1 hev1 hd1
  have hg1 : g1 i = .pointer (some ⟨l, 0, none⟩) := ((hev1.lp i c (List.getElem?_eq_some_iff.1 hi).1 hi1).2).trans hgl
  obtain ⟨b1, r1, q1, hG1, hh1, k1, k2, k3, k4, k5, k6, k7⟩ := hr1.sr.obj i _ hi1
  rw [hg1] at q1
  obtain rfl : l = b1 := by simpa using q1
  obtain ⟨b, hb⟩ : ∃ b : RC, b = { c with state := .busy } := ⟨_, rfl⟩
  obtain ⟨hev2, hsr2⟩ := hr1.sr.relp hi1 hg1 hh1 { r1 with state := .busy } (c' := b) (by rw [hb]) (by rw [hb]; exact k2) rfl rfl rfl rfl (by rw [hb]) (by rw [hb]) (by rw [hb]) (by rw [hb]) (by rw [hb])
  refine ⟨_, run_beginRound hh1 (by rw [k1, hcs]), ?_⟩
  refine hbody b hb G g1 _ a1 0 _ ⟨fun t => (hr1.slots t).evo hev2, hr1.size, hsr2⟩ (Nat.zero_le _) (hd1.evo hr1.sr hev2) ?_
  rintro e s3 g3 w3 a3 ⟨hi3, hn3, hq⟩ hr3 hev3 hd3
  have hil : i < s1.st.length := (List.getElem?_eq_some_iff.1 hi1).1
  have hg3 : g3 i = .pointer (some ⟨l, 0, none⟩) := ((hev3.lp i _ (by simpa using hil) hi3).2).trans hg1
  obtain ⟨b3, r3, q3, hG3, hh3, m1, m2, m3, m4, m5, m6, m7⟩ := hr3.sr.obj i _ hi3
  rw [hg3] at q3
  obtain rfl : l = b3 := by simpa using q3
  have fin : ∀ (jump : Option Code) (c' : RC), c'.state = (if jump.isNone then .ready else .done) → c'.pend = jump → c'.ps = c.ps → c'.asn = c.asn → c'.body = c.body → c'.nt = c.nt → c'.env = c.env →
      trimOk n st ((s3.st.set i (.lp c')).take n) → R (.ic (.lit (.bool jump.isNone))) ((s3.st.set i (.lp c')).take n) →
      ∃ v w', (Instr.endRound l jump).run P w3 = .ok v w' ∧ ∃ v' x st' g', Ending.returned v = .returned v' ∧ R x st' ∧ AR G st' g' w' x v' ∧ SR G st' g' w' ∧ Evo st g w st' g' w' := by
    intro jump c' d1 d2 d3 d4 d5 d6 d7 ht hR
    obtain ⟨hev4, hsr4⟩ := hr3.sr.relp hi3 hg3 hh3 { r3 with state := if jump.isNone then .ready else .done, pending := jump } (c' := c') d1.symm d2.symm rfl rfl rfl rfl (by rw [d3, hb]) (by rw [d4, hb]) (by rw [d5, hb]) (by rw [d6, hb]) (by rw [d7, hb])
    obtain ⟨hsr5, hev5⟩ := trimS hr hsr4 (((hev1.trans hev2).trans hev3).trans hev4) hn (by rw [List.length_set]; exact hn3) ht
    exact ⟨_, _, run_endRound jump hh3, _, _, _, _, rfl, hR, .ic _ _ (.lit _ rfl), hsr5, hev5⟩
  cases e with
  | normal => exact fin none c (by rw [hcs]; rfl) hcp rfl rfl rfl rfl rfl hq.1 hq.2
  | ret =>
    obtain ⟨q1, q2⟩ := hq { c with state := .done, pend := some .ret } rfl
    exact fin (some .ret) { c with state := .done, pend := some .ret } rfl rfl rfl rfl rfl rfl rfl q1 q2
  | exit id =>
    obtain ⟨q1, q2⟩ := hq { c with state := .done, pend := some (.exit id) } rfl
    exact fin (some (.exit id)) { c with state := .done, pend := some (.exit id) } rfl rfl rfl rfl rfl rfl rfl q1 q2
  | goto t => exact hq.elim
  | panic ch => exact hq.elim
  | outgrown => exact hq.elim
theorem AWp.rangeFunc' {P : Program} {s : St} {Q : Exit → St → Prop} {x : Operand} {ps : Array Tmp} {asn body : Code} {f : FuncId} {first cap : List AV} (hx : s.ev x = .fn (.func f) first cap)
    (h : ∀ c : RC, c = ⟨.ready, none, ps, asn, body, s.nt, s.env⟩ → ∃ R : AV → List AObj → Prop, ACalls P f (first ++ [.yl s.st.length] ++ cap) (s.st ++ [.lp c]) R ∧
      ∀ y st', R y st' → (st'[s.st.length]? = some (.lp c) ∧ ∀ x : RC, Q .normal ⟨s.nt, s.env, st'.set s.st.length (.lp x)⟩) ∨
        ∃ j d, st'[s.st.length]? = some (.lp d) ∧ d = { c with state := .done, pend := some j } ∧ ∀ x : RC, AWp none P j ⟨s.nt, s.env, st'.set s.st.length (.lp x)⟩ Q) : AWp none P (.rangeFunc x ps asn body) s Q := by
  obtain ⟨R, hc, hk⟩ := h _ rfl
  refine AWp.rangeFunc hx hc fun y st' hR => ?_
  rcases hk y st' hR with ⟨h1, h2⟩ | ⟨j, d, h1, rfl, h2⟩
  · exact ⟨_, h1, by simp, h2 _⟩
  · exact ⟨_, h1, by simp, h2 _⟩
theorem rPV_own {st : List AObj} {i ver e sz : Nat} {m : Bool} {xs : List (List IC)} (h : st[i]? = some (.row m ver e sz xs)) : rPV st (.own i ver) = some (.c (.sl sz false xs)) := by
  simp [rPV, rIC, toIC, h]
theorem rPV_own2 {st : List AObj} {i ver e sz : Nat} {m : Bool} {xs : List (List IC)} {y : AV} {z : PV} (h : st[i]? = some (.row m ver e sz xs)) (hy : rPV st y = some z) : rPV st (.tup [.own i ver, y]) = some (.tup [.c (.sl sz false xs), z]) := by
  simp only [rPV, rPVs]
  have := rPV_own h
  simp only [rPV] at this
  rw [this, hy]
end Go.Proofs.Ytkkjlmcnfoncdaa.Aw

namespace Go.Proofs.Ytkkjlmcnfoncdaa.Aw
open Go Go.RowKit
theorem does_build0 {P : Program} {s : St} (t e : TypeId) (sz : Nat) (ht : (tyi P t).there = true) (hk : (tyi P t).k = .slice e) (hsz : (tyi P e).size = sz) :
    Does P s (fun ρ => do pure (.value (← Instr.buildSlice t 0 ((#[] : Array (Nat × Operand)).map fun (i, x) => (i, ρ x))))) (.own s.st.length 0) (s.st ++ [.row true 0 e sz []]) := fun G g w a hrel => by
  have hu := tk_slice hk
  obtain ⟨i0, hi0⟩ := info_there (there_elem ht hu)
  have hsize : i0.size = sz := by have : P.cellsOf e = sz := hsz; simpa [Program.cellsOf, hi0] using this
  have hrun : (Instr.buildSlice t 0 ((#[] : Array (Nat × Operand)).map fun (i, x) => (i, a.eval x))).run P w = .ok (.slice (some ⟨w.heap.size, 0, none⟩) 0 0) (w.alloc (.cells #[] e)) := by
    have e0 : Array.map (fun _ => (default : Value)) (Array.range 0) = #[] := by apply Array.eq_empty_of_size_eq_zero; simp
    simp [Instr.buildSlice, run_underlying hu, sizeOf, typeInfo, hi0, Instr.fill, newRow, e0]
  have hg : w.grownBy (w.alloc (.cells #[] e)) none := ⟨rfl, rfl, rfl, by simp, fun b hb _ => Below.heap_alloc _ _ _ hb⟩
  obtain ⟨g', hev, hsr, har⟩ := SR.newRow hrel e sz [] (.slice (some ⟨w.heap.size, 0, none⟩) 0 0) [] hg (fun b hb => by simp [gb] at hb; omega)
    ⟨by simp, .inr ⟨w.heap.size, 0, #[], rfl, Nat.zero_le _, heap_alloc_new _ _, Nat.le_refl _, by simp [maxLen], by simp, by simp⟩⟩ (fun ok => .nil _ _ _)
  exact ⟨_, _, g', _, by simp only [Sem.run_bind, hrun, Result.andThen_ok, Sem.run_pure], .inl rfl, hev, hsr, har⟩
theorem One.build0 {r : Option Nat} {P : Program} {ops : Array Oper} {i : Nat} {s : St} {tab : List TI} (hT : TabOk P tab) {t e : TypeId} {j : TI} (h : opAt ops i s = some (.buildSlice t 0 #[])) (ht : slT tab t = some (e, j)) : One r P ops i s (.own s.st.length 0) (s.st ++ [.row true 0 e j.size []]) := by
  obtain ⟨g1, g2, rfl⟩ := slT_ok hT ht
  exact .does h rfl fun o hop => (does_build0 t e _ g1 g2 rfl).congr fun ρ => by simp only [execOp, hop]
def intsB (P : Program) (t : TypeId) (n : Nat) : Bool := match P.underlying t with
  | some (.struct fs) => !P.stoodInHeld t && !(P.eqGuardType P.depth t) && Nat.beq fs.size n && (List.range n).all (fun i => match fs[i]? with
    | some f => Nat.beq f.offset i && f.name != "_" && P.plainKey f.type && (match P.underlying f.type with | some (.int .i64) => true | _ => false)
    | none => false)
  | _ => false
end Go.Proofs.Ytkkjlmcnfoncdaa.Aw

namespace Go.Proofs.Ytkkjlmcnfoncdaa.Aw
open Go Go.RowKit
inductive Sh where
  | int (k : IntKind) | bool | str | sl (by' : Nat) (e : Sh) | st (fs : List Sh)
mutual
def Sh.sz : Sh → Nat
  | .int _ => 1
  | .bool => 1
  | .str => 1
  | .sl _ _ => 1
  | .st fs => szs fs
def szs : List Sh → Nat
  | [] => 0
  | s :: r => s.sz + szs r
end
mutual
def shB (P : Program) : Sh → TypeId → Bool
  | .int k, t => match P.underlying t with | some (.int k') => decide (k = k') | _ => false
  | .bool, t => match P.underlying t with | some .bool => true | _ => false
  | .str, t => match P.underlying t with | some .string => true | _ => false
  | .sl b e, t => match P.underlying t with | some (.slice e') => shB P e e' && Nat.beq (P.bytesOf e') b && Nat.beq (P.cellsOf e') e.sz && !Nat.beq e.sz 0 | _ => false
  | .st fs, t => match P.underlying t with | some (.struct f) => shBs P fs f.toList 0 && Nat.beq (P.cellsOf t) (szs fs) | _ => false
def shBs (P : Program) : List Sh → List Field → Nat → Bool
  | [], [], _ => true
  | s :: r, f :: fs, off => Nat.beq f.offset off && Nat.beq (P.cellsOf f.type) s.sz && shB P s f.type && shBs P r fs (off + s.sz)
  | _, _, _ => false
end
mutual
def Dec : Sh → List IC → Prop
  | .int k, cs => ∃ n, cs = [.lit (.int k n)] ∧ (Lit.int k n).wf = true
  | .bool, cs => ∃ b, cs = [.lit (.bool b)]
  | .str, cs => ∃ s : ByteArray, cs = [.lit (.string s)] ∧ s.size ≤ 140737488351232
  | .sl b e, cs => ∃ rows : List (List IC), cs = [.sl e.sz false rows] ∧ (∀ r ∈ rows, Dec e r) ∧ rows.length * b ≤ 140737488351232
  | .st fs, cs => Decs fs cs
def Decs : List Sh → List IC → Prop
  | [], cs => cs = []
  | s :: r, cs => ∃ a b, cs = a ++ b ∧ Dec s a ∧ Decs r b
end
def Rows (W : World) (ics : List IC) (cs : List Value) : Prop := ics.length = cs.length ∧ ∀ (k : Nat) (y : IC) (v : Value), ics[k]? = some y → cs[k]? = some v → IR W (fun b => b < W.heap.size) y v
theorem Rows.append {W : World} {a b : List IC} {cs ds : List Value} (h : Rows W a cs) (k : Rows W b ds) : Rows W (a ++ b) (cs ++ ds) := by
  refine ⟨by rw [List.length_append, List.length_append, h.1, k.1], fun j y v hy hv => ?_⟩
  by_cases e : j < a.length
  · rw [List.getElem?_append_left e] at hy
    rw [List.getElem?_append_left (by rw [← h.1]; exact e)] at hv
    exact h.2 j y v hy hv
  · rw [List.getElem?_append_right (by omega)] at hy
    rw [List.getElem?_append_right (by rw [← h.1]; omega), ← h.1] at hv
    exact k.2 _ y v hy hv
theorem Rows.one {W : World} {x : IC} {v : Value} (h : IR W (fun b => b < W.heap.size) x v) : Rows W [x] [v] := ⟨rfl, fun k y u hy hu => by
  have : k = 0 := by have := (List.getElem?_eq_some_iff.1 hy).1; simp at this; omega
  subst this
  simp at hy hu
  subst hy hu
  exact h⟩
section dec
variable {H : Type} {enc : TypeId × Value → H} {P : Program} {W : World}
theorem all_append {l r : List Nat} (h : (l ++ r).all (· ≤ reachBytes) = true) : l.all (· ≤ reachBytes) = true ∧ r.all (· ≤ reachBytes) = true := by
  simpa [List.all_append] using h
theorem weightsAll_mem {e : TypeId} {ds : List (DataW H)} (h : (DataW.weightsAll P e ds).all (· ≤ reachBytes) = true) : ∀ (i : Nat) (d : DataW H), ds[i]? = some d → (d.weights P e).all (· ≤ reachBytes) = true := by
  induction ds with
  | nil => simp
  | cons x r ih =>
    simp only [DataW.weightsAll] at h
    obtain ⟨h1, h2⟩ := all_append h
    intro i d hd
    cases i with
    | zero => simp at hd; subst hd; exact h1
    | succ i => exact ih h2 i d (by simpa using hd)
theorem cells_get {base : Nat} {a : Addr} {n : Nat} {cs : List Value} (h : W.cells? base a n = some cs) : cs.length = n ∧ ∀ (k : Nat) (v : Value), cs[k]? = some v → W.cell? (a.add k) = some v := by
  unfold World.cells? at h
  split at h
  · have h1 : cs.length = n := by simpa using mapM_some_length h
    refine ⟨h1, fun k v hv => ?_⟩
    have hk : k < n := by rw [← h1]; exact (List.getElem?_eq_some_iff.1 hv).1
    have := mapM_some_get h k k (by simp [hk])
    rw [this, hv]
  · simp at h
theorem cell_block {a : Addr} {v : Value} (h : W.cell? a = some v) : a = ⟨a.block, a.off, none⟩ ∧ a.block < W.heap.size := by
  obtain ⟨b, o, s⟩ := a
  unfold World.cell? at h
  cases hb : W.heap[b]? with
  | none => simp [hb] at h
  | some ob =>
    refine ⟨?_, (Array.getElem?_eq_some_iff.1 hb).1⟩
    cases ob with
    | cells c e f =>
      simp only [hb] at h
      cases s with
      | none => rfl
      | some s => simp at h
    | _ => simp [hb] at h
mutual
theorem dec (s : Sh) (t : TypeId) (fuel : Nat) (cs : List Value) (x : DataW H × List MemPlace) (hB : shB P s t = true) (h : DataW.trod enc P W 0 (fun _ => true) true fuel t cs = some x) (hw : (x.1.weights P t).all (· ≤ reachBytes) = true) :
    ∃ ics, Dec s ics ∧ Rows W ics cs ∧ cs.length = s.sz := by
  match s, hB with
  | .int k, hB =>
    simp only [shB] at hB
    split at hB
    · rename_i k' hu
      obtain rfl := of_decide_eq_true hB
      obtain ⟨n, rfl, _, hwf⟩ := DataW.trod_int hu h
      exact ⟨_, ⟨n, rfl, hwf⟩, .one (.lit _ rfl), rfl⟩
    · simp at hB
  | .bool, hB =>
    simp only [shB] at hB
    split at hB
    · rename_i hu
      obtain ⟨b, rfl, _⟩ := DataW.trod_bool hu h
      exact ⟨_, ⟨b, rfl⟩, .one (.lit _ rfl), rfl⟩
    · simp at hB
  | .str, hB =>
    simp only [shB] at hB
    split at hB
    · rename_i hu
      obtain ⟨b, rfl, rfl, _⟩ := DataW.trod_string hu h
      refine ⟨_, ⟨b, rfl, ?_⟩, .one (.lit _ rfl), rfl⟩
      simp only [DataW.weights, List.all_cons, List.all_nil, Bool.and_true, decide_eq_true_eq] at hw
      have : b.data.toList.length = b.size := by rw [Array.length_toList]; rfl
      rw [this] at hw
      exact hw
    · simp at hB
  | .sl b e, hB =>
    simp only [shB] at hB
    split at hB
    · rename_i e' hu
      simp only [Bool.and_eq_true, Bool.not_eq_true'] at hB
      obtain ⟨⟨⟨b1, b2⟩, b3⟩, b4⟩ := hB
      have b2 := Nat.eq_of_beq_eq_true b2
      have b3 := Nat.eq_of_beq_eq_true b3
      have b4 : e.sz ≠ 0 := fun e0 => by rw [e0] at b4; simp at b4
      rcases DataW.trod_slice hu h with ⟨rfl, rfl⟩ | ⟨a, len, cap, elems, rest, n, rfl, rfl, rfl, _, hl, hm, hlen, hel, hsp, _⟩
      · exact ⟨_, ⟨[], rfl, by simp, by simp⟩, .one (.nil _ _ _ _ (by simp) (Nat.zero_le _)), rfl⟩
      · simp only [DataW.weights, hu, List.all_cons, Bool.and_eq_true, decide_eq_true_eq, List.length_map] at hw
        obtain ⟨hw1, hw2⟩ := hw
        obtain ⟨hw2, _⟩ := all_append hw2
        have hrl := (hsp rfl).1
        have hcells : ∀ i, i < len → ∃ ecs, W.cells? 0 (a.add (i * e.sz)) e.sz = some ecs ∧ ∃ r, Dec e r ∧ Rows W r ecs ∧ ecs.length = e.sz := fun i hi => by
          have hi' := hel i hi
          rw [b3] at hi'
          have hei := List.getElem?_eq_getElem (show i < elems.length by omega)
          rw [hei] at hi'
          cases hc : W.cells? 0 (a.add (i * e.sz)) e.sz with
          | none => rw [hc] at hi'; simp at hi'
          | some ecs =>
            rw [hc, Option.bind_some] at hi'
            obtain ⟨r, h1, h2, h3⟩ := dec e e' n ecs elems[i] b1 hi' (weightsAll_mem hw2 i _ (by rw [List.getElem?_map, hei]; rfl))
            exact ⟨ecs, rfl, r, h1, h2, h3⟩
        have hex : ∃ rows : Nat → List IC, ∀ i, i < len → ∃ ecs, W.cells? 0 (a.add (i * e.sz)) e.sz = some ecs ∧ Dec e (rows i) ∧ Rows W (rows i) ecs ∧ ecs.length = e.sz := by
          refine ⟨fun i => Classical.epsilon fun r => ∃ ecs, W.cells? 0 (a.add (i * e.sz)) e.sz = some ecs ∧ Dec e r ∧ Rows W r ecs ∧ ecs.length = e.sz, fun i hi => ?_⟩
          obtain ⟨ecs, q1, r, q2, q3, q4⟩ := hcells i hi
          exact Classical.epsilon_spec (p := fun r => ∃ ecs, W.cells? 0 (a.add (i * e.sz)) e.sz = some ecs ∧ Dec e r ∧ Rows W r ecs ∧ ecs.length = e.sz) ⟨r, ecs, q1, q2, q3, q4⟩
        obtain ⟨rows, hrows⟩ := hex
        have hget : ∀ (j : Nat) (r : List IC), ((List.range len).map rows)[j]? = some r → j < len ∧ r = rows j := fun j r hj => by
          rw [List.getElem?_map] at hj
          simp only [Option.map_eq_some_iff] at hj
          obtain ⟨q, hq, rfl⟩ := hj
          have := List.getElem?_eq_some_iff.1 hq
          obtain ⟨g1, g2⟩ := this
          simp at g1 g2
          exact ⟨g1, by rw [g2]⟩
        have hlenR : ((List.range len).map rows).length = len := by simp
        refine ⟨[.sl e.sz false ((List.range len).map rows)], ⟨_, rfl, fun r hr => ?_, ?_⟩, .one ?_, rfl⟩
        · obtain ⟨i, hi, rfl⟩ := List.mem_map.1 hr
          obtain ⟨_, _, h2, _⟩ := hrows i (List.mem_range.1 hi)
          exact h2
        · rw [hlenR]
          rw [b2] at hw1
          have : len * b ≤ (elems.length + rest.length) * b := Nat.mul_le_mul_right _ (by omega)
          exact Nat.le_trans this hw1
        · rcases Nat.eq_zero_or_pos len with hz | hz
          · subst hz
            simp only [List.range_zero, List.map_nil]
            exact .nil _ _ _ _ (by simp) hm
          · obtain ⟨ecs, q1, _, _, q4⟩ := hrows 0 hz
            obtain ⟨_, hc0⟩ := cells_get q1
            have h00 := hc0 0 _ (List.getElem?_eq_getElem (by omega))
            rw [Nat.zero_mul] at h00
            have ha0 : (a.add 0).add 0 = a := by simp [Addr.add]
            rw [ha0] at h00
            obtain ⟨hab, hblt⟩ := cell_block h00
            have hir := IR.sl (w := W) (ok := fun b => b < W.heap.size) e.sz false ((List.range len).map rows) a.block a.off cap (fun j k => (W.cell? ((⟨a.block, a.off, none⟩ : Addr).add (j * e.sz + k))).getD undef) hblt (by rw [hlenR]; exact hl) hm (by simp) hblt
              (fun j r hj => by
                obtain ⟨hj1, rfl⟩ := hget j r hj
                obtain ⟨ecs, _, _, p3, p4⟩ := hrows j hj1
                rw [p3.1, p4])
              (fun j r k y hj hk => by
                obtain ⟨hj1, rfl⟩ := hget j r hj
                obtain ⟨ecs, p1, _, p3, p4⟩ := hrows j hj1
                have hkl : k < ecs.length := by rw [← p3.1]; exact (List.getElem?_eq_some_iff.1 hk).1
                have := (cells_get p1).2 k _ (List.getElem?_eq_getElem hkl)
                rw [hab, add_block, add_block] at this
                rw [add_block]
                rw [show a.off + (j * e.sz + k) = a.off + j * e.sz + k by omega, this]
                rfl)
              (fun j r k y hj hk => by
                obtain ⟨hj1, rfl⟩ := hget j r hj
                obtain ⟨ecs, p1, _, p3, p4⟩ := hrows j hj1
                have hkl : k < ecs.length := by rw [← p3.1]; exact (List.getElem?_eq_some_iff.1 hk).1
                have := (cells_get p1).2 k _ (List.getElem?_eq_getElem hkl)
                rw [hab, add_block, add_block] at this
                rw [add_block]
                rw [show a.off + (j * e.sz + k) = a.off + j * e.sz + k by omega, this]
                exact p3.2 k y _ hk (List.getElem?_eq_getElem hkl))
            rw [hlenR] at hir
            rw [hab]
            exact hir
    · simp at hB
  | .st fs, hB =>
    simp only [shB] at hB
    split at hB
    · rename_i f hu
      simp only [Bool.and_eq_true] at hB
      obtain ⟨b1, b2⟩ := hB
      have b2 := Nat.eq_of_beq_eq_true b2
      obtain ⟨xs, n, rfl, rfl, hcl, hxl, hf⟩ := DataW.trod_struct hu h
      simp only [DataW.weights, hu] at hw
      obtain ⟨ics, h1, h2⟩ := decs fs f.toList 0 n cs (xs) b1 (by simp [hxl]) (fun i fl hi => hf i fl (by simpa using hi)) hw (by omega)
      refine ⟨ics, h1, ?_, by simp only [Sh.sz]; omega⟩
      rw [List.drop_zero, List.take_of_length_le (by omega)] at h2
      exact h2
    · simp at hB
theorem decs (ss : List Sh) (fs : List Field) (off n : Nat) (cs : List Value) (xs : List (DataW H × List MemPlace)) (hB : shBs P ss fs off = true) (hx : xs.length = fs.length)
    (hf : ∀ (i : Nat) (f : Field), fs[i]? = some f → DataW.trod enc P W 0 (fun _ => true) true n f.type ((cs.drop f.offset).take (P.cellsOf f.type)) = xs[i]?) (hw : (DataW.weightsEach P (fs.map (·.type)) (xs.map (·.1))).all (· ≤ reachBytes) = true) (hl : off + szs ss ≤ cs.length) :
    ∃ ics, Decs ss ics ∧ Rows W ics ((cs.drop off).take (szs ss)) := by
  match ss, fs, xs with
  | [], [], _ => exact ⟨[], rfl, by simp [szs], by simp⟩
  | [], f :: fs, _ => simp [shBs] at hB
  | s :: ss, [], _ => simp [shBs] at hB
  | s :: ss, f :: fs, [] => simp at hx
  | s :: ss, f :: fs, x :: xs =>
    simp only [shBs, Bool.and_eq_true] at hB
    obtain ⟨⟨⟨b1, b2⟩, b3⟩, b4⟩ := hB
    have b1 := Nat.eq_of_beq_eq_true b1
    have b2 := Nat.eq_of_beq_eq_true b2
    simp only [List.map_cons, DataW.weightsEach] at hw
    obtain ⟨w1, w2⟩ := all_append hw
    simp only [szs] at hl
    have h0 := hf 0 f rfl
    rw [b1, b2] at h0
    obtain ⟨i1, d1, r1, _⟩ := dec s f.type n _ x b3 (by simpa using h0) w1
    obtain ⟨i2, d2, r2⟩ := decs ss fs (off + s.sz) n cs xs b4 (by simpa using hx) (fun i f' hi => by simpa using hf (i + 1) f' (by simpa using hi)) w2 (by omega)
    refine ⟨i1 ++ i2, ⟨i1, i2, rfl, d1, d2⟩, ?_⟩
    have hcat := r1.append r2
    have : (cs.drop off).take (s.sz + szs ss) = (cs.drop off).take s.sz ++ (cs.drop (off + s.sz)).take (szs ss) := by
      rw [← List.drop_drop, ← List.take_add]
    simp only [szs]
    rw [this]
    exact hcat
end
end dec
end Go.Proofs.Ytkkjlmcnfoncdaa.Aw

namespace Go.Proofs.Ytkkjlmcnfoncdaa.Aw
open Go Go.RowKit
def AnyQ (P : Program) (ops : Array Oper) (fuel : Nat) (listed : Array Bool) (s : St) (Q : St → Prop) : Prop :=
  ∀ (G : Nat → Prop) (g : Ghost) (w : World) (a : Act) (QQ : Exit → Act → World → Prop), Rel G s g w a → (∀ s' g' w' a', Q s' → Rel G s' g' w' a' → Evo s.st g w s'.st g' w' → a'.defers = a.defers → QQ Exit.normal a' w') → wpAnyIn (FW none) 0 P .any ops (fun e a w => e = .normal ∧ QQ e a w) fuel listed a w
inductive AllR (P : Program) (ops : Array Oper) (fuel : Nat) (listed : Array Bool) (s : St) (Q : St → Prop) : List Nat → Prop where
  | nil : AllR P ops fuel listed s Q []
  | cons {i : Nat} {r : List Nat} {x : AV} {st' : List AObj} (h : One none P ops i s x st') (k : AnyQ P ops fuel (listed.setIfInBounds i true) (putS s (dstOf ops i) x st') Q) (hr : AllR P ops fuel listed s Q r) : AllR P ops fuel listed s Q (i :: r)
theorem AllR.mem {P : Program} {ops : Array Oper} {fuel : Nat} {listed : Array Bool} {s : St} {Q : St → Prop} {l : List Nat} (h : AllR P ops fuel listed s Q l) : ∀ i ∈ l, ∃ x st', One none P ops i s x st' ∧ AnyQ P ops fuel (listed.setIfInBounds i true) (putS s (dstOf ops i) x st') Q := by
  induction h with
  | nil => simp
  | cons h k hr ih =>
    intro j hj
    rcases List.mem_cons.1 hj with rfl | hj
    · exact ⟨_, _, h, k⟩
    · exact ih j hj
theorem AnyQ.all {P : Program} {ops : Array Oper} {fuel : Nat} {listed : Array Bool} {s : St} {Q : St → Prop} {i : Nat} {r : List Nat} (hr : Region.ready .any ops listed = i :: r) (h : AllR P ops fuel listed s Q (i :: r)) : AnyQ P ops (fuel + 1) listed s Q := fun G g w a QQ hrel kk => by
  refine wpAnyIn_all hr (by simp) fun j hj => ?_
  obtain ⟨x, st', h1, k1⟩ := h.mem j hj
  have hlt := mem_ready (md := .any) (ops := ops) (listed := listed) (i := j) (by rw [hr]; exact hj)
  have := h1 [] (fun s' => s' = putS s (dstOf ops j) x st') (AOL.nil rfl) G g w a (fun e a' w' => match e with | .normal => wpAnyIn (FW none) 0 P .any ops (fun e a w => e = .normal ∧ QQ e a w) fuel (listed.setIfInBounds j true) a' w' | e => e = .normal ∧ QQ e a' w') hrel ?_
  · exact wpOpIn_of this
  · rintro s' g' w' a' rfl hr' hev hdf _
    refine k1 G g' w' a' QQ hr' fun s2 g2 w2 a2 q hr2 he2 hd2 => kk s2 g2 w2 a2 q hr2 (hev.trans he2) (hd2.trans hdf)
theorem AnyQ.fin {P : Program} {ops : Array Oper} {fuel : Nat} {listed : Array Bool} {s : St} {Q : St → Prop} (hr : Region.ready .any ops listed = []) (h : Q s) : AnyQ P ops fuel listed s Q := fun G g w a QQ hrel kk =>
  wpAnyIn_done hr ⟨rfl, kk s g w a h hrel (.refl _ _ _) rfl⟩ fuel
def evAt (A : Ar) (tab : List TI) (ops : Array Oper) (i : Nat) (s : St) : Option (AV × List AObj) := match ops[i]? with
  | some o => match gd ops s o.guard with
    | some true => bif dstOk s o.dst then ev1 A tab s o.op else none
    | _ => none
  | none => none
theorem One.ev {A : Ar} {tab : List TI} (hA : A = real) {r : Option Nat} {P : Program} (hT : TabOk P tab) {ops : Array Oper} {i : Nat} {s : St} {x : AV} {st' : List AObj} (h : evAt A tab ops i s = some (x, st')) : One r P ops i s x st' := by
  unfold evAt at h
  split at h
  · rename_i o ho
    split at h
    · rename_i hg
      cases hd : dstOk s o.dst with
      | false => rw [hd] at h; simp at h
      | true =>
        rw [hd] at h
        intro rest Q k
        have he : dstOf ops i = o.dst := by simp [dstOf, ho]
        rw [he] at k
        exact AOL.step ho hg hd (ev1_nd h) (ev1_mem hA hT h) k
    · simp at h
  · simp at h
end Go.Proofs.Ytkkjlmcnfoncdaa.Aw

namespace Go.Proofs.Ytkkjlmcnfoncdaa.Aw
open Go Go.RowKit
inductive ILe : IC → IC → Prop where
  | refl (x : IC) : ILe x x
  | nil (a c : Nat) (b : Bool) : ILe (.sl a b []) (.sl c false [])
inductive ILes : List IC → List IC → Prop where
  | nil : ILes [] []
  | cons {x y : IC} {r r' : List IC} (h : ILe x y) (k : ILes r r') : ILes (x :: r) (y :: r')
inductive PLe : PV → PV → Prop where
  | refl (x : PV) : PLe x x
  | c {x y : IC} (h : ILe x y) : PLe (.c x) (.c y)
  | agg {xs ys : List IC} (h : ILes xs ys) : PLe (.agg xs) (.agg ys)
inductive PLes : List PV → List PV → Prop where
  | nil : PLes [] []
  | cons {x y : PV} {r r' : List PV} (h : PLe x y) (k : PLes r r') : PLes (x :: r) (y :: r')
theorem IR.le {w : World} {ok : Nat → Prop} {x y : IC} {v : Value} (h : IR w ok x v) (k : ILe x y) : IR w ok y v := by
  cases k with
  | refl => exact h
  | nil a c b =>
    obtain ⟨A, n, rfl, _, h2, _⟩ := h.slice
    exact .nil _ _ _ _ (by simp) h2
theorem ILes.get {xs ys : List IC} (h : ILes xs ys) : xs.length = ys.length ∧ ∀ (k : Nat) (y : IC), ys[k]? = some y → ∃ x, xs[k]? = some x ∧ ILe x y := by
  induction h with
  | nil => simp
  | cons h k ih =>
    refine ⟨by simp [ih.1], fun j y hj => ?_⟩
    cases j with
    | zero => simp at hj; subst hj; exact ⟨_, rfl, h⟩
    | succ j => exact ih.2 j y (by simpa using hj)
theorem PLes.get {xs ys : List PV} (h : PLes xs ys) : xs.length = ys.length ∧ ∀ (k : Nat) (y : PV), ys[k]? = some y → ∃ x, xs[k]? = some x ∧ PLe x y := by
  induction h with
  | nil => simp
  | cons h k ih =>
    refine ⟨by simp [ih.1], fun j y hj => ?_⟩
    cases j with
    | zero => simp at hj; subst hj; exact ⟨_, rfl, h⟩
    | succ j => exact ih.2 j y (by simpa using hj)
theorem PR.le {w : World} {ok : Nat → Prop} {x y : PV} {v : Value} (h : PR w ok x v) (k : PLe x y) : PR w ok y v := by
  cases k with
  | refl => exact h
  | c k =>
    cases h with
    | c x v h => exact .c _ _ (h.le k)
  | agg k =>
    cases h with
    | agg xs vs h1 h2 =>
      refine .agg _ _ (by rw [h1]; exact k.get.1) fun j y hj => ?_
      obtain ⟨x, hx, hle⟩ := k.get.2 j y hj
      exact (h2 j x hx).le hle
theorem PureCalls.weaken {P : Program} {f : FuncId} {pvs pvs' : List PV} {r : PV} (h : PureCalls P f pvs' r) (k : PLes pvs pvs') : PureCalls P f pvs r :=
  ⟨h.1, fun ok w vals hsz hv => h.2 ok w vals (by rw [hsz]; exact k.get.1) fun j y hj => by
    obtain ⟨x, hx, hle⟩ := k.get.2 j y hj
    exact (hv j x hx).le hle⟩
end Go.Proofs.Ytkkjlmcnfoncdaa.Aw

namespace Go.Proofs.Ytkkjlmcnfoncdaa.Aw
open Go Go.RowKit Go.WideShapes
section args
variable {H : Type} {enc : TypeId × Value → H} {P : Program} {W : World}
abbrev below (W : World) : Nat → Prop := fun b => b < W.heap.size
theorem argSt {t : TypeId} {base : Nat} {v : Value} {d : DataW H} {ps : List MemPlace} (ss : List Sh) {flds : Array Field} (hu : P.underlying t = some (.struct flds)) (hB : shB P (.st ss) t = true) (hok : Value.okWide P W .any base t v)
    (h : DataW.Trod enc P W 0 (fun _ => true) true t v d ps) (hw : (d.weights P t).all (· ≤ reachBytes) = true) : ∃ ics, Decs ss ics ∧ PR W (below W) (.agg ics) v := by
  obtain ⟨cs, rfl, _⟩ := okWide_struct hu hok
  obtain ⟨fuel, hf⟩ := h
  obtain ⟨ics, h1, h2, _⟩ := dec (.st ss) t fuel _ (d, ps) hB hf hw
  refine ⟨ics, h1, .agg _ _ (by rw [h2.1]; simp [Value.cells]) fun k x hk => ?_⟩
  have hlt : k < cs.size := by
    have := (List.getElem?_eq_some_iff.1 hk).1
    rw [h2.1] at this
    simpa [Value.cells] using this
  refine h2.2 k x _ hk ?_
  simp [Value.cells, hlt]
end args
theorem decInts {rows : List (List IC)} (h : ∀ r ∈ rows, Dec (.int .i64) r) : ∃ l : List Int, rows = (l.map fun z => [I z]) ∧ ∀ z ∈ l, (Lit.int .i64 z).wf = true := by
  induction rows with
  | nil => exact ⟨[], rfl, by simp⟩
  | cons r rs ih =>
    obtain ⟨l, rfl, hl⟩ := ih fun r hr => h r (List.mem_cons_of_mem _ hr)
    obtain ⟨n, rfl, hn⟩ := h r List.mem_cons_self
    refine ⟨n :: l, rfl, fun z hz => ?_⟩
    rcases List.mem_cons.1 hz with rfl | hz
    · exact hn
    · exact hl z hz
theorem decPairs {rows : List (List IC)} (h : ∀ r ∈ rows, Dec (.st [.int .i64, .int .i64]) r) : ∃ l : List (Int × Int), rows = (l.map fun z => [I z.1, I z.2]) ∧ ∀ z ∈ l, (Lit.int .i64 z.1).wf = true ∧ (Lit.int .i64 z.2).wf = true := by
  induction rows with
  | nil => exact ⟨[], rfl, by simp⟩
  | cons r rs ih =>
    obtain ⟨l, rfl, hl⟩ := ih fun r hr => h r (List.mem_cons_of_mem _ hr)
    obtain ⟨a, b, rfl, ⟨n, rfl, hn⟩, c, d, rfl, ⟨m, rfl, hm⟩, rfl⟩ := h r List.mem_cons_self
    refine ⟨(n, m) :: l, rfl, fun z hz => ?_⟩
    rcases List.mem_cons.1 hz with rfl | hz
    · exact ⟨hn, hm⟩
    · exact hl z hz
theorem pr_true {W' : World} {ok : Nat → Prop} {v : Value} (h : PR W' ok (.c (.lit (.bool true))) v) : v = .bool true := by
  cases h with
  | c x v h => cases h with | lit v h => rfl
end Go.Proofs.Ytkkjlmcnfoncdaa.Aw

namespace Go.Proofs.Ytkkjlmcnfoncdaa.Aw
open Go Go.RowKit
def bitsV (op : BinOp) (k : IntKind) (a b : Int) : Int := match op with
  | .and => k.wrap (BitVec.ofInt k.bits a &&& BitVec.ofInt k.bits b).toNat
  | .or => k.wrap (BitVec.ofInt k.bits a ||| BitVec.ofInt k.bits b).toNat
  | .xor => k.wrap (BitVec.ofInt k.bits a ^^^ BitVec.ofInt k.bits b).toNat
  | _ => k.wrap (BitVec.ofInt k.bits a &&& ~~~ BitVec.ofInt k.bits b).toNat
def isBits : BinOp → Bool
  | .and | .or | .xor | .andNot => true
  | _ => false
theorem does_bits {P : Program} {s : St} (op : BinOp) (hop : isBits op = true) (t : TypeId) (x y : Operand) (k : IntKind) (a b : Int) (hx : s.ev x = .ic (.lit (.int k a))) (hy : s.ev y = .ic (.lit (.int k b))) :
    Does P s (fun ρ => do pure (.value (← (do eqGuard op t x y (ρ x) (ρ y); binOp op t (ρ x) (ρ y) : Sem Value)))) (.ic (.lit (.int k (bitsV op k a b)))) s.st :=
  .pure fun G g w act hrel => by
    have h1 := hrel.ev x
    have h2 := hrel.ev y
    rw [hx] at h1
    rw [hy] at h2
    have e1 := h1.lit_inv
    have e2 := h2.lit_inv
    refine ⟨_, ?_, .ic _ _ (.lit _ rfl)⟩
    cases op <;> simp [isBits] at hop <;> simp [e1, e2, eqGuard, binOp, Op.intBits, bitsV]
theorem One.bits {r : Option Nat} {P : Program} {ops : Array Oper} {i : Nat} {s : St} {op : BinOp} {t t' : TypeId} {x y : Operand} {k : IntKind} {a b c : Int} (h : opAt ops i s = some (.binOp op t x y t')) (hop : isBits op = true) (hx : s.ev x = .ic (.lit (.int k a))) (hy : s.ev y = .ic (.lit (.int k b)))
    (hc : bitsV op k a b = c) : One r P ops i s (.ic (.lit (.int k c))) s.st := by
  subst hc
  exact .does h rfl fun o ho => (does_bits op hop t x y k a b hx hy).congr fun ρ => by simp only [execOp, ho]
theorem does_shr {P : Program} {s : St} (t : TypeId) (x y : Operand) (k k' : IntKind) (a b : Int) (hx : s.ev x = .ic (.lit (.int k a))) (hy : s.ev y = .ic (.lit (.int k' b))) (h0 : 0 ≤ b) :
    Does P s (fun ρ => do pure (.value (← (do eqGuard .shr t x y (ρ x) (ρ y); binOp .shr t (ρ x) (ρ y) : Sem Value)))) (.ic (.lit (.int k (a.fdiv (2 ^ min b.toNat k.bits))))) s.st :=
  .pure fun G g w act hrel => by
    have h1 := hrel.ev x
    have h2 := hrel.ev y
    rw [hx] at h1
    rw [hy] at h2
    have e1 := h1.lit_inv
    have e2 := h2.lit_inv
    refine ⟨_, ?_, .ic _ _ (.lit _ rfl)⟩
    have hn : ¬ b < 0 := by omega
    simp [e1, e2, eqGuard, binOp, Op.shift, hn]
theorem One.shr {r : Option Nat} {P : Program} {ops : Array Oper} {i : Nat} {s : St} {t t' : TypeId} {x y : Operand} {k k' : IntKind} {a b c : Int} (h : opAt ops i s = some (.binOp .shr t x y t')) (hx : s.ev x = .ic (.lit (.int k a))) (hy : s.ev y = .ic (.lit (.int k' b))) (h0 : 0 ≤ b)
    (hc : a.fdiv (2 ^ min b.toNat k.bits) = c) : One r P ops i s (.ic (.lit (.int k c))) s.st := by
  subst hc
  exact .does h rfl fun o ho => (does_shr t x y k k' a b hx hy h0).congr fun ρ => by simp only [execOp, ho]
end Go.Proofs.Ytkkjlmcnfoncdaa.Aw

namespace Go.Proofs.Ytkkjlmcnfoncdaa.Aw
open Go Go.RowKit
abbrev hid (A : Ar) {α : Type} (x : α) : α := A (.hid α) fun _ => x
theorem hid_eq {A : Ar} (hA : A = real) {α : Type} (x : α) : hid A x = x := by subst hA; rfl
theorem rhid {A : Ar} (hA : A = real) {α : Type} (f : Unit → α) : A (.hid α) f = f () := by subst hA; rfl
section go
variable {r : Option Nat} {P : Program} {A : Ar} {tab : List TI} {ops : Array Oper}
def advO (A : Ar) (tab : List TI) (ops : Array Oper) (l : List Nat) (s : St) : Option (List Nat × St) :=
  let q := adv A tab ops l s
  bif Nat.blt q.1.length l.length then some q else none
theorem AOL.go (hA : A = real) (hT : TabOk P tab) {Q : St → Prop} {l l' : List Nat} {s s' : St} (h : advO A tab ops l s = some (l', s')) (k : AOL r P ops l' s' Q) : AOL r P ops l s Q := by
  simp only [advO] at h
  refine AOL.adv hA hT l s ?_
  cases hb : Nat.blt (Aw.adv A tab ops l s).1.length l.length with
  | true =>
    simp only [hb, cond_true, Option.some.injEq] at h
    rw [h]
    exact k
  | false => simp [hb] at h
def ung (ops : Array Oper) (i : Nat) : Bool := match ops[i]? with
  | some o => o.guard.isNone
  | none => false
def advG (A : Ar) (tab : List TI) (ops : Array Oper) (l : List Nat) (s : St) : Option (List Nat × St) :=
  let p := l.takeWhile (ung ops)
  let q := adv A tab ops p s
  bif Nat.blt q.1.length p.length then some (q.1 ++ l.dropWhile (ung ops), q.2) else none
def gdv (ops : Array Oper) (s : St) (i : Nat) : Option Bool := match ops[i]? with
  | some o => match o.guard with
    | some (j, _) => match ops[j]? with
      | some p => match p.dst with
        | some d => match s.get d with
          | .ic (.lit (.bool b)) => some b
          | _ => none
        | none => none
      | none => none
    | none => none
  | none => none
theorem AOL.gs {Q : St → Prop} {i : Nat} {rest : List Nat} {s : St} {b : Bool} (hg : gdv ops s i = some b) (h1 : b = true → AOL r P ops (i :: rest) s Q) (h2 : b = false → AOL r P ops (i :: rest) s Q) : AOL r P ops (i :: rest) s Q := by
  cases b with
  | true => exact h1 rfl
  | false => exact h2 rfl
theorem AOL.one {Q : St → Prop} {i : Nat} {rest : List Nat} {s : St} {x : AV} {st' : List AObj} (h : One r P ops i s x st') (k : AOL r P ops rest (putS s (dstOf ops i) x st') Q) : AOL r P ops (i :: rest) s Q := h rest Q k
end go
section qgo
variable {P : Program} {A : Ar} {tab : List TI} {ops : Array Oper}
def qadvO (A : Ar) (tab : List TI) (ops : Array Oper) (l : List Nat) (s : St) : Option (List Nat × St) :=
  let q := qadv A tab ops l s
  bif Nat.blt q.1.length l.length then some q else none
theorem QS.go (hA : A = real) (hT : TabOk P tab) {Q : St → Prop} {l l' : List Nat} {s s' : St} (h : qadvO A tab ops l s = some (l', s')) (k : QS P ops l' s' Q) : QS P ops l s Q := by
  simp only [qadvO] at h
  refine QS.adv hA hT l s ?_
  cases hb : Nat.blt (qadv A tab ops l s).1.length l.length with
  | true =>
    simp only [hb, cond_true, Option.some.injEq] at h
    rw [h]
    exact k
  | false => simp [hb] at h
def qadvG (A : Ar) (tab : List TI) (ops : Array Oper) (l : List Nat) (s : St) : Option (List Nat × St) :=
  let p := l.takeWhile (ung ops)
  let q := qadv A tab ops p s
  bif Nat.blt q.1.length p.length then some (q.1 ++ l.dropWhile (ung ops), q.2) else none
theorem QS.gs {Q : St → Prop} {i : Nat} {rest : List Nat} {s : St} {b : Bool} (hg : gdv ops s i = some b) (h1 : b = true → QS P ops (i :: rest) s Q) (h2 : b = false → QS P ops (i :: rest) s Q) : QS P ops (i :: rest) s Q := by
  cases b with
  | true => exact h1 rfl
  | false => exact h2 rfl
theorem QS.nil {Q : St → Prop} {s : St} (h : Q s) : QS P ops [] s Q := h
def findQ (ops : Array Oper) : Nat → Option Nat
  | 0 => match drawB ops 0 with
    | true => some 0
    | false => none
  | n + 1 => match drawB ops (n + 1) with
    | true => some (n + 1)
    | false => findQ ops n
end qgo
section one
variable {r : Option Nat} {P : Program} {ops : Array Oper} {i : Nat} {s : St} {tab : List TI} {A : Ar}
theorem One.elemM (hA : A = real) (hT : TabOk P tab) {α : Type} [Inhabited α] {f : α → List IC} {l : List α} {t e : TypeId} {j : TI} {x y : Operand} {ex : Bool} {k : IntKind} {n : Int} (h : opAt ops i s = some (.indexAddr t x y)) (ht : slT tab t = some (e, j))
    (hx : s.ev x = .ic (.sl j.size ex (A (.hid _) fun _ => List.map f l))) (hy : s.ev y = .ic (.lit (.int k n))) (h0 : 0 ≤ n) (h1 : n < l.length) : One r P ops i s (.at (f (A (.hid _) fun _ => l.getD n.toNat default))) s.st := by
  refine One.elem hT h ht hx hy h0 ?_
  rw [rhid hA, rhid hA]
  have : n.toNat < l.length := by omega
  simp [this]
theorem One.cut_hM (hA : A = real) (hT : TabOk P tab) {α : Type} {f : α → List IC} {l : List α} {t e : TypeId} {j : TI} {x z : Operand} {ex : Bool} {k : IntKind} {n : Int} (h : opAt ops i s = some (.slice t x none (some z) none)) (ht : slT tab t = some (e, j))
    (hx : s.ev x = .ic (.sl j.size ex (A (.hid _) fun _ => List.map f l))) (hz : s.ev z = .ic (.lit (.int k n))) (h0 : 0 ≤ n) (h1 : n ≤ l.length) : One r P ops i s (.ic (.sl j.size false (A (.hid _) fun _ => List.map f (l.take n.toNat)))) s.st := by
  have := One.cut_h (r := r) hT h ht hx hz h0 (by rw [rhid hA]; simpa using h1)
  rw [rhid hA] at this ⊢
  rw [List.map_take]
  exact this
theorem One.cut_lM (hA : A = real) (hT : TabOk P tab) {α : Type} {f : α → List IC} {l : List α} {t e : TypeId} {j : TI} {x z : Operand} {ex : Bool} {k : IntKind} {n : Int} (h : opAt ops i s = some (.slice t x (some z) none none)) (ht : slT tab t = some (e, j))
    (hx : s.ev x = .ic (.sl j.size ex (A (.hid _) fun _ => List.map f l))) (hz : s.ev z = .ic (.lit (.int k n))) (h0 : 0 ≤ n) (h1 : n ≤ l.length) : One r P ops i s (.ic (.sl j.size false (A (.hid _) fun _ => List.map f (l.drop n.toNat)))) s.st := by
  have := One.cut_l (r := r) hT h ht hx hz h0 (by rw [rhid hA]; simpa using h1)
  rw [rhid hA] at this ⊢
  rw [List.map_drop]
  exact this
theorem One.cut_lhM (hA : A = real) (hT : TabOk P tab) {α : Type} {f : α → List IC} {l : List α} {t e : TypeId} {j : TI} {x y z : Operand} {ex : Bool} {k k' : IntKind} {m n : Int} (h : opAt ops i s = some (.slice t x (some y) (some z) none)) (ht : slT tab t = some (e, j))
    (hx : s.ev x = .ic (.sl j.size ex (A (.hid _) fun _ => List.map f l))) (hy : s.ev y = .ic (.lit (.int k m))) (hz : s.ev z = .ic (.lit (.int k' n))) (h0 : 0 ≤ m) (h1 : m ≤ n) (h2 : n ≤ l.length) :
    One r P ops i s (.ic (.sl j.size false (A (.hid _) fun _ => List.map f ((l.take n.toNat).drop m.toNat)))) s.st := by
  have := One.cut_lh (r := r) hT h ht hx hy hz h0 h1 (by rw [rhid hA]; simpa using h2)
  rw [rhid hA] at this ⊢
  rw [List.map_drop, List.map_take]
  exact this
theorem One.clipM (hT : TabOk P tab) {t e : TypeId} {j : TI} {x y z : Operand} {ex : Bool} {xs : List (List IC)} {k k' : IntKind} {l n : Int} (h : opAt ops i s = some (.slice t x none (some y) (some z))) (ht : slT tab t = some (e, j))
    (hx : s.ev x = .ic (.sl j.size ex xs)) (hy : s.ev y = .ic (.lit (.int k l))) (hz : s.ev z = .ic (.lit (.int k' n))) (hl : l = (xs.length : Int)) (hn : n = (xs.length : Int)) : One r P ops i s (.ic (.sl j.size true xs)) s.st :=
  One.clip hT h ht hx hy hz hl hn
theorem One.appendM (hA : A = real) (hT : TabOk P tab) {α : Type} {f : α → List IC} {l : List α} (v : α) {t e : TypeId} {j : TI} {x y : Operand} {ex : Bool} {ys : List (List IC)} (h : opAt ops i s = some (.call { callee := .builtin .append, args := #[x, y], argTypes := #[t, t] })) (ht : slT tab t = some (e, j))
    (hj : j.zero.isSome = true) (hx : s.ev x = .ic (.sl j.size true (A (.hid _) fun _ => List.map f l))) (hy : s.ev y = .ic (.sl j.size ex ys)) (hv : ys = [f v]) (hn : (l.length + 1) * j.bytes ≤ 140737488355328) (hm : l.length + 1 ≤ maxLen) :
    One r P ops i s (.ic (.sl j.size false (A (.hid _) fun _ => List.map f (l ++ [v])))) s.st := by
  subst hv
  have := One.append (r := r) hT h ht hj hx (.inl rfl) hy (by rw [rhid hA]; simpa using hn) (by rw [rhid hA]; simpa using hm)
  rw [rhid hA] at this ⊢
  rw [List.map_append]
  exact this
theorem One.appendMM (hA : A = real) (hT : TabOk P tab) {α : Type} {f : α → List IC} {l l2 : List α} {t e : TypeId} {j : TI} {x y : Operand} {ex : Bool} (h : opAt ops i s = some (.call { callee := .builtin .append, args := #[x, y], argTypes := #[t, t] })) (ht : slT tab t = some (e, j))
    (hj : j.zero.isSome = true) (hx : s.ev x = .ic (.sl j.size true (A (.hid _) fun _ => List.map f l))) (hy : s.ev y = .ic (.sl j.size ex (A (.hid _) fun _ => List.map f l2))) (hn : (l.length + l2.length) * j.bytes ≤ 140737488355328) (hm : l.length + l2.length ≤ maxLen) :
    One r P ops i s (.ic (.sl j.size false (A (.hid _) fun _ => List.map f (l ++ l2)))) s.st := by
  have := One.append (r := r) hT h ht hj hx (.inl rfl) hy (by rw [rhid hA, rhid hA]; simpa using hn) (by rw [rhid hA, rhid hA]; simpa using hm)
  rw [rhid hA, rhid hA] at this
  rw [rhid hA, List.map_append]
  exact this
theorem One.appendOwnM (hA : A = real) (hT : TabOk P tab) {α : Type} {f : α → List IC} {l : List α} (v : α) {t e : TypeId} {j : TI} {x y : Operand} {ex : Bool} {q ver : Nat} {ys : List (List IC)} (h : opAt ops i s = some (.call { callee := .builtin .append, args := #[x, y], argTypes := #[t, t] })) (ht : slT tab t = some (e, j))
    (hj : (Nat.blt 0 j.size && (j.zero.map (·.length) == some j.size)) = true) (hx : s.ev x = .own q ver) (hs : s.st[q]? = some (.row true ver e j.size (A (.hid _) fun _ => List.map f l))) (hy : s.ev y = .ic (.sl j.size ex ys)) (hv : ys = [f v]) (hn : (l.length + 1) * j.bytes ≤ 140737488355328) (hm : l.length + 1 ≤ maxLen) :
    One r P ops i s (.own q (ver + 1)) (s.st.set q (.row true (ver + 1) e j.size (A (.hid _) fun _ => List.map f (l ++ [v])))) := by
  subst hv
  have := One.appendOwn (r := r) hT h ht hj hx hs hy (by rw [rhid hA]; simpa using hn) (by rw [rhid hA]; simpa using hm)
  rw [rhid hA] at this
  rw [rhid hA, List.map_append]
  exact this
theorem One.appendOwnMM (hA : A = real) (hT : TabOk P tab) {α : Type} {f : α → List IC} {l l2 : List α} {t e : TypeId} {j : TI} {x y : Operand} {ex : Bool} {q ver : Nat} (h : opAt ops i s = some (.call { callee := .builtin .append, args := #[x, y], argTypes := #[t, t] })) (ht : slT tab t = some (e, j))
    (hj : (Nat.blt 0 j.size && (j.zero.map (·.length) == some j.size)) = true) (hx : s.ev x = .own q ver) (hs : s.st[q]? = some (.row true ver e j.size (A (.hid _) fun _ => List.map f l))) (hy : s.ev y = .ic (.sl j.size ex (A (.hid _) fun _ => List.map f l2))) (hn : (l.length + l2.length) * j.bytes ≤ 140737488355328) (hm : l.length + l2.length ≤ maxLen) :
    One r P ops i s (.own q (ver + 1)) (s.st.set q (.row true (ver + 1) e j.size (A (.hid _) fun _ => List.map f (l ++ l2)))) := by
  have := One.appendOwn (r := r) hT h ht hj hx hs hy (by rw [rhid hA, rhid hA]; simpa using hn) (by rw [rhid hA, rhid hA]; simpa using hm)
  rw [rhid hA, rhid hA] at this
  rw [rhid hA, List.map_append]
  exact this
theorem One.appendOwn0 (hA : A = real) (hT : TabOk P tab) {xs : List (List IC)} {t e : TypeId} {j : TI} {x y : Operand} {ex : Bool} {q ver : Nat} (h : opAt ops i s = some (.call { callee := .builtin .append, args := #[x, y], argTypes := #[t, t] })) (ht : slT tab t = some (e, j))
    (hj : (Nat.blt 0 j.size && (j.zero.map (·.length) == some j.size)) = true) (hx : s.ev x = .own q ver) (hs : s.st[q]? = some (.row true ver e j.size [])) (hy : s.ev y = .ic (.sl j.size ex xs)) (hn : xs.length * j.bytes ≤ 140737488355328) (hm : xs.length ≤ maxLen) :
    One r P ops i s (.own q (ver + 1)) (s.st.set q (.row true (ver + 1) e j.size xs)) := by
  have := One.appendOwn (r := r) hT h ht hj hx hs hy (by simpa using hn) (by simpa using hm)
  simpa using this
theorem One.makeM (hA : A = real) (hT : TabOk P tab) {α : Type} (f : α → List IC) (d : α) {t e : TypeId} {j : TI} {x y : Operand} {z : List Value} {k k' : IntKind} {n : Int} (h : opAt ops i s = some (.makeSlice t x y)) (ht : slT tab t = some (e, j)) (hz : j.zero = some z) (hj : (Nat.beq z.length j.size && z.all (·.oneCell')) = true)
    (hx : s.ev x = .ic (.lit (.int k n))) (hy : s.ev y = .ic (.lit (.int k' n))) (hd : z.map zIC = f d) (h0 : 0 ≤ n) (hb : j.bytes * n.toNat ≤ 281474976710656) (hm : n.toNat ≤ maxLen) :
    One r P ops i s (.own s.st.length 0) (s.st ++ [.row true 0 e j.size (A (.hid _) fun _ => List.map f (List.replicate n.toNat d))]) := by
  have := One.make (r := r) hT h ht hz hj hx hy h0 hb hm
  rw [hd] at this
  rw [rhid hA, List.map_replicate]
  exact this
theorem One.elemOwnM (hA : A = real) (hT : TabOk P tab) {α : Type} {f : α → List IC} {l : List α} {t e : TypeId} {j : TI} {x y : Operand} {q ver : Nat} {m : Bool} {k : IntKind} {n : Int} (h : opAt ops i s = some (.indexAddr t x y)) (ht : slT tab t = some (e, j))
    (hx : s.ev x = .own q ver) (hs : s.st[q]? = some (.row m ver e j.size (A (.hid _) fun _ => List.map f l))) (hy : s.ev y = .ic (.lit (.int k n))) (h0 : 0 ≤ n) (h1 : n < l.length) : One r P ops i s (.rat q ver (A (.hid _) fun _ => n.toNat) 0) s.st := by
  have := One.elemOwn (r := r) hT h ht hx hs hy h0 (by rw [rhid hA]; simpa using h1)
  rw [rhid hA]
  exact this
theorem One.lenOwnM (hA : A = real) (hT : TabOk P tab) {t e e' : TypeId} {j : TI} {x : Operand} {q ver sz : Nat} {m : Bool} {xs : List (List IC)} (h : opAt ops i s = some (.call { callee := .builtin .len, args := #[x], argTypes := #[t] })) (ht : slT tab t = some (e, j)) (hx : s.ev x = .own q ver)
    (hs : s.st[q]? = some (.row m ver e' sz xs)) : One r P ops i s (.ic (.lit (.int .i64 (A .len xs)))) s.st :=
  One.lenOwn hT h ht hx hs (by subst hA; rfl)
theorem One.loadRatM (hA : A = real) (hT : TabOk P tab) {α : Type} [Inhabited α] {f : α → List IC} {l : List α} {t : TypeId} {j : TI} {x : Operand} {q ver o n e sz : Nat} {m : Bool} {v : IC} (h : opAt ops i s = some (.load t x)) (ht : tiAt tab t = some j) (hx : s.ev x = .rat q ver n o)
    (hs : s.st[q]? = some (.row m ver e sz (A (.hid _) fun _ => List.map f l))) (ha : j.agg = false) (hv : (f (A (.hid _) fun _ => l.getD n default))[o]? = some v) (hn : n < l.length) : One r P ops i s (.ic v) s.st := by
  refine One.loadRat hT h ht hx hs (row := f (l.getD n default)) (by rw [rhid hA]; simp [hn]) ?_
  rw [ha, cond_false]
  rw [rhid hA] at hv
  rw [hv]
  rfl
theorem One.storeRatM (hA : A = real) (hT : TabOk P tab) {α : Type} (v : α) {f : α → List IC} {l : List α} {t : TypeId} {j : TI} {x y : Operand} {q ver n e sz : Nat} {ys : List AV} {yc : List IC} (h : opAt ops i s = some (.store t x y)) (ht : tiAt tab t = some j) (hx : s.ev x = .rat q ver n 0)
    (hs : s.st[q]? = some (.row true ver e sz (A (.hid _) fun _ => List.map f l))) (hy : cellsOk (s.ev y) = some ys) (hyc : allIC ys = some yc) (hv : yc = f v) (hl : Nat.beq yc.length j.size = true) (hsz : ∀ a : α, (f a).length = j.size) (hn : n < l.length) :
    One r P ops i s .any (s.st.set q (.row true ver e sz (A (.hid _) fun _ => List.map f (l.set n v)))) := by
  subst hv
  have := One.storeRat (r := r) (row := f l[n]) hT h ht hx hs (by rw [rhid hA]; simp [hn]) hy hyc hl (by rw [hsz, hsz]; omega)
  rw [rhid hA] at this
  rw [rhid hA, List.map_set]
  have e : (f l[n]).take 0 ++ f v ++ (f l[n]).drop (0 + (f v).length) = f v := by
    rw [List.drop_of_length_le (by rw [hsz, hsz]; omega)]; simp
  rw [e] at this
  exact this
theorem One.quoM (hA : A = real) {t t' : TypeId} {x y : Operand} {k : IntKind} {a b : Int} (h : opAt ops i s = some (.binOp .quo t x y t')) (hx : s.ev x = .ic (.lit (.int k a))) (hy : s.ev y = .ic (.lit (.int k b))) (hb : b ≠ 0) : One r P ops i s (.ic (.lit (.int k (A (.hid _) fun _ => k.wrap (a.tdiv b))))) s.st := by
  rw [rhid hA]; exact One.quo h hx hy hb
theorem One.remM (hA : A = real) {t t' : TypeId} {x y : Operand} {k : IntKind} {a b : Int} (h : opAt ops i s = some (.binOp .rem t x y t')) (hx : s.ev x = .ic (.lit (.int k a))) (hy : s.ev y = .ic (.lit (.int k b))) (hb : b ≠ 0) : One r P ops i s (.ic (.lit (.int k (A (.hid _) fun _ => a.tmod b)))) s.st := by
  rw [rhid hA]; exact One.rem h hx hy hb
theorem One.bitsM (hA : A = real) {op : BinOp} {t t' : TypeId} {x y : Operand} {k : IntKind} {a b : Int} (h : opAt ops i s = some (.binOp op t x y t')) (hop : isBits op = true) (hx : s.ev x = .ic (.lit (.int k a))) (hy : s.ev y = .ic (.lit (.int k b))) :
    One r P ops i s (.ic (.lit (.int k (A (.hid _) fun _ => bitsV op k a b)))) s.st := by
  rw [rhid hA]; exact One.bits h hop hx hy rfl
theorem One.eqBoolM (hA : A = real) (hT : TabOk P tab) {t t' : TypeId} {j : TI} {x y : Operand} {a b : Bool} (h : opAt ops i s = some (.binOp .eql t x y t')) (ht : tiAt tab t = some j) (hk : j.k = .bool) (hx : s.ev x = .ic (.lit (.bool a))) (hy : s.ev y = .ic (.lit (.bool b))) : One r P ops i s (.ic (.lit (.bool (A (.hid _) fun _ => a == b)))) s.st := by
  rw [rhid hA]; exact One.eqBool hT h ht hk hx hy
theorem One.neBoolM (hA : A = real) (hT : TabOk P tab) {t t' : TypeId} {j : TI} {x y : Operand} {a b : Bool} (h : opAt ops i s = some (.binOp .neq t x y t')) (ht : tiAt tab t = some j) (hk : j.k = .bool) (hx : s.ev x = .ic (.lit (.bool a))) (hy : s.ev y = .ic (.lit (.bool b))) : One r P ops i s (.ic (.lit (.bool (A (.hid _) fun _ => !(a == b))))) s.st := by
  rw [rhid hA]; exact One.neBool hT h ht hk hx hy
theorem One.concatM (hA : A = real) {t t' : TypeId} {x y : Operand} {a b : ByteArray} (h : opAt ops i s = some (.binOp .add t x y t')) (hx : s.ev x = .ic (.lit (.string a))) (hy : s.ev y = .ic (.lit (.string b))) (hb : a.size + b.size ≤ 9223372036854775807) : One r P ops i s (.ic (.lit (.string (A (.hid _) fun _ => a ++ b)))) s.st := by
  rw [rhid hA]; exact One.concat h hx hy hb
theorem One.byteM (hA : A = real) (hT : TabOk P tab) {t : TypeId} {j : TI} {x y : Operand} {b : ByteArray} {k : IntKind} {n : Int} (h : opAt ops i s = some (.index t x y)) (ht : tiAt tab t = some j) (hk : j.k = .string) (hx : s.ev x = .ic (.lit (.string b))) (hy : s.ev y = .ic (.lit (.int k n))) (h0 : 0 ≤ n) (h1 : n < (b.size : Int)) :
    One r P ops i s (.ic (.lit (.int .u8 (A (.hid _) fun _ => sb b n)))) s.st := by
  rw [rhid hA]; exact One.byte hT h ht hk hx hy h0 h1
end one
section res
variable {P : Program} {tab : List TI} {s : St}
def resV (tab : List TI) (s : St) : ResultVar → Option AV
  | .tmp t => some (s.get t)
  | .cell p t => match tab[t]? with
    | some i => bif i.there then (match s.get p with
      | .ptr j o => match s.st[j]? with
        | some (.var _ _ cs) => bif i.agg then (bif Nat.ble (o + i.size) cs.length then some (.agg ((cs.drop o).take i.size)) else none) else cs[o]?
        | _ => none
      | _ => none) else none
    | none => none
theorem resV_ok (hT : TabOk P tab) {rv : ResultVar} {x : AV} (h : resV tab s rv = some x) : Res1 P s rv x := by
  cases rv with
  | tmp t => simp only [resV, Option.some.injEq] at h; subst h; exact Res1.tmp t
  | cell p t =>
    simp only [resV] at h
    split at h
    · rename_i i hi
      obtain rfl := tab_get hT hi
      cases ht : (tyi P t).there with
      | false => simp [ht] at h
      | true =>
        simp only [ht, cond_true] at h
        split at h
        · rename_i j o hp
          split at h
          · rename_i m t' cs hs
            refine Res1.cell p t j o m t' cs x ht hp hs ?_
            cases ha : (tyi P t).agg with
            | true =>
              simp only [ha, cond_true] at h ⊢
              cases hb : Nat.ble (o + (tyi P t).size) cs.length with
              | true => simp only [hb, cond_true, Option.some.injEq] at h; exact ⟨rfl, h.symm⟩
              | false => simp [hb] at h
            | false => simpa [ha] using h
          · simp at h
        · simp at h
    · simp at h
def resVs (tab : List TI) (s : St) : List ResultVar → Option AV
  | [] => some (.tup [])
  | [a] => resV tab s a
  | [a, b] => match resV tab s a with
    | some x => match resV tab s b with
      | some y => some (.tup [x, y])
      | none => none
    | none => none
  | [a, b, c] => match resV tab s a with
    | some x => match resV tab s b with
      | some y => match resV tab s c with
        | some z => some (.tup [x, y, z])
        | none => none
      | none => none
    | none => none
  | _ => none
theorem RetOk.ev (hT : TabOk P tab) {fn : Func} {x : AV} (h : resVs tab s fn.results.toList = some x) : RetOk P fn s x := by
  cases hr : fn.results with
  | mk l =>
    rw [hr] at h
    match l, h with
    | [], h => simp only [resVs, Option.some.injEq] at h; subst h; exact RetOk.none hr
    | [a], h => exact RetOk.one hr (resV_ok hT (by simpa [resVs] using h))
    | [a, b], h =>
      simp only [resVs] at h
      split at h
      · rename_i x1 h1
        split at h
        · rename_i x2 h2
          simp only [Option.some.injEq] at h
          subst h
          exact RetOk.two hr (resV_ok hT h1) (resV_ok hT h2)
        · simp at h
      · simp at h
    | [a, b, c], h =>
      simp only [resVs] at h
      split at h
      · rename_i x1 h1
        split at h
        · rename_i x2 h2
          split at h
          · rename_i x3 h3
            simp only [Option.some.injEq] at h
            subst h
            exact RetOk.three hr (resV_ok hT h1) (resV_ok hT h2) (resV_ok hT h3)
          · simp at h
        · simp at h
      · simp at h
    | _ :: _ :: _ :: _ :: _, h => simp [resVs] at h
theorem rPV_then {st : List AObj} {x : AV} {y z : PV} (h : rPV st x = some y) (e : y = z) : rPV st x = some z := by rw [h, e]
end res
def bitB (m t : Nat) : Bool := Nat.beq ((m >>> t) % 2) 1
def bitS (m t : Nat) : Nat := m ||| (1 <<< t)
def wrO : List Oper → Nat → Nat
  | [], m => m
  | o :: r, m => match o.dst with
    | some d => wrO r (bitS m d)
    | none => wrO r m
def wr : Code → Nat → Nat
  | .region _ ops _, m => wrO ops.toList m
  | .seq a b, m => wr b (wr a m)
  | .cond _ a b, m => wr b (wr a m)
  | .block _ c, m => wr c m
  | .loop c, m => wr c m
  | .scope c, m => wr c m
  | _, m => m
def keepOf : Nat → List (Nat × AV) → List (Nat × AV)
  | _, [] => []
  | m, (t, x) :: r => match bitB m t with
    | true => keepOf m r
    | false => (t, x) :: keepOf (bitS m t) r
theorem bitB_eq (m t : Nat) : bitB m t = m.testBit t := by
  unfold bitB
  rw [Nat.testBit_eq_decide_div_mod_eq, Nat.shiftRight_eq_div_pow]
  cases h : Nat.beq (m / 2 ^ t % 2) 1 with
  | true => exact (decide_eq_true (Nat.eq_of_beq_eq_true h)).symm
  | false => exact (decide_eq_false (Nat.ne_of_beq_eq_false h)).symm
theorem bit_add (m t u : Nat) : bitB (bitS m t) u = (bitB m u || decide (t = u)) := by
  rw [bitB_eq, bitB_eq, bitS, Nat.testBit_or, Nat.one_shiftLeft, Nat.testBit_two_pow]
theorem keep_get : ∀ (env : List (Nat × AV)) (m : Nat), ∀ p ∈ keepOf m env, bitB m p.1 = false ∧ look env p.1 = p.2
  | [], _, p, h => by simp [keepOf] at h
  | (t, x) :: r, m, p, h => by
    simp only [keepOf] at h
    cases hm : bitB m t with
    | true =>
      rw [hm] at h
      obtain ⟨h1, h2⟩ := keep_get r m p h
      refine ⟨h1, ?_⟩
      have hne : t ≠ p.1 := fun e => by rw [← e, hm] at h1; cases h1
      rw [look_cons_ne hne]
      exact h2
    | false =>
      rw [hm] at h
      rcases List.mem_cons.1 h with rfl | h
      · exact ⟨hm, look_cons_eq⟩
      · obtain ⟨h1, h2⟩ := keep_get r _ p h
        rw [bit_add, Bool.or_eq_false_iff] at h1
        refine ⟨h1.1, ?_⟩
        rw [look_cons_ne fun e => by simp [e] at h1]
        exact h2
theorem subE_append {s : St} {a b : List (Nat × AV)} (h : subE s a) (k : subE s b) : subE s (a ++ b) := by
  induction a with
  | nil => exact k
  | cons p r ih => exact ⟨h.1, ih h.2⟩
theorem subE_of {s : St} {a : List (Nat × AV)} (h : ∀ p ∈ a, s.get p.1 = p.2) : subE s a := by
  induction a with
  | nil => trivial
  | cons p r ih => exact ⟨h p List.mem_cons_self, ih fun q hq => h q (List.mem_cons_of_mem _ hq)⟩
theorem subE.lit {s : St} {t : Nat} {a b : Value} {r : List (Nat × AV)} (h : s.get t = .ic (.lit a)) (e : a = b) (k : subE s r) : subE s ((t, .ic (.lit b)) :: r) := ⟨by rw [h, e], k⟩
theorem subE.int {s : St} {t : Nat} {q : IntKind} {a b : Int} {r : List (Nat × AV)} (h : s.get t = .ic (.lit (.int q a))) (e : a = b) (k : subE s r) : subE s ((t, .ic (.lit (.int q b))) :: r) := ⟨by rw [h, e], k⟩
theorem subE.bool {s : St} {t : Nat} {a b : Bool} {r : List (Nat × AV)} (h : s.get t = .ic (.lit (.bool a))) (e : a = b) (k : subE s r) : subE s ((t, .ic (.lit (.bool b))) :: r) := ⟨by rw [h, e], k⟩
theorem subE.str {s : St} {t : Nat} {a b : ByteArray} {r : List (Nat × AV)} (h : s.get t = .ic (.lit (.string a))) (e : a = b) (k : subE s r) : subE s ((t, .ic (.lit (.string b))) :: r) := ⟨by rw [h, e], k⟩
theorem subE.sl {s : St} {t sz : Nat} {ex : Bool} {a b : List (List IC)} {r : List (Nat × AV)} (h : s.get t = .ic (.sl sz ex a)) (e : a = b) (k : subE s r) : subE s ((t, .ic (.sl sz ex b)) :: r) := ⟨by rw [h, e], k⟩
theorem AWp.loopU {r : Option Nat} {P : Program} {c : Code} {s : St} {Q : Exit → St → Prop} {σ : Type} (up : σ → List (Nat × AV)) (stf : σ → List AObj) (mu : σ → Nat) (Inv : σ → Prop) (x0 : σ) {keep : List (Nat × AV)} (hk : keepOf (wr c 0) s.env = keep)
    (h0 : Inv x0) (he : subE s (up x0)) (hs : s.st = stf x0)
    (round : ∀ x, Inv x → AWp r P c ⟨s.nt, up x ++ keep, stf x⟩ (Thn (fun s' => ∃ x', Inv x' ∧ mu x' < mu x ∧ s'.nt = s.nt ∧ s'.st = stf x' ∧ subE s' (up x') ∧ subE s' keep) Q)) : AWp r P (.loop c) s Q := by
  subst hk
  refine AWp.loop (fun n s' => ∃ x, Inv x ∧ mu x = n ∧ Sub ⟨s.nt, up x ++ keepOf (wr c 0) s.env, stf x⟩ s') (mu x0) ⟨x0, h0, rfl, Sub.of rfl hs (subE_append he (subE_of fun p hp => (keep_get _ _ p hp).2))⟩ ?_
  rintro n s1 ⟨x, hi, rfl, hsub⟩
  refine AWp.sub hsub ((round x hi).mono ?_)
  intro e s2 h
  cases e with
  | normal =>
    obtain ⟨x', h1, h2, h3, h4, h5, h6⟩ := h
    exact ⟨mu x', h2, x', h1, rfl, Sub.of h3 h4 (subE_append h5 h6)⟩
  | _ => exact h
def cN (k : Nat) : Int := k
def encI (z : Int) : List IC := [.lit (.int .i64 z)]
def encB (z : Int) : List IC := [.lit (.int .u8 z)]
def encS (b : ByteArray) : List IC := [.lit (.string b)]
def encK (A : Ar) (l : List Int) : List IC := [.sl 1 false (hid A (List.map encI l))]
abbrev slP (A : Ar) {α : Type} (sz : Nat) (f : α → List IC) (l : List α) : PV := .c (.sl sz false (hid A (List.map f l)))
abbrev intsP (A : Ar) (l : List Int) : PV := slP A 1 encI l
abbrev IP (z : Int) : PV := .c (.lit (.int .i64 z))
abbrev BP (b : Bool) : PV := .c (.lit (.bool b))
end Go.Proofs.Ytkkjlmcnfoncdaa.Aw

namespace Go.Proofs.Ytkkjlmcnfoncdaa.Aw
open Go Go.RowKit
theorem AOL.stepR {r : Option Nat} {P : Program} {ops : Array Oper} {i : Nat} {rest : List Nat} {s : St} {Q : St → Prop} {op : Op} (R : AV → Prop) (h : opAt ops i s = some op) (hn : notDefer op = true)
    (hD : ∀ o : Oper, o.op = op → ∀ G g w a, Rel G s g w a → ∃ v x, (execOp a.eval o).run P w = .ok (.value v) w ∧ R x ∧ AR G s.st g w x v) (k : ∀ x, R x → AOL r P ops rest (putS s (dstOf ops i) x s.st) Q) : AOL r P ops (i :: rest) s Q := by
  obtain ⟨o, ho, hg, hd, hop, he⟩ := opAt_some h
  rw [he] at k
  intro G g w a QQ hr kk
  obtain ⟨v, x, hrun, hR, hx⟩ := hD o hop G g w a hr
  simp only [wpOpsIn, ho, gd_wanted hr hg, if_true]
  refine ⟨fun _ _ => trivial, ?_⟩
  rw [semAt_of (by rw [hop]; exact hn), hrun]
  have hrel := hr.putS o.dst hd (.refl _ _ _) hr.sr hx
  exact k x hR G g w _ QQ hrel fun s' g2 w2 a2 q hr2 he hdf hfr => kk s' g2 w2 a2 q hr2 (by rw [putS_st] at he; exact he) (hdf.trans (put_defers _ _ _)) (Fr.cons ho hfr)
theorem IR.nil_none {w : World} {ok : Nat → Prop} {sz : Nat} {ex : Bool} {xs : List (List IC)} {l c : Nat} (h : IR w ok (.sl sz ex xs) (.slice none l c)) : xs = [] := by
  cases h with
  | nil => rfl
theorem AOL.eqNil {r : Option Nat} {P : Program} {tab : List TI} {ops : Array Oper} {i : Nat} {rest : List Nat} {s : St} {Q : St → Prop} (hT : TabOk P tab) {t e t' : TypeId} {j : TI} {x : Operand} {sz : Nat} {ex : Bool} {xs : List (List IC)}
    (h : opAt ops i s = some (.binOp .eql t x (.const (.slice none 0 0)) t')) (ht : slT tab t = some (e, j)) (hx : s.ev x = .ic (.sl sz ex xs)) (k : ∀ b : Bool, (b = true → xs = []) → AOL r P ops rest (putS s (dstOf ops i) (.ic (.lit (.bool b))) s.st) Q) : AOL r P ops (i :: rest) s Q := by
  obtain ⟨g1, g2, rfl⟩ := slT_ok hT ht
  refine AOL.stepR (fun y => ∃ b : Bool, y = .ic (.lit (.bool b)) ∧ (b = true → xs = [])) h rfl ?_ ?_
  · intro o hop G g w a hr
    have h1 := hr.ev x
    rw [hx] at h1
    have h2 := h1.ic_inv
    obtain ⟨A, c, hv, _⟩ := h2.slice
    refine ⟨.bool A.isNone, _, ?_, ⟨_, rfl, fun hb => ?_⟩, .ic _ _ (.lit _ rfl)⟩
    · have hr2 := run_equal_slice_nil (P := P) w t e A xs.length c (tk_slice g2)
      have ec : a.eval (.const (.slice none 0 0)) = .slice none 0 0 := rfl
      simp [execOp, hop, hv, ec, eqGuard, binOp, hr2]
    · cases A with
      | some _ => simp at hb
      | none => rw [hv] at h2; exact h2.nil_none
  · rintro y ⟨b, rfl, hb⟩
    exact k b hb
theorem tdivI (a b : Int) : a.tdiv b = if 0 ≤ a then a / b else -(-a / b) := by
  split
  · exact Int.tdiv_eq_ediv_of_nonneg ‹_›
  · rw [← Int.tdiv_eq_ediv_of_nonneg (by omega), Int.neg_tdiv]; omega
theorem tmodI (a b : Int) : a.tmod b = if 0 ≤ a then a % b else -(-a % b) := by
  split
  · exact Int.tmod_eq_emod_of_nonneg ‹_›
  · rw [← Int.tmod_eq_emod_of_nonneg (by omega), Int.neg_tmod]; omega
theorem wI64 {z : Int} (h1 : -9223372036854775808 ≤ z) (h2 : z ≤ 9223372036854775807) : IntKind.i64.wrap z = z := wok h1 h2
theorem wU8 {z : Int} (h1 : 0 ≤ z) (h2 : z ≤ 255) : IntKind.u8.wrap z = z := IntWalk.u8_in z ⟨h1, h2⟩
theorem wU32 {z : Int} (h1 : 0 ≤ z) (h2 : z ≤ 4294967295) : IntKind.u32.wrap z = z := IntWalk.u32_in z ⟨h1, h2⟩
theorem wU64 {z : Int} (h1 : 0 ≤ z) (h2 : z ≤ 18446744073709551615) : IntKind.u64.wrap z = z := IntWalk.u64_in z ⟨h1, h2⟩
theorem tdvN {a b : Int} (h : 0 ≤ a) : a.tdiv b = a / b := Int.tdiv_eq_ediv_of_nonneg h
theorem tmdN {a b : Int} (h : 0 ≤ a) : a.tmod b = a % b := Int.tmod_eq_emod_of_nonneg h
theorem IR.len {w : World} {ok : Nat → Prop} {sz : Nat} {ex : Bool} {xs : List (List IC)} {v : Value} (h : IR w ok (.sl sz ex xs) v) : xs.length ≤ maxLen := by
  obtain ⟨A, c, _, h1, h2, _⟩ := h.slice
  omega
theorem IR.inner {w : World} {ok : Nat → Prop} {sz : Nat} {ex : Bool} {xs : List (List IC)} {v : Value} (h : IR w ok (.sl sz ex xs) v) {r : List IC} {x : IC} (hr : r ∈ xs) (hx : x ∈ r) : ∃ u, IR w ok x u := by
  obtain ⟨j, hj⟩ := List.getElem?_of_mem hr
  obtain ⟨i, hi⟩ := List.getElem?_of_mem hx
  cases h with
  | nil => simp at hj
  | sl _ _ _ b o c val hb hl hc hx hok hsz hcell hin => exact ⟨_, hin j r i x hj hi⟩
def lens : IC → Prop
  | .sl _ _ xs => xs.length ≤ maxLen ∧ ∀ r ∈ xs, ∀ x ∈ r, match x with
    | .sl _ _ ys => ys.length ≤ maxLen
    | _ => True
  | _ => True
theorem IR.lens {w : World} {ok : Nat → Prop} {x : IC} {v : Value} (h : IR w ok x v) : Aw.lens x := by
  cases x with
  | lit => trivial
  | mp => trivial
  | sl sz ex xs =>
    refine ⟨h.len, fun r hr x hx => ?_⟩
    obtain ⟨u, hu⟩ := h.inner hr hx
    cases x with
    | lit => trivial
    | mp => trivial
    | sl => exact hu.len
def lensP : PV → Prop
  | .c x => lens x
  | .agg xs => ∀ x ∈ xs, lens x
  | .tup _ => True
theorem PR.lens {w : World} {ok : Nat → Prop} {x : PV} {v : Value} (h : PR w ok x v) : lensP x := by
  cases h with
  | c x v h => exact h.lens
  | agg xs vs h1 h2 =>
    intro x hx
    obtain ⟨i, hi⟩ := List.getElem?_of_mem hx
    exact (h2 i x hi).lens
  | tup => trivial
theorem PureCalls.lens {P : Program} {f : FuncId} {pvs : List PV} {r : PV} (he : entersB P f = true) (h : (∀ x ∈ pvs, lensP x) → PureCalls P f pvs r) : PureCalls P f pvs r := by
  refine ⟨he, fun ok w vals hsz hv => ?_⟩
  refine (h fun x hx => ?_).2 ok w vals hsz hv
  obtain ⟨i, hi⟩ := List.getElem?_of_mem hx
  exact (hv i x hi).lens
theorem lens_ints {A : Ar} (hA : A = real) {α : Type} {sz : Nat} {f : α → List IC} {l : List α} (h : lensP (slP A sz f l)) : l.length ≤ maxLen := by
  have : (List.map f l).length ≤ maxLen := by rw [← hid_eq hA (List.map f l)]; exact h.1
  simpa using this
theorem ACalls.trim {P : Program} {f : FuncId} {xs : List AV} {st : List AObj} {R R' : AV → List AObj → Prop} (n : Nat) (h : ACalls P f xs st R) (hn : st.length ≤ n)
    (ht : ∀ x st', R x st' → closedB n x = true ∧ n ≤ st'.length ∧ trimOk n st (st'.take n) ∧ R' x (st'.take n)) : ACalls P f xs st R' :=
  ⟨h.1, fun G g w vals hsz hsr hv => (h.2 G g w vals hsz hsr hv).mono fun e w' ⟨v, x, st', g', he, hR, hx, hsr', hev⟩ => by
    obtain ⟨h1, h2, h3, h4⟩ := ht x st' hR
    obtain ⟨a, b⟩ := trimS hsr hsr' hev hn h2 h3
    exact ⟨v, x, st'.take n, g', he, h4, hx.trim h1 h2, a, b⟩⟩
theorem ACalls.mono {P : Program} {f : FuncId} {xs : List AV} {st : List AObj} {R R' : AV → List AObj → Prop} (h : ACalls P f xs st R) (k : ∀ x st', R x st' → R' x st') : ACalls P f xs st R' :=
  ⟨h.1, fun G g w vals hsz hsr hv => (h.2 G g w vals hsz hsr hv).mono fun e w' ⟨v, x, st', g', he, hR, hx, hsr', hev⟩ => ⟨v, x, st', g', he, k _ _ hR, hx, hsr', hev⟩⟩
theorem AWp.norm {r : Option Nat} {P : Program} {c : Code} {s s' : St} {Q : Exit → St → Prop} (e : s = s') (h : AWp r P c s' Q) : AWp r P c s Q := e ▸ h
theorem AOL.pass {r : Option Nat} {P : Program} {ops : Array Oper} {l : List Nat} {s : St} {Q : St → Prop} (h : AOL r P ops l s Q) : AOL r P ops l s Q := h
theorem QS.pass {P : Program} {ops : Array Oper} {l : List Nat} {s : St} {Q : St → Prop} (h : QS P ops l s Q) : QS P ops l s Q := h
theorem AWp.pass {r : Option Nat} {P : Program} {c : Code} {s : St} {Q : Exit → St → Prop} (h : AWp r P c s Q) : AWp r P c s Q := h
end Go.Proofs.Ytkkjlmcnfoncdaa.Aw

namespace Go.Proofs.Ytkkjlmcnfoncdaa.Aw
open Go Go.RowKit
theorem AOL.freeze {r : Option Nat} {P : Program} {ops : Array Oper} {l : List Nat} {s : St} {Q : St → Prop} (i ver e sz : Nat) (m : Bool) (xs : List (List IC)) (hi : s.st[i]? = some (.row m ver e sz xs))
    (h : AOL r P ops l ⟨s.nt, s.env.map (fun p => (p.1, thaw i ver sz xs p.2)), s.st.set i (.row false ver e sz xs)⟩ Q) : AOL r P ops l s Q := fun G g w a QQ hr k => by
  obtain ⟨hev, hsr⟩ := hr.sr.frz i _ hi
  have hil : i < s.st.length := (List.getElem?_eq_some_iff.1 hi).1
  have hset : (s.st.set i (Aw.frz (.row m ver e sz xs)))[i]? = some (.row false ver e sz xs) := by rw [List.getElem?_set_self hil]; rfl
  have hrow : IR w (Good G (s.st.set i (Aw.frz (.row m ver e sz xs))) g) (.sl sz false xs) (g i) := row_ir hset hsr _ (fun _ h => h) (fun b hb hG => ⟨hG, fun ⟨j, o, hj, hm, hgj⟩ => by
    have := hsr.inj i j _ o b hset hj rfl (by cases o <;> simp_all [AObj.mu, AObj.live]) hb hgj
    subst this
    rw [hset] at hj
    simp only [Option.some.injEq] at hj
    subst hj
    simp [AObj.mu] at hm⟩)
  have hmap : ∀ (env : List (Nat × AV)) (t : Nat), look (env.map fun p => (p.1, thaw i ver sz xs p.2)) t = thaw i ver sz xs (look env t) := fun env t => by
    induction env with
    | nil => rfl
    | cons p r ih =>
      obtain ⟨q, x⟩ := p
      simp only [List.map_cons, look]
      cases Nat.beq q t <;> simp [ih]
  have hrel : Rel G ⟨s.nt, s.env.map (fun p => (p.1, thaw i ver sz xs p.2)), s.st.set i (Aw.frz (.row m ver e sz xs))⟩ g w a := by
    refine ⟨fun t => ?_, hr.size, hsr⟩
    show AR G _ g w (look (s.env.map fun p => (p.1, thaw i ver sz xs p.2)) t) _
    rw [hmap]
    have hx := (hr.slots t).evo hev
    show AR G _ g w (thaw i ver sz xs (s.get t)) _
    generalize s.get t = x at hx
    generalize a.tmps.getD t undef = v at hx
    cases x with
    | own j v' =>
      simp only [thaw]
      cases hb : (Nat.beq i j && Nat.beq ver v') with
      | false => exact hx
      | true =>
        simp only [Bool.and_eq_true] at hb
        obtain rfl := Nat.eq_of_beq_eq_true hb.1
        obtain rfl := Nat.eq_of_beq_eq_true hb.2
        cases hx with
        | own i ver v hi' hv h1 =>
          obtain rfl := (hv _ _ _ _ _ hset).2 rfl
          exact .ic _ _ hrow
    | _ => exact hx
  exact h G g w a QQ hrel fun s' g2 w2 a2 q hr2 he2 hd2 hf => k s' g2 w2 a2 q hr2 (hev.trans he2) hd2 hf
theorem PureCalls.ofLe {P : Program} {f : FuncId} {fn : Func} {c : Code} {pvs : List PV} {r : PV} (hf : P.funcs[f]? = some fn) (hb : fn.body = some c) (he : entersB P f = true) (hn : Nat.ble pvs.length fn.ntmps = true)
    (h : AWp none P c (entry fn.ntmps (pvs.map PV.av) []) (RetQ P fn fun x st => ∃ y, rPV st x = some y ∧ PLe y r)) : PureCalls P f pvs r := by
  have h' : ACalls P f (pvs.map PV.av) [] (fun x st => ∃ y, rPV st x = some y ∧ PLe y r) := ACalls.of hf hb he (by simpa using hn) h
  refine ⟨h'.1, fun ok w vals hsz hval => ?_⟩
  have hno : ∀ b, ¬ Own [] (fun _ => undef) b := fun b ⟨i, o, hi, _⟩ => by simp at hi
  refine (h'.2 (fun b => ok b ∨ w.heap.size ≤ b) (fun _ => undef) w vals (by simpa using hsz) ⟨by simp, by simp, fun b hb => .inr hb⟩ fun k x hk => ?_).mono ?_
  · rw [List.getElem?_map] at hk
    simp only [Option.map_eq_some_iff] at hk
    obtain ⟨y, hy, rfl⟩ := hk
    exact ((hval k y hy).mono fun x v hi => hi.mono (fun _ _ _ => rfl) (fun b _ hb => ⟨.inl hb, hno b⟩) (Nat.le_refl _)).ar
  · rintro e w' ⟨v, x, st', g', rfl, ⟨y, hR, hle⟩, hx, hsr, hev⟩
    refine ⟨v, rfl, ((rPV_pr hx hsr hR).le hle).mono fun x v hi => hi.mono (fun _ _ _ => rfl) (fun b _ hb => hb.1) (Nat.le_refl _), hev.os, hev.tape, hev.output, hev.size, fun b hb => hev.heap b hb (hno b)⟩
theorem AOL.norm {r : Option Nat} {P : Program} {ops : Array Oper} {l : List Nat} {s s' : St} {Q : St → Prop} (e : s = s') (h : AOL r P ops l s' Q) : AOL r P ops l s Q := e ▸ h
end Go.Proofs.Ytkkjlmcnfoncdaa.Aw

namespace Go.Proofs.Ytkkjlmcnfoncdaa.Aw
open Go Go.RowKit
end Go.Proofs.Ytkkjlmcnfoncdaa.Aw

namespace Go.Proofs.Ytkkjlmcnfoncdaa.Aw
open Go Go.RowKit
theorem zz {A : Ar} (hA : A = real) : (∀ (k : IntKind) (a b : Int), A .add k a b = k.wrap (a + b)) ∧ (∀ (k : IntKind) (a b : Int), A .sub k a b = k.wrap (a - b)) ∧ (∀ (k : IntKind) (a b : Int), A .mul k a b = k.wrap (a * b)) ∧ (∀ a b : Int, A .eq a b = decide (a = b)) ∧ (∀ a b : Int, A .lt a b = decide (a < b)) ∧ (∀ a b : Int, A .le a b = decide (a ≤ b)) ∧
    (∀ a b : ByteArray, A .seq a b = decide (a.toList = b.toList)) ∧ (∀ (k : IntKind) (a : Int), A .wrap k a = k.wrap a) ∧ (∀ xs : List (List IC), A .len xs = (xs.length : Int)) ∧ (∀ b : ByteArray, A .slen b = (b.size : Int)) ∧ (∀ b : Bool, A .no b = !b) ∧ (∀ (α : Type) (f : Unit → α), A (.hid α) f = f ()) ∧
    (∀ k : Nat, cN k = (k : Int)) ∧ (∀ (α β : Type) (f : α → β) (l : List α), (List.map f l).length = l.length) ∧ (∀ (α : Type) (a b : List α), (a ++ b).length = a.length + b.length) ∧ (∀ (α : Type) (l : List α) (n : Nat), (l.take n).length = min n l.length) ∧ (∀ (α : Type) (l : List α) (n : Nat), (l.drop n).length = l.length - n) ∧
    (∀ (α : Type) (x : α) (n : Nat), (List.replicate n x).length = n) ∧ (∀ (α : Type) (l : List α) (n : Nat) (x : α), (l.set n x).length = l.length) ∧ (∀ (α : Type) (l : List α) (x : α), (x :: l).length = l.length + 1) ∧ (∀ (α : Type), ([] : List α).length = 0) ∧ (maxLen = 9223372036854775807) ∧
    (∀ z : Int, -9223372036854775808 ≤ z → z ≤ 9223372036854775807 → IntKind.i64.wrap z = z) ∧ (∀ z : Int, 0 ≤ z → z ≤ 255 → IntKind.u8.wrap z = z) ∧ (∀ z : Int, 0 ≤ z → z ≤ 4294967295 → IntKind.u32.wrap z = z) ∧ (∀ z : Int, 0 ≤ z → z ≤ 18446744073709551615 → IntKind.u64.wrap z = z) ∧
    (∀ a b : Int, 0 ≤ a → a.tdiv b = a / b) ∧ (∀ a b : Int, 0 ≤ a → a.tmod b = a % b) := by
  subst hA
  exact ⟨fun _ _ _ => rfl, fun _ _ _ => rfl, fun _ _ _ => rfl, fun _ _ => rfl, fun _ _ => rfl, fun _ _ => rfl, fun _ _ => rfl, fun _ _ => rfl, fun _ => rfl, fun _ => rfl, fun _ => rfl, fun _ _ => rfl, fun _ => rfl, fun _ _ _ _ => List.length_map _, fun _ _ _ => List.length_append, fun _ _ _ => List.length_take, fun _ _ _ => List.length_drop,
    fun _ _ _ => List.length_replicate, fun _ _ _ _ => List.length_set, fun _ _ _ => rfl, fun _ => rfl, rfl, fun _ => wI64, fun _ => wU8, fun _ => wU32, fun _ => wU64, fun _ _ => tdvN, fun _ _ => tmdN⟩
theorem zb : (∀ (p : Prop) [Decidable p], (decide p = true) = p) ∧ (∀ (p : Prop) [Decidable p], (decide p = false) = ¬ p) ∧ (∀ b : Bool, ((!b) = true) = (b = false)) ∧ (∀ b : Bool, ((!b) = false) = (b = true)) ∧ (∀ b : Bool, (!(!b)) = b) ∧ ((!true) = false) ∧ ((!false) = true) ∧ (∀ n : Nat, ((n : Int)).toNat = n) ∧ ((¬ True) = False) ∧ (∀ b : Bool, (b == b) = true) ∧ (decide True = true) ∧ (decide False = false) ∧ (∀ b : Bool, (true == b) = b) ∧ (∀ b : Bool, (false == b) = !b) :=
  ⟨fun _ _ => decide_eq_true_eq, fun p _ => by simp, fun b => by simp, fun b => by simp, fun b => by simp, rfl, rfl, fun _ => rfl, by simp, fun b => by simp, by simp, by simp, fun b => by simp, fun b => by simp⟩
theorem zw : (∀ n : Int, IntKind.i64.wrap n = (n + 9223372036854775808) % 18446744073709551616 - 9223372036854775808) ∧ (∀ n : Int, IntKind.u8.wrap n = n % 256) ∧ (∀ n : Int, IntKind.u32.wrap n = n % 4294967296) ∧ (∀ n : Int, IntKind.u64.wrap n = n % 18446744073709551616) ∧ (∀ a b : Int, a.tdiv b = if 0 ≤ a then a / b else -(-a / b)) ∧ (∀ a b : Int, a.tmod b = if 0 ≤ a then a % b else -(-a % b)) :=
  ⟨IntKind.wrap_i64, IntKind.wrap_u8, IntKind.wrap_u32, IntKind.wrap_u64, tdivI, tmodI⟩
theorem AllR.pass {P : Program} {ops : Array Oper} {fuel : Nat} {listed : Array Bool} {s : St} {Q : St → Prop} {l : List Nat} (h : AllR P ops fuel listed s Q l) : AllR P ops fuel listed s Q l := h
theorem AnyQ.pass {P : Program} {ops : Array Oper} {fuel : Nat} {listed : Array Bool} {s : St} {Q : St → Prop} (h : AnyQ P ops fuel listed s Q) : AnyQ P ops fuel listed s Q := h
end Go.Proofs.Ytkkjlmcnfoncdaa.Aw

namespace Go.Proofs.Ytkkjlmcnfoncdaa.Aw
open Go Go.RowKit
def tab : List TI := [
  ⟨true, .other, 1, 0, (.some [(.tuple ⟨[]⟩)])⟩,
  ⟨true, .other, 1, 8, (.some [.nilFunc])⟩,
  ⟨true, (.int .i64), 1, 8, (.some [(.int .i64 0)])⟩,
  ⟨true, (.int .i64), 1, 8, (.some [(.int .i64 0)])⟩,
  ⟨true, .bool, 1, 1, (.some [(.bool false)])⟩,
  ⟨true, (.int .u8), 1, 1, (.some [(.int .u8 0)])⟩,
  ⟨true, (.int .u8), 1, 1, (.some [(.int .u8 0)])⟩,
  ⟨true, (.struct [(0, 1, false), (1, 1, false), (2, 1, false), (3, 1, false)]), 4, 24, (.some [(.int .i64 0), (.int .i64 0), (.bool false), (.int .u8 0)])⟩,
  ⟨true, (.struct [(0, 1, false), (1, 1, false), (2, 1, false), (3, 1, false)]), 4, 24, (.some [(.int .i64 0), (.int .i64 0), (.bool false), (.int .u8 0)])⟩,
  ⟨true, .string, 1, 16, (.some [(.string ⟨⟨[]⟩⟩)])⟩,
  ⟨true, .string, 1, 16, (.some [(.string ⟨⟨[]⟩⟩)])⟩,
  ⟨true, .string, 1, 16, (.some [(.string ⟨⟨[]⟩⟩)])⟩,
  ⟨true, (.int .u64), 1, 8, (.some [(.int .u64 0)])⟩,
  ⟨true, (.struct [(0, 1, false), (1, 1, false)]), 2, 24, (.some [(.string ⟨⟨[]⟩⟩), (.int .u64 0)])⟩,
  ⟨true, (.struct [(0, 1, false), (1, 1, false)]), 2, 24, (.some [(.string ⟨⟨[]⟩⟩), (.int .u64 0)])⟩,
  ⟨true, (.pointer 181), 1, 8, (.some [(.pointer .none)])⟩,
  ⟨true, (.pointer 184), 1, 8, (.some [(.pointer .none)])⟩,
  ⟨true, (.pointer 193), 1, 8, (.some [(.pointer .none)])⟩,
  ⟨true, (.struct [(0, 1, false)]), 1, 8, (.some [(.pointer .none)])⟩,
  ⟨true, (.struct [(0, 1, false)]), 1, 8, (.some [(.pointer .none)])⟩,
  ⟨true, .other, 1, 16, (.some [.nilIface])⟩,
  ⟨true, (.int .i32), 1, 4, (.some [(.int .i32 0)])⟩,
  ⟨true, (.slice 113), 1, 24, (.some [(.slice .none 0 0)])⟩,
  ⟨true, (.slice 24), 1, 24, (.some [(.slice .none 0 0)])⟩,
  ⟨true, (.slice 3), 1, 24, (.some [(.slice .none 0 0)])⟩,
  ⟨true, (.struct [(0, 1, false), (1, 1, false)]), 2, 48, (.some [(.slice .none 0 0), (.slice .none 0 0)])⟩,
  ⟨true, (.struct [(0, 1, false), (1, 1, false)]), 2, 48, (.some [(.slice .none 0 0), (.slice .none 0 0)])⟩,
  ⟨true, (.slice 130), 1, 24, (.some [(.slice .none 0 0)])⟩,
  ⟨true, (.struct [(0, 1, false), (1, 1, false), (2, 1, false)]), 3, 72, (.some [(.slice .none 0 0), (.slice .none 0 0), (.slice .none 0 0)])⟩,
  ⟨true, (.struct [(0, 1, false), (1, 1, false), (2, 1, false)]), 3, 72, (.some [(.slice .none 0 0), (.slice .none 0 0), (.slice .none 0 0)])⟩,
  ⟨true, (.struct [(0, 1, false), (1, 3, true), (4, 1, false), (5, 1, false)]), 6, 144, (.some [(.slice .none 0 0), (.slice .none 0 0), (.slice .none 0 0), (.slice .none 0 0), (.slice .none 0 0), (.slice .none 0 0)])⟩,
  ⟨true, (.struct [(0, 1, false), (1, 3, true), (4, 1, false), (5, 1, false)]), 6, 144, (.some [(.slice .none 0 0), (.slice .none 0 0), (.slice .none 0 0), (.slice .none 0 0), (.slice .none 0 0), (.slice .none 0 0)])⟩,
  ⟨true, (.struct [(0, 1, false), (1, 2, true), (3, 6, true), (9, 1, false), (10, 1, false)]), 11, 232, (.some [(.slice .none 0 0), (.slice .none 0 0), (.slice .none 0 0), (.slice .none 0 0), (.slice .none 0 0), (.slice .none 0 0), (.slice .none 0 0), (.slice .none 0 0), (.slice .none 0 0), (.int .i64 0), (.int .i64 0)])⟩,
  ⟨true, (.struct [(0, 1, false), (1, 2, true), (3, 6, true), (9, 1, false), (10, 1, false)]), 11, 232, (.some [(.slice .none 0 0), (.slice .none 0 0), (.slice .none 0 0), (.slice .none 0 0), (.slice .none 0 0), (.slice .none 0 0), (.slice .none 0 0), (.slice .none 0 0), (.slice .none 0 0), (.int .i64 0), (.int .i64 0)])⟩,
  ⟨true, .other, 1, 8, (.some [.nilFunc])⟩,
  ⟨true, .other, 1, 8, (.some [.nilFunc])⟩,
  ⟨true, .other, 1, 8, (.some [.nilFunc])⟩,
  ⟨true, .other, 1, 8, (.some [.nilFunc])⟩,
  ⟨true, .other, 1, 8, (.some [.nilFunc])⟩,
  ⟨true, (.struct [(0, 1, false), (1, 2, true), (3, 6, true), (9, 1, false)]), 10, 224, (.some [(.slice .none 0 0), (.slice .none 0 0), (.slice .none 0 0), (.slice .none 0 0), (.slice .none 0 0), (.slice .none 0 0), (.slice .none 0 0), (.slice .none 0 0), (.slice .none 0 0), (.int .u8 0)])⟩,
  ⟨true, (.struct [(0, 1, false), (1, 2, true), (3, 6, true), (9, 1, false)]), 10, 224, (.some [(.slice .none 0 0), (.slice .none 0 0), (.slice .none 0 0), (.slice .none 0 0), (.slice .none 0 0), (.slice .none 0 0), (.slice .none 0 0), (.slice .none 0 0), (.slice .none 0 0), (.int .u8 0)])⟩,
  ⟨true, .other, 1, 8, (.some [.nilFunc])⟩,
  ⟨true, .other, 1, 8, (.some [.nilFunc])⟩,
  ⟨true, .other, 1, 8, (.some [.nilFunc])⟩,
  ⟨true, (.struct [(0, 1, false), (1, 2, true), (3, 6, true), (9, 1, false), (10, 1, false), (11, 1, false)]), 12, 240, (.some [(.slice .none 0 0), (.slice .none 0 0), (.slice .none 0 0), (.slice .none 0 0), (.slice .none 0 0), (.slice .none 0 0), (.slice .none 0 0), (.slice .none 0 0), (.slice .none 0 0), (.int .i64 0), (.int .i64 0), (.int .u8 0)])⟩,
  ⟨true, (.struct [(0, 1, false), (1, 2, true), (3, 6, true), (9, 1, false), (10, 1, false), (11, 1, false)]), 12, 240, (.some [(.slice .none 0 0), (.slice .none 0 0), (.slice .none 0 0), (.slice .none 0 0), (.slice .none 0 0), (.slice .none 0 0), (.slice .none 0 0), (.slice .none 0 0), (.slice .none 0 0), (.int .i64 0), (.int .i64 0), (.int .u8 0)])⟩,
  ⟨true, .other, 1, 8, (.some [.nilFunc])⟩,
  ⟨true, .other, 1, 8, (.some [.nilFunc])⟩,
  ⟨true, .other, 1, 8, (.some [.nilFunc])⟩,
  ⟨true, .other, 1, 8, (.some [.nilFunc])⟩,
  ⟨true, (.struct [(0, 1, false), (1, 2, true), (3, 6, true), (9, 1, false), (10, 1, false)]), 11, 232, (.some [(.slice .none 0 0), (.slice .none 0 0), (.slice .none 0 0), (.slice .none 0 0), (.slice .none 0 0), (.slice .none 0 0), (.slice .none 0 0), (.slice .none 0 0), (.slice .none 0 0), (.int .i64 0), (.int .i64 0)])⟩,
  ⟨true, .other, 1, 8, (.some [.nilFunc])⟩,
  ⟨true, (.struct [(0, 1, false), (1, 2, true), (3, 6, true), (9, 1, false), (10, 1, false)]), 11, 232, (.some [(.slice .none 0 0), (.slice .none 0 0), (.slice .none 0 0), (.slice .none 0 0), (.slice .none 0 0), (.slice .none 0 0), (.slice .none 0 0), (.slice .none 0 0), (.slice .none 0 0), (.int .i64 0), (.int .i64 0)])⟩,
  ⟨true, (.slice 58), 1, 24, (.some [(.slice .none 0 0)])⟩,
  ⟨true, .other, 1, 0, (.some [(.tuple ⟨[(.agg ⟨[(.slice .none 0 0), (.slice .none 0 0), (.slice .none 0 0), (.slice .none 0 0), (.slice .none 0 0), (.slice .none 0 0)]⟩), (.slice .none 0 0), (.bool false)]⟩)])⟩,
  ⟨true, .other, 1, 8, (.some [.nilFunc])⟩,
  ⟨true, .other, 1, 8, (.some [.nilFunc])⟩,
  ⟨true, (.array 2 3), 2, 16, (.some [(.int .i64 0), (.int .i64 0)])⟩,
  ⟨true, (.array 2 3), 2, 16, (.some [(.int .i64 0), (.int .i64 0)])⟩,
  ⟨true, .other, 1, 8, (.some [.nilFunc])⟩,
  ⟨true, .other, 1, 8, (.some [.nilFunc])⟩,
  ⟨true, (.struct [(0, 1, false), (1, 2, true), (3, 6, true), (9, 1, false), (10, 1, false)]), 11, 232, (.some [(.slice .none 0 0), (.slice .none 0 0), (.slice .none 0 0), (.slice .none 0 0), (.slice .none 0 0), (.slice .none 0 0), (.slice .none 0 0), (.slice .none 0 0), (.slice .none 0 0), (.int .i64 0), (.int .i64 0)])⟩,
  ⟨true, .other, 1, 0, (.some [(.tuple ⟨[(.agg ⟨[(.slice .none 0 0), (.slice .none 0 0), (.slice .none 0 0), (.slice .none 0 0), (.slice .none 0 0), (.slice .none 0 0)]⟩), (.slice .none 0 0)]⟩)])⟩,
  ⟨true, .other, 1, 8, (.some [.nilFunc])⟩,
  ⟨true, .other, 1, 8, (.some [.nilFunc])⟩,
  ⟨true, .other, 1, 8, (.some [.nilFunc])⟩,
  ⟨true, .other, 1, 8, (.some [.nilFunc])⟩,
  ⟨true, (.struct [(0, 1, false), (1, 2, true), (3, 6, true), (9, 1, false)]), 10, 240, (.some [(.slice .none 0 0), (.slice .none 0 0), (.slice .none 0 0), (.slice .none 0 0), (.slice .none 0 0), (.slice .none 0 0), (.slice .none 0 0), (.slice .none 0 0), (.slice .none 0 0), (.slice .none 0 0)])⟩,
  ⟨true, (.struct [(0, 1, false), (1, 2, true), (3, 6, true), (9, 1, false)]), 10, 240, (.some [(.slice .none 0 0), (.slice .none 0 0), (.slice .none 0 0), (.slice .none 0 0), (.slice .none 0 0), (.slice .none 0 0), (.slice .none 0 0), (.slice .none 0 0), (.slice .none 0 0), (.slice .none 0 0)])⟩,
  ⟨true, .other, 1, 8, (.some [.nilFunc])⟩,
  ⟨true, .other, 1, 8, (.some [.nilFunc])⟩,
  ⟨true, (.struct [(0, 1, false), (1, 2, true), (3, 6, true), (9, 1, false)]), 10, 240, (.some [(.slice .none 0 0), (.slice .none 0 0), (.slice .none 0 0), (.slice .none 0 0), (.slice .none 0 0), (.slice .none 0 0), (.slice .none 0 0), (.slice .none 0 0), (.slice .none 0 0), (.slice .none 0 0)])⟩,
  ⟨true, .other, 1, 8, (.some [.nilFunc])⟩,
  ⟨true, .other, 1, 8, (.some [.nilFunc])⟩,
  ⟨true, .other, 1, 8, (.some [.nilFunc])⟩,
  ⟨true, .other, 1, 8, (.some [.nilFunc])⟩,
  ⟨true, .other, 1, 8, (.some [.nilFunc])⟩,
  ⟨true, .other, 1, 8, (.some [.nilFunc])⟩,
  ⟨true, .other, 1, 8, (.some [.nilFunc])⟩,
  ⟨true, .other, 1, 0, (.some [(.tuple ⟨[(.int .i64 0), (.bool false)]⟩)])⟩,
  ⟨true, .other, 1, 8, (.some [.nilFunc])⟩,
  ⟨true, (.struct [(0, 1, false), (1, 1, false), (2, 1, false), (3, 1, false)]), 4, 48, (.some [(.int .i64 0), (.int .i64 0), (.int .i64 0), (.slice .none 0 0)])⟩,
  ⟨true, (.struct [(0, 1, false), (1, 1, false), (2, 1, false), (3, 1, false)]), 4, 48, (.some [(.int .i64 0), (.int .i64 0), (.int .i64 0), (.slice .none 0 0)])⟩,
  ⟨true, .other, 1, 0, (.some [(.tuple ⟨[(.agg ⟨[(.int .i64 0), (.int .i64 0), (.int .i64 0), (.slice .none 0 0)]⟩), (.bool false)]⟩)])⟩,
  ⟨true, .other, 1, 8, (.some [.nilFunc])⟩,
  ⟨true, .other, 1, 8, (.some [.nilFunc])⟩,
  ⟨true, .other, 1, 8, (.some [.nilFunc])⟩,
  ⟨true, .other, 1, 8, (.some [.nilFunc])⟩,
  ⟨true, (.map 3 3), 1, 8, (.some [(.map .none)])⟩,
  ⟨true, .other, 1, 8, (.some [.nilFunc])⟩,
  ⟨true, .other, 1, 8, (.some [.nilFunc])⟩,
  ⟨true, .other, 1, 8, (.some [.nilFunc])⟩,
  ⟨true, .other, 1, 8, (.some [.nilFunc])⟩,
  ⟨true, .other, 1, 8, (.some [.nilFunc])⟩,
  ⟨true, .other, 1, 8, (.some [.nilFunc])⟩,
  ⟨true, .other, 1, 8, (.some [.nilFunc])⟩,
  ⟨true, .other, 1, 0, (.some [(.tuple ⟨[(.slice .none 0 0), (.bool false)]⟩)])⟩,
  ⟨true, .other, 1, 8, (.some [.nilFunc])⟩,
  ⟨true, .other, 1, 8, (.some [.nilFunc])⟩,
  ⟨true, .other, 1, 8, (.some [.nilFunc])⟩,
  ⟨true, .other, 1, 8, (.some [.nilFunc])⟩,
  ⟨true, .other, 1, 8, (.some [.nilFunc])⟩,
  ⟨true, .other, 1, 8, (.some [.nilFunc])⟩,
  ⟨true, .other, 1, 8, (.some [.nilFunc])⟩,
  ⟨true, .other, 1, 8, (.some [.nilFunc])⟩,
  ⟨true, .other, 1, 8, (.some [.nilFunc])⟩,
  ⟨true, .other, 1, 8, (.some [.nilFunc])⟩,
  ⟨true, .other, 1, 8, (.some [.nilFunc])⟩,
  ⟨true, .other, 1, 8, (.some [.nilFunc])⟩,
  ⟨true, .other, 1, 8, (.some [.nilFunc])⟩,
  ⟨true, .other, 1, 8, (.some [.nilFunc])⟩,
  ⟨true, .other, 1, 8, (.some [.nilFunc])⟩,
  ⟨true, (.struct [(0, 1, false), (1, 1, false)]), 2, 32, (.some [(.string ⟨⟨[]⟩⟩), (.string ⟨⟨[]⟩⟩)])⟩,
  ⟨true, (.struct [(0, 1, false), (1, 1, false)]), 2, 32, (.some [(.string ⟨⟨[]⟩⟩), (.string ⟨⟨[]⟩⟩)])⟩,
  ⟨true, .other, 1, 8, (.some [.nilFunc])⟩,
  ⟨true, .other, 1, 8, (.some [.nilFunc])⟩,
  ⟨true, .other, 1, 8, (.some [.nilFunc])⟩,
  ⟨true, .other, 1, 8, (.some [.nilFunc])⟩,
  ⟨true, .other, 1, 8, (.some [.nilFunc])⟩,
  ⟨true, .other, 1, 8, (.some [.nilFunc])⟩,
  ⟨true, (.int .u32), 1, 4, (.some [(.int .u32 0)])⟩,
  ⟨true, .other, 1, 8, (.some [.nilFunc])⟩,
  ⟨true, .other, 1, 8, (.some [.nilFunc])⟩,
  ⟨true, .other, 1, 8, (.some [.nilFunc])⟩,
  ⟨true, (.int .u64), 1, 8, (.some [(.int .u64 0)])⟩,
  ⟨true, .other, 1, 8, (.some [.nilFunc])⟩,
  ⟨true, (.int .i64), 1, 8, (.some [(.int .i64 0)])⟩,
  ⟨true, .other, 1, 0, (.some [(.tuple ⟨[(.agg ⟨[(.slice .none 0 0), (.slice .none 0 0), (.slice .none 0 0)]⟩), (.int .i64 0)]⟩)])⟩,
  ⟨true, .other, 1, 8, (.some [.nilFunc])⟩,
  ⟨true, (.struct [(0, 1, false), (1, 1, false)]), 2, 16, (.some [(.int .i64 0), (.int .i64 0)])⟩,
  ⟨true, (.struct [(0, 1, false), (1, 1, false)]), 2, 16, (.some [(.int .i64 0), (.int .i64 0)])⟩,
  ⟨true, .other, 1, 8, (.some [.nilFunc])⟩,
  ⟨true, .other, 1, 8, (.some [.nilFunc])⟩,
  ⟨true, .other, 1, 0, (.some [(.tuple ⟨[(.slice .none 0 0), (.bool false)]⟩)])⟩,
  ⟨true, .other, 1, 8, (.some [.nilFunc])⟩,
  ⟨true, .other, 1, 8, (.some [.nilFunc])⟩,
  ⟨true, .other, 1, 8, (.some [.nilFunc])⟩,
  ⟨true, .other, 1, 8, (.some [.nilFunc])⟩,
  ⟨true, .other, 1, 8, (.some [.nilFunc])⟩,
  ⟨true, .other, 1, 8, (.some [.nilFunc])⟩,
  ⟨true, .other, 1, 8, (.some [.nilFunc])⟩,
  ⟨true, .other, 1, 8, (.some [.nilFunc])⟩,
  ⟨true, .other, 1, 8, (.some [.nilFunc])⟩,
  ⟨true, (.int .u64), 1, 8, (.some [(.int .u64 0)])⟩,
  ⟨true, .other, 1, 8, (.some [.nilFunc])⟩,
  ⟨true, (.int .i64), 1, 8, (.some [(.int .i64 0)])⟩,
  ⟨true, .other, 1, 0, (.some [(.tuple ⟨[(.int .i64 0), (.int .i64 0)]⟩)])⟩,
  ⟨true, .other, 1, 8, (.some [.nilFunc])⟩,
  ⟨true, .other, 1, 8, (.some [.nilFunc])⟩,
  ⟨true, .other, 1, 8, (.some [.nilFunc])⟩,
  ⟨true, .other, 1, 8, (.some [.nilFunc])⟩,
  ⟨true, .other, 1, 8, (.some [.nilFunc])⟩,
  ⟨true, (.slice 3), 1, 24, (.some [(.slice .none 0 0)])⟩,
  ⟨true, .other, 1, 8, (.some [.nilFunc])⟩,
  ⟨true, .other, 1, 8, (.some [.nilFunc])⟩,
  ⟨true, .other, 1, 8, (.some [.nilFunc])⟩,
  ⟨true, .other, 1, 8, (.some [.nilFunc])⟩,
  ⟨true, .other, 1, 8, (.some [.nilFunc])⟩,
  ⟨true, .other, 1, 0, (.some [(.tuple ⟨[(.slice .none 0 0), (.bool false)]⟩)])⟩,
  ⟨true, .other, 1, 8, (.some [.nilFunc])⟩,
  ⟨true, .other, 1, 8, (.some [.nilFunc])⟩,
  ⟨true, (.int .u64), 1, 8, (.some [(.int .u64 0)])⟩,
  ⟨true, .other, 1, 8, (.some [.nilFunc])⟩,
  ⟨true, .other, 1, 8, (.some [.nilFunc])⟩,
  ⟨true, .other, 1, 8, (.some [.nilFunc])⟩,
  ⟨true, (.pointer 3), 1, 8, (.some [(.pointer .none)])⟩,
  ⟨true, .other, 1, 8, (.some [.nilFunc])⟩,
  ⟨true, .other, 1, 8, (.some [.nilFunc])⟩,
  ⟨true, .other, 1, 8, (.some [.nilFunc])⟩,
  ⟨true, .other, 1, 8, (.some [.nilFunc])⟩,
  ⟨true, (.struct [(0, 1, false), (1, 1, false)]), 2, 16, (.some [(.int .i64 0), (.int .i64 0)])⟩,
  ⟨true, .other, 1, 8, (.some [.nilFunc])⟩,
  ⟨true, .other, 1, 8, (.some [.nilFunc])⟩,
  ⟨true, .other, 1, 8, (.some [.nilFunc])⟩,
  ⟨true, (.pointer 152), 1, 8, (.some [(.pointer .none)])⟩,
  ⟨true, (.pointer 161), 1, 8, (.some [(.pointer .none)])⟩,
  ⟨true, .other, 1, 0, (.some [(.tuple ⟨[(.int .i64 0), (.int .i64 0)]⟩)])⟩,
  ⟨true, .other, 1, 8, (.some [.nilFunc])⟩,
  ⟨true, .other, 1, 8, (.some [.nilFunc])⟩,
  ⟨true, .other, 1, 8, (.some [.nilFunc])⟩,
  ⟨true, (.struct [(0, 1, false), (1, 1, false), (2, 1, false), (3, 1, false)]), 4, 40, (.some [(.pointer .none), (.pointer .none), (.pointer .none), (.string ⟨⟨[]⟩⟩)])⟩,
  ⟨true, (.struct [(0, 1, false), (1, 1, false), (2, 1, false), (3, 1, false)]), 4, 40, (.some [(.pointer .none), (.pointer .none), (.pointer .none), (.string ⟨⟨[]⟩⟩)])⟩,
  ⟨true, (.array 0 16), 0, 0, (.some [])⟩,
  ⟨true, (.struct [(0, 0, true)]), 0, 0, (.some [])⟩,
  ⟨true, (.struct [(0, 0, true)]), 0, 0, (.some [])⟩,
  ⟨true, .other, 1, 8, (.some [.nilFunc])⟩,
  ⟨true, (.int .u8), 1, 1, (.some [(.int .u8 0)])⟩,
  ⟨true, (.int .u8), 1, 1, (.some [(.int .u8 0)])⟩,
  ⟨true, .other, 1, 8, (.some [.nilFunc])⟩,
  ⟨true, (.pointer 5), 1, 8, (.some [(.pointer .none)])⟩,
  ⟨true, (.int .i32), 1, 4, (.some [(.int .i32 0)])⟩,
  ⟨true, (.int .i32), 1, 4, (.some [(.int .i32 0)])⟩,
  ⟨true, (.struct [(0, 1, false), (1, 1, false), (2, 1, false), (3, 1, false), (4, 1, false), (5, 1, false), (6, 1, false), (7, 1, false), (8, 1, false), (9, 1, false), (10, 1, false)]), 11, 48, (.some [(.int .u64 0), (.int .u64 0), (.int .u32 0), (.int .u8 0), (.int .u8 0), (.int .u8 0), (.int .u8 0), .nilFunc, (.pointer .none), (.int .i32 0), (.int .i32 0)])⟩,
  ⟨true, (.struct [(0, 1, false), (1, 1, false), (2, 1, false), (3, 1, false), (4, 1, false), (5, 1, false), (6, 1, false), (7, 1, false), (8, 1, false), (9, 1, false), (10, 1, false)]), 11, 48, (.some [(.int .u64 0), (.int .u64 0), (.int .u32 0), (.int .u8 0), (.int .u8 0), (.int .u8 0), (.int .u8 0), .nilFunc, (.pointer .none), (.int .i32 0), (.int .i32 0)])⟩,
  ⟨true, .other, 1, 8, (.some [(.pointer .none)])⟩]
theorem tabOk : TabOk Try.prog tab := tabOk_of (n := tab.length) (by kernel_rfl)
end Go.Proofs.Ytkkjlmcnfoncdaa.Aw

namespace Go.Proofs.Ytkkjlmcnfoncdaa.Aw
open Go Go.RowKit
theorem One.nilOwn {r : Option Nat} {P : Program} {ops : Array Oper} {i : Nat} {s : St} {tab : List TI} (hT : TabOk P tab) (d : Nat) (t : TypeId) {e : TypeId} {j : TI} (h : opAt ops i s = some (.assign (.const (.slice none 0 0)))) (hd : dstOf ops i = some d) (ht : slT tab t = some (e, j)) :
    One r P ops i s (.own s.st.length 0) (s.st ++ [.row true 0 e j.size []]) := by
  refine One.does h rfl fun o hop => ?_
  intro G g w a hr
  obtain ⟨g', h1, h2, h3⟩ := SR.newRow (w' := w) hr e j.size [] (.slice none 0 0) [] ⟨rfl, rfl, rfl, Nat.le_refl _, fun _ _ _ => rfl⟩ (by simp [gb]) ⟨by simp, .inl ⟨rfl, rfl⟩⟩ (fun ok => .nil _ _ _)
  exact ⟨.value (.slice none 0 0), .slice none 0 0, g', w, by simp [execOp, hop]; rfl, .inl rfl, h1, h2, h3⟩
def allEq : List (Nat × Nat) → Prop
  | [] => True
  | p :: r => p.1 = p.2 ∧ allEq r
theorem allEq_app {a b : List (Nat × Nat)} (h : allEq (a ++ b)) : allEq a ∧ allEq b := by
  induction a with
  | nil => exact ⟨trivial, h⟩
  | cons p r ih => exact ⟨⟨h.1, (ih h.2).1⟩, (ih h.2).2⟩
def toICO (own : Bool) (st : List AObj) : AV → Option (IC × List (Nat × Nat))
  | .ic (.sl sz _ xs) => some (.sl sz false xs, [])
  | .ic x => some (x, [])
  | .own i ver => match st[i]? with
    | some (.row m ver' _ sz xs) => match own || !m with
      | true => some (.sl sz false xs, [(ver, ver')])
      | false => none
    | _ => none
  | .fn (.func f) [] [] => some (.lit (.func (.func f) #[] #[]), [])
  | _ => none
def toICsO (own : Bool) (st : List AObj) : List AV → Option (List IC × List (Nat × Nat))
  | [] => some ([], [])
  | x :: r => match toICO own st x with
    | some (y, c) => match toICsO own st r with
      | some (z, d) => some (y :: z, c ++ d)
      | none => none
    | none => none
def toPVO (own : Bool) (st : List AObj) : AV → Option (PV × List (Nat × Nat))
  | .agg xs => match toICsO own st xs with
    | some (ys, c) => some (.agg ys, c)
    | none => none
  | x => match toICO own st x with
    | some (y, c) => some (.c y, c)
    | none => none
def toPVsO (own : Bool) (st : List AObj) : List AV → Option (List PV × List (Nat × Nat))
  | [] => some ([], [])
  | x :: r => match toPVO own st x with
    | some (y, c) => match toPVsO own st r with
      | some (z, d) => some (y :: z, c ++ d)
      | none => none
    | none => none
theorem toICO_ok {own : Bool} {st : List AObj} {x : AV} {y : IC} {c : List (Nat × Nat)} (h : toICO own st x = some (y, c)) (hc : allEq c) : toIC own st x = some y := by
  unfold toICO at h
  split at h
  · simp only [Option.some.injEq, Prod.mk.injEq] at h; obtain ⟨rfl, rfl⟩ := h; rfl
  · rename_i x hx
    simp only [Option.some.injEq, Prod.mk.injEq] at h
    obtain ⟨rfl, rfl⟩ := h
    cases x with
    | lit => rfl
    | mp => rfl
    | sl a b c => exact absurd rfl (hx a b c)
  · rename_i i ver
    split at h
    · rename_i m ver' e sz xs hs
      split at h
      · rename_i ho
        simp only [Option.some.injEq, Prod.mk.injEq] at h
        obtain ⟨rfl, rfl⟩ := h
        have e1 : ver = ver' := hc.1
        simp [toIC, hs, e1, ho]
      · simp at h
    · simp at h
  · simp only [Option.some.injEq, Prod.mk.injEq] at h; obtain ⟨rfl, rfl⟩ := h; rfl
  · simp at h
theorem toICsO_ok {own : Bool} {st : List AObj} : ∀ {xs : List AV} {ys : List IC} {c : List (Nat × Nat)}, toICsO own st xs = some (ys, c) → allEq c → toICs own st xs = some ys
  | [], ys, c, h, hc => by simp only [toICsO, Option.some.injEq, Prod.mk.injEq] at h; obtain ⟨rfl, rfl⟩ := h; rfl
  | x :: r, ys, c, h, hc => by
    simp only [toICsO] at h
    split at h
    · rename_i y c1 h1
      split at h
      · rename_i z d h2
        simp only [Option.some.injEq, Prod.mk.injEq] at h
        obtain ⟨rfl, rfl⟩ := h
        obtain ⟨a, b⟩ := allEq_app hc
        simp [toICs, toICO_ok h1 a, toICsO_ok h2 b]
      · simp at h
    · simp at h
theorem toPVO_ok {own : Bool} {st : List AObj} {x : AV} {y : PV} {c : List (Nat × Nat)} (h : toPVO own st x = some (y, c)) (hc : allEq c) : toPV own st x = some y := by
  have key : ∀ z : AV, (∀ xs, z ≠ AV.agg xs) → toPVO own st z = (match toICO own st z with | some (y, c) => some (.c y, c) | none => none) ∧ toPV own st z = (match toIC own st z with | some y => some (.c y) | none => none) := by
    intro z hz
    cases z <;> first | exact ⟨rfl, rfl⟩ | exact absurd rfl (hz _)
  by_cases hx : ∃ xs, x = .agg xs
  · obtain ⟨xs, rfl⟩ := hx
    simp only [toPVO] at h
    split at h
    · rename_i ys c1 h1
      simp only [Option.some.injEq, Prod.mk.injEq] at h
      obtain ⟨rfl, rfl⟩ := h
      simp [toPV, toICsO_ok h1 hc]
    · simp at h
  · obtain ⟨k1, k2⟩ := key x fun xs e => hx ⟨xs, e⟩
    rw [k1] at h
    rw [k2]
    split at h
    · rename_i y1 c1 h1
      simp only [Option.some.injEq, Prod.mk.injEq] at h
      obtain ⟨rfl, rfl⟩ := h
      rw [toICO_ok h1 hc]
    · simp at h
theorem toPVsO_ok {own : Bool} {st : List AObj} : ∀ {xs : List AV} {ys : List PV} {c : List (Nat × Nat)}, toPVsO own st xs = some (ys, c) → allEq c → toPVs own st xs = some ys
  | [], ys, c, h, hc => by simp only [toPVsO, Option.some.injEq, Prod.mk.injEq] at h; obtain ⟨rfl, rfl⟩ := h; rfl
  | x :: r, ys, c, h, hc => by
    simp only [toPVsO] at h
    split at h
    · rename_i y c1 h1
      split at h
      · rename_i z d h2
        simp only [Option.some.injEq, Prod.mk.injEq] at h
        obtain ⟨rfl, rfl⟩ := h
        obtain ⟨a, b⟩ := allEq_app hc
        simp [toPVs, toPVO_ok h1 a, toPVsO_ok h2 b]
      · simp at h
    · simp at h
theorem One.callO {r : Option Nat} {P : Program} {ops : Array Oper} {i : Nat} {s : St} {x : Operand} {args : Array Operand} {ts : Array TypeId} {f : FuncId} {first cap : List AV} {pvs : List PV} {y : PV} {c : List (Nat × Nat)} (own : Bool) (h : opAt ops i s = some (.call { callee := .value x, args := args, argTypes := ts })) (hf : s.ev x = .fn (.func f) first cap)
    (hx : toPVsO own s.st (first ++ args.toList.map s.ev ++ cap) = some (pvs, c)) (hc : PureCalls P f pvs y) (hn : (!own || noSl y) = true) (he : allEq c) : One r P ops i s y.av s.st := One.call own h hf (toPVsO_ok hx he) hc hn
end Go.Proofs.Ytkkjlmcnfoncdaa.Aw

namespace Go.Proofs.Ytkkjlmcnfoncdaa.Aw
open Go Go.RowKit
inductive CLe (s : List AObj) : AV → AV → Prop where
  | refl (x : AV) : CLe s x x
  | nil (a c : Nat) (b : Bool) : CLe s (.ic (.sl a b [])) (.ic (.sl c false []))
  | own (i ver e sz : Nat) (xs : List (List IC)) (h : s[i]? = some (.row false ver e sz xs)) : CLe s (.own i ver) (.ic (.sl sz false xs))
inductive CLes (s : List AObj) : List AV → List AV → Prop where
  | nil : CLes s [] []
  | cons {x y : AV} {r r' : List AV} (h : CLe s x y) (k : CLes s r r') : CLes s (x :: r) (y :: r')
theorem CLes.get {s : List AObj} {xs ys : List AV} (h : CLes s xs ys) : xs.length = ys.length ∧ ∀ (k : Nat) (y : AV), ys[k]? = some y → ∃ x, xs[k]? = some x ∧ CLe s x y := by
  induction h with
  | nil => exact ⟨rfl, fun k y hy => by simp at hy⟩
  | cons h k ih =>
    refine ⟨by simp [ih.1], fun j z hz => ?_⟩
    cases j with
    | zero => simp at hz; subst hz; exact ⟨_, rfl, h⟩
    | succ j => exact ih.2 j z (by simpa using hz)
theorem frozen_ir {G : Nat → Prop} {s : List AObj} {g : Ghost} {w : World} (hr : SR G s g w) {i ver e sz : Nat} {xs : List (List IC)} (h : s[i]? = some (.row false ver e sz xs)) : IR w (Good G s g) (.sl sz false xs) (g i) :=
  row_ir h hr _ (fun _ h => h) (fun b hb hG => ⟨hG, fun ⟨j, o, hj, hm, hgj⟩ => by
    have := hr.inj i j _ o b h hj rfl (by cases o <;> simp_all [AObj.mu, AObj.live]) hb hgj
    subst this
    rw [h] at hj
    simp only [Option.some.injEq] at hj
    subst hj
    simp [AObj.mu] at hm⟩)
theorem AR.le {G : Nat → Prop} {s : List AObj} {g : Ghost} {w : World} (hr : SR G s g w) {x y : AV} {v : Value} (h : AR G s g w x v) (k : CLe s x y) : AR G s g w y v := by
  cases k with
  | refl => exact h
  | nil a c b => exact .ic _ _ (h.ic_inv.le (.nil a c b))
  | own i ver e sz xs hs =>
    cases h with
    | own i ver v hi hv h1 =>
      obtain rfl := (hv _ _ _ _ _ hs).2 rfl
      exact .ic _ _ (frozen_ir hr hs)
end Go.Proofs.Ytkkjlmcnfoncdaa.Aw

namespace Go.Proofs.Ytkkjlmcnfoncdaa.Aw
open Go Go.RowKit
theorem AWp.trimN {r : Option Nat} {P : Program} {c : Code} {s : St} {Q1 : St → Prop} {Q : Exit → St → Prop} (n : Nat) (hn : s.st.length ≤ n) (h : AWp r P c s (Thn (fun s' => ∃ env, Trim n s.st env s' ∧ Q1 ⟨s'.nt, env, s'.st.take n⟩) Q)) : AWp r P c s (Thn Q1 Q) := fun G g w a B QQ hr hB hd kk => by
  refine h G g w a B QQ hr hB hd ?_
  intro e s' g' w' a' hQ hr' hev hd'
  cases e with
  | normal =>
    obtain ⟨env, ⟨h2, ht, hce, hget⟩, hQ⟩ := hQ
    obtain ⟨hsr, hev'⟩ := trimS hr.sr hr'.sr hev hn h2 ht
    refine kk .normal _ g' w' a' hQ ⟨fun t => ?_, hr'.size, hsr⟩ hev' hd'
    show AR G (s'.st.take n) g' w' (look env t) _
    rcases look_mem env t with e0 | ⟨p, hp, e1, e2⟩
    · rw [e0]; exact .any _
    · have hcl := closedE_look hce t
      rw [← e2] at hcl ⊢
      have hx := hr'.slots t
      rw [← e1] at hx
      rw [hget p hp] at hx
      rw [← e1]
      exact hx.trim hcl h2
  | ret => exact kk .ret s' g' w' a' hQ hr' hev hd'
  | exit id => exact kk (.exit id) s' g' w' a' hQ hr' hev hd'
  | goto t => exact kk (.goto t) s' g' w' a' hQ hr' hev hd'
  | panic ch => exact kk (.panic ch) s' g' w' a' hQ hr' hev hd'
  | outgrown => exact kk .outgrown s' g' w' a' hQ hr' hev hd'
def ndB : List (Nat × AV) → Nat → Bool
  | [], _ => true
  | (t, _) :: r, m => match bitB m t with
    | true => false
    | false => ndB r (bitS m t)
theorem ndB_look : ∀ (env : List (Nat × AV)) (m : Nat), ndB env m = true → ∀ p ∈ env, bitB m p.1 = false ∧ look env p.1 = p.2
  | [], _, _, p, hp => by simp at hp
  | (t, x) :: r, m, h, p, hp => by
    simp only [ndB] at h
    cases hm : bitB m t with
    | true => rw [hm] at h; cases h
    | false =>
      rw [hm] at h
      rcases List.mem_cons.1 hp with rfl | hp
      · exact ⟨hm, look_cons_eq⟩
      · obtain ⟨h1, h2⟩ := ndB_look r _ h p hp
        rw [bit_add, Bool.or_eq_false_iff] at h1
        refine ⟨h1.1, ?_⟩
        rw [look_cons_ne fun e => by simp [e] at h1]
        exact h2
theorem AWp.loopT {r : Option Nat} {P : Program} {c : Code} {s : St} {Q : Exit → St → Prop} {σ : Type} (n : Nat) (up : σ → List (Nat × AV)) (stf : σ → List AObj) (mu : σ → Nat) (Inv : σ → Prop) (x0 : σ) {keep : List (Nat × AV)} (hk : keepOf (wr c 0) s.env = keep)
    (h0 : Inv x0) (he : subE s (up x0)) (hs : s.st = stf x0) (hn : ∀ x, Nat.ble (stf x).length n = true) (hnd : ∀ x, ndB (up x ++ keep) 0 = true)
    (round : ∀ x, Inv x → AWp r P c ⟨s.nt, up x ++ keep, stf x⟩ (Thn (fun s' => ∃ x', Inv x' ∧ mu x' < mu x ∧ s'.nt = s.nt ∧ Nat.ble n s'.st.length = true ∧ trimOk n (stf x) (s'.st.take n) ∧ s'.st.take n = stf x' ∧ closedE n (up x' ++ keep) = true ∧ subE s' (up x') ∧ subE s' keep) Q)) : AWp r P (.loop c) s Q := by
  subst hk
  refine AWp.loop (fun n s' => ∃ x, Inv x ∧ mu x = n ∧ Sub ⟨s.nt, up x ++ keepOf (wr c 0) s.env, stf x⟩ s') (mu x0) ⟨x0, h0, rfl, Sub.of rfl hs (subE_append he (subE_of fun p hp => (keep_get _ _ p hp).2))⟩ ?_
  rintro m s1 ⟨x, hi, rfl, hsub⟩
  refine AWp.sub hsub ?_
  refine AWp.trimN n (Nat.le_of_ble_eq_true (hn x)) ((round x hi).mono ?_)
  intro e s2 h
  cases e with
  | normal =>
    obtain ⟨x', h1, h2, h3, h4, h5, h6, h7, h8, h9⟩ := h
    refine ⟨up x' ++ keepOf (wr c 0) s.env, Trim.of h4 h5 h7 (subE_append h8 h9), mu x', h2, x', h1, rfl, Sub.of h3 h6 (subE_of fun p hp => (ndB_look _ 0 (hnd x') p hp).2)⟩
  | _ => exact h
end Go.Proofs.Ytkkjlmcnfoncdaa.Aw

namespace Go.Proofs.Ytkkjlmcnfoncdaa.Aw
open Go Go.RowKit
mutual
def shV (K : Nat) : AV → AV
  | .any => .any
  | .ic x => .ic x
  | .own i v => .own (K + i) v
  | .ptr i o => .ptr (K + i) o
  | .at cs => .at cs
  | .rat i v j o => .rat (K + i) v j o
  | .fn f a b => .fn f (shVs K a) (shVs K b)
  | .agg xs => .agg (shVs K xs)
  | .tup xs => .tup (shVs K xs)
  | .yl i => .yl (K + i)
  | .mo i => .mo (K + i)
def shVs (K : Nat) : List AV → List AV
  | [] => []
  | x :: r => shV K x :: shVs K r
end
def shO (K : Nat) : AObj → AObj
  | .var m t cs => .var m t (shVs K cs)
  | .dead => .dead
  | .row m v e sz xs => .row m v e sz xs
  | .lp c => .lp c
  | .mpo es => .mpo es
def shOs (K : Nat) : List AObj → List AObj
  | [] => []
  | x :: r => shO K x :: shOs K r
def noLp : AObj → Bool
  | .lp _ => false
  | .mpo _ => false
  | _ => true
theorem shVs_get {K : Nat} : ∀ {l : List AV} {k : Nat} {y : AV}, (shVs K l)[k]? = some y → ∃ x, l[k]? = some x ∧ y = shV K x
  | [], k, y, h => by simp [shVs] at h
  | x :: r, 0, y, h => by simp [shVs] at h; exact ⟨x, rfl, h.symm⟩
  | x :: r, k + 1, y, h => by
    simp only [shVs, List.getElem?_cons_succ] at h
    simpa using shVs_get h
theorem shVs_len {K : Nat} : ∀ l : List AV, (shVs K l).length = l.length
  | [] => rfl
  | x :: r => by simp [shVs, shVs_len r]
theorem shVs_of {K : Nat} : ∀ {l : List AV} {k : Nat} {x : AV}, l[k]? = some x → (shVs K l)[k]? = some (shV K x)
  | [], k, x, h => by simp at h
  | y :: r, 0, x, h => by simp at h; subst h; rfl
  | y :: r, k + 1, x, h => by
    simp only [shVs, List.getElem?_cons_succ]
    exact shVs_of (by simpa using h)
theorem shOs_len {K : Nat} : ∀ l : List AObj, (shOs K l).length = l.length
  | [] => rfl
  | x :: r => by simp [shOs, shOs_len r]
theorem shOs_of {K : Nat} : ∀ {l : List AObj} {k : Nat} {x : AObj}, l[k]? = some x → (shOs K l)[k]? = some (shO K x)
  | [], k, x, h => by simp at h
  | y :: r, 0, x, h => by simp at h; subst h; rfl
  | y :: r, k + 1, x, h => by
    simp only [shOs, List.getElem?_cons_succ]
    exact shOs_of (by simpa using h)
theorem shOs_get {K : Nat} : ∀ {l : List AObj} {k : Nat} {y : AObj}, (shOs K l)[k]? = some y → ∃ x, l[k]? = some x ∧ y = shO K x
  | [], k, y, h => by simp [shOs] at h
  | x :: r, 0, y, h => by simp [shOs] at h; exact ⟨x, rfl, h.symm⟩
  | x :: r, k + 1, y, h => by
    simp only [shOs, List.getElem?_cons_succ] at h
    simpa using shOs_get h
theorem shO_mu (K : Nat) (o : AObj) : (shO K o).mu = o.mu := by cases o <;> rfl
theorem shO_live (K : Nat) (o : AObj) : (shO K o).live = o.live := by cases o <;> rfl
theorem AR.down {G G' : Nat → Prop} {big s : List AObj} {g g' : Ghost} {w : World} {K : Nat} (hgood : ∀ b, Good G big g b → Good G' s g' b) (hobj : ∀ (i : Nat) (o : AObj), s[i]? = some o → big[K + i]? = some (shO K o)) (hg : ∀ i, g' i = g (K + i)) {y : AV} {v : Value} (h : AR G big g w y v) :
    ∀ x : AV, y = shV K x → closedB s.length x = true → AR G' s g' w x v := by
  have lt : ∀ i, Nat.blt i s.length = true → i < s.length := fun i hi => Nat.le_of_ble_eq_true hi
  induction h with
  | any v => intro x e hc; cases x <;> simp [shV] at e; exact .any v
  | ic z v h => intro x e hc; cases x <;> simp [shV] at e; subst e; exact .ic _ _ (h.mono (fun _ _ _ => rfl) (fun b _ hb => hgood b hb) (Nat.le_refl _))
  | own i ver v hi hv h1 =>
    intro x e hc
    cases x <;> simp [shV] at e
    obtain ⟨rfl, rfl⟩ := e
    refine .own _ _ _ (lt _ hc) (fun m v' e sz xs hs => ?_) h1
    obtain ⟨a, b⟩ := hv _ _ _ _ _ (hobj _ _ hs)
    exact ⟨a, fun e => (b e).trans (hg _).symm⟩
  | ptr i off v hi hv h1 =>
    intro x e hc
    cases x <;> simp [shV] at e
    obtain ⟨rfl, rfl⟩ := e
    refine .ptr _ _ _ (lt _ hc) (fun m t cs hs => ?_) h1
    obtain ⟨b, e1, e2⟩ := hv _ _ _ (hobj _ _ hs)
    exact ⟨b, (hg _).trans e1, e2⟩
  | «at» cs b o val hb hok hcell hin =>
    intro x e hc
    cases x <;> simp [shV] at e
    subst e
    exact .«at» _ b o val hb (hgood b hok) hcell fun k x hk => (hin k x hk).mono (fun _ _ _ => rfl) (fun b _ hb => hgood b hb) (Nat.le_refl _)
  | rat i ver j off v hi hv h1 =>
    intro x e hc
    cases x <;> simp [shV] at e
    obtain ⟨rfl, rfl, rfl, rfl⟩ := e
    refine .rat _ _ _ _ _ (lt _ hc) (fun m v' e sz xs hs => ?_) h1
    obtain ⟨a, b⟩ := hv _ _ _ _ _ (hobj _ _ hs)
    exact ⟨a, fun e => by obtain ⟨b', h1, h2⟩ := b e; exact ⟨b', by rw [hg]; exact h1, h2⟩⟩
  | fn f first cap vf vc h1 h2 h3 h4 ih3 ih4 =>
    intro x e hc
    cases x <;> simp [shV] at e
    obtain ⟨rfl, rfl, rfl⟩ := e
    simp only [closedB, Bool.and_eq_true] at hc
    refine .fn _ _ _ vf vc (by rw [h1, shVs_len]) (by rw [h2, shVs_len]) (fun k x hk => ih3 k _ (shVs_of hk) x rfl (closedBs_get hc.1 k x hk)) (fun k x hk => ih4 k _ (shVs_of hk) x rfl (closedBs_get hc.2 k x hk))
  | agg xs vs h1 h2 h3 ih =>
    intro x e hc
    cases x <;> simp [shV] at e
    subst e
    exact .agg _ vs (by rw [h1, shVs_len]) (fun k x hk => ih k _ (shVs_of hk) x rfl (closedBs_get hc k x hk)) h3
  | tup xs vs h1 h2 ih =>
    intro x e hc
    cases x <;> simp [shV] at e
    subst e
    exact .tup _ vs (by rw [h1, shVs_len]) (fun k x hk => ih k _ (shVs_of hk) x rfl (closedBs_get hc k x hk))
  | yl i v hi hv h1 =>
    intro x e hc
    cases x <;> simp [shV] at e
    subst e
    exact .yl _ _ (lt _ hc) (fun c hs => by obtain ⟨b, e1, e2⟩ := hv c (hobj _ _ hs); exact ⟨b, (hg _).trans e1, e2⟩) h1
  | mo i v hi hv h1 =>
    intro x e hc
    cases x <;> simp [shV] at e
    subst e
    exact .mo _ _ (lt _ hc) (fun c hs => (hv c (hobj _ _ hs)).trans (hg _).symm) h1
theorem AR.up {G G' : Nat → Prop} {big s : List AObj} {g g' : Ghost} {w : World} {K : Nat} (hgood : ∀ b, Good G' s g' b → Good G big g b) (hlen : K + s.length ≤ big.length) (hobj : ∀ (i : Nat) (o : AObj), i < s.length → big[K + i]? = some o → ∃ o0, s[i]? = some o0 ∧ o = shO K o0) (hg : ∀ i, i < s.length → g (K + i) = g' i) {x : AV} {v : Value} (h : AR G' s g' w x v) : AR G big g w (shV K x) v := by
  induction h with
  | any v => exact .any v
  | ic z v h => exact .ic _ _ (h.mono (fun _ _ _ => rfl) (fun b _ hb => hgood b hb) (Nat.le_refl _))
  | own i ver v hi hv h1 =>
    refine .own _ _ _ (by omega) (fun m v' e sz xs hs => ?_) h1
    obtain ⟨o0, h0, e0⟩ := hobj _ _ hi hs
    cases o0 <;> simp [shO] at e0
    obtain ⟨rfl, rfl, rfl, rfl, rfl⟩ := e0
    obtain ⟨a, b⟩ := hv _ _ _ _ _ h0
    exact ⟨a, fun e => (b e).trans (hg _ hi).symm⟩
  | ptr i off v hi hv h1 =>
    refine .ptr _ _ _ (by omega) (fun m t cs hs => ?_) h1
    obtain ⟨o0, h0, e0⟩ := hobj _ _ hi hs
    cases o0 <;> simp [shO] at e0
    obtain ⟨rfl, rfl, rfl⟩ := e0
    obtain ⟨b, e1, e2⟩ := hv _ _ _ h0
    exact ⟨b, (hg _ hi).trans e1, e2⟩
  | «at» cs b o val hb hok hcell hin => exact .«at» _ b o val hb (hgood b hok) hcell fun k x hk => (hin k x hk).mono (fun _ _ _ => rfl) (fun b _ hb => hgood b hb) (Nat.le_refl _)
  | rat i ver j off v hi hv h1 =>
    refine .rat _ _ _ _ _ (by omega) (fun m v' e sz xs hs => ?_) h1
    obtain ⟨o0, h0, e0⟩ := hobj _ _ hi hs
    cases o0 <;> simp [shO] at e0
    obtain ⟨rfl, rfl, rfl, rfl, rfl⟩ := e0
    obtain ⟨a, b⟩ := hv _ _ _ _ _ h0
    exact ⟨a, fun e => by obtain ⟨b', h1, h2⟩ := b e; exact ⟨b', by rw [hg _ hi]; exact h1, h2⟩⟩
  | fn f first cap vf vc h1 h2 h3 h4 ih3 ih4 =>
    refine .fn _ _ _ vf vc (by rw [h1, shVs_len]) (by rw [h2, shVs_len]) (fun k y hk => ?_) (fun k y hk => ?_)
    · obtain ⟨x, hx, rfl⟩ := shVs_get hk; exact ih3 k x hx
    · obtain ⟨x, hx, rfl⟩ := shVs_get hk; exact ih4 k x hx
  | agg xs vs h1 h2 h3 ih =>
    refine .agg _ vs (by rw [h1, shVs_len]) (fun k y hk => ?_) h3
    obtain ⟨x, hx, rfl⟩ := shVs_get hk; exact ih k x hx
  | tup xs vs h1 h2 ih =>
    refine .tup _ vs (by rw [h1, shVs_len]) (fun k y hk => ?_)
    obtain ⟨x, hx, rfl⟩ := shVs_get hk; exact ih k x hx
  | yl i v hi hv h1 =>
    refine .yl _ _ (by omega) (fun c hs => ?_) h1
    obtain ⟨o0, h0, e0⟩ := hobj _ _ hi hs
    cases o0 <;> simp [shO] at e0
    subst e0
    obtain ⟨b, e1, e2⟩ := hv _ h0
    exact ⟨b, (hg _ hi).trans e1, e2⟩
  | mo i v hi hv h1 =>
    refine .mo _ _ (by omega) (fun c hs => ?_) h1
    obtain ⟨o0, h0, e0⟩ := hobj _ _ hi hs
    cases o0 <;> simp [shO] at e0
    subst e0
    exact (hv _ h0).trans (hg _ hi).symm
end Go.Proofs.Ytkkjlmcnfoncdaa.Aw

namespace Go.Proofs.Ytkkjlmcnfoncdaa.Aw
open Go Go.RowKit
theorem OR.down {G G' : Nat → Prop} {big s : List AObj} {g g' : Ghost} {w : World} {K : Nat} (hgood : ∀ b, Good G big g b → Good G' s g' b) (hobj : ∀ (i : Nat) (o : AObj), s[i]? = some o → big[K + i]? = some (shO K o)) (hg : ∀ i, g' i = g (K + i)) {i : Nat} {o : AObj} (h : OR G big g w (K + i) (shO K o))
    (hlp : noLp o = true) (hcl : closedO s.length o = true) (hG : ∀ b, gb (g' i) = some b → G b → G' b) : OR G' s g' w i o := by
  cases o with
  | dead => trivial
  | var m t cs =>
    obtain ⟨b, vs, h1, h2, h3, h4, h5, h6⟩ := h
    exact ⟨b, vs, (hg i).trans h1, hG b (by rw [hg, h1]; rfl) h2, h3, by rw [h4, shVs_len], h5, fun k x hk => (h6 k _ (shVs_of hk)).down hgood hobj hg x rfl (closedBs_get hcl k x hk)⟩
  | row m ver e sz xs =>
    obtain ⟨cells, h1, h2, h3⟩ := h
    exact ⟨cells, by rw [hg]; exact h1, fun b hb => hG b hb (h2 b (by rw [← hg]; exact hb)), h3.mono fun x v hr => hr.mono (fun _ _ _ => rfl) (fun b _ hb => hgood b hb) (Nat.le_refl _)⟩
  | lp c => simp [noLp] at hlp
  | mpo c => simp [noLp] at hlp
theorem OR.up {G G' : Nat → Prop} {big s : List AObj} {g g' : Ghost} {w : World} {K : Nat} (hgood : ∀ b, Good G' s g' b → Good G big g b) (hlen : K + s.length ≤ big.length) (hobj : ∀ (i : Nat) (o : AObj), i < s.length → big[K + i]? = some o → ∃ o0, s[i]? = some o0 ∧ o = shO K o0) (hg : ∀ i, i < s.length → g (K + i) = g' i) {i : Nat} {o : AObj} (hi : i < s.length) (h : OR G' s g' w i o)
    (hlp : noLp o = true) (hG : ∀ b, G' b → G b) : OR G big g w (K + i) (shO K o) := by
  cases o with
  | dead => trivial
  | var m t cs =>
    obtain ⟨b, vs, h1, h2, h3, h4, h5, h6⟩ := h
    refine ⟨b, vs, (hg i hi).trans h1, hG b h2, h3, by rw [h4, shVs_len], h5, fun k y hk => ?_⟩
    obtain ⟨x, hx, rfl⟩ := shVs_get hk
    exact (h6 k x hx).up hgood hlen hobj hg
  | row m ver e sz xs =>
    obtain ⟨cells, h1, h2, h3⟩ := h
    exact ⟨cells, by rw [hg i hi]; exact h1, fun b hb => hG b (h2 b (by rw [← hg i hi]; exact hb)), h3.mono fun x v hr => hr.mono (fun _ _ _ => rfl) (fun b _ hb => hgood b hb) (Nat.le_refl _)⟩
  | lp c => simp [noLp] at hlp
  | mpo c => simp [noLp] at hlp
def plainO : AObj → Bool
  | .lp _ => false
  | .mpo _ => false
  | .dead => true
  | o => o.mu
theorem plain_noLp {o : AObj} (h : plainO o = true) : noLp o = true := by cases o <;> simp_all [plainO, noLp]
theorem plain_mu {o : AObj} (h : plainO o = true) (hl : o.live = true) : o.mu = true := by cases o <;> simp_all [plainO, AObj.live]
theorem ACalls.frame {P : Program} {f : FuncId} {xs : List AV} {s : List AObj} {R : AV → List AObj → Prop} (h : ACalls P f xs s R) (pre post : List AObj) (hp : s.all plainO = true) (hc : s.all (closedO s.length) = true) (hx : closedBs s.length xs = true)
    (hR : ∀ x s', R x s' → s'.length = s.length ∧ s'.all plainO = true) :
    ACalls P f (shVs pre.length xs) (pre ++ (shOs pre.length s ++ post)) (fun y st' => ∃ x s', R x s' ∧ y = shV pre.length x ∧ st' = pre ++ (shOs pre.length s' ++ post)) := by
  refine ⟨h.1, fun G g w vals hsz hr hv => ?_⟩
  generalize hK : pre.length = K at *
  generalize hn : s.length = n at *
  have hbl : ∀ s' : List AObj, s'.length = n → (pre ++ (shOs K s' ++ post)).length = K + n + post.length := fun s' e => by simp [shOs_len, e, hK]; omega
  have gpre : ∀ (s' : List AObj) (i : Nat), i < K → (pre ++ (shOs K s' ++ post))[i]? = pre[i]? := fun s' i hi => List.getElem?_append_left (by omega)
  have gmid : ∀ (s' : List AObj), s'.length = n → ∀ i, i < n → (pre ++ (shOs K s' ++ post))[K + i]? = (shOs K s')[i]? := fun s' e i hi => by
    rw [List.getElem?_append_right (by omega), List.getElem?_append_left (by rw [shOs_len]; omega)]
    congr 1; omega
  have gpost : ∀ (s' : List AObj), s'.length = n → ∀ i, K + n ≤ i → (pre ++ (shOs K s' ++ post))[i]? = post[i - K - n]? := fun s' e i hi => by
    rw [List.getElem?_append_right (by omega), List.getElem?_append_right (by rw [shOs_len]; omega), shOs_len]
    congr 1; omega
  have goth : ∀ (s' : List AObj), s'.length = n → ∀ i, (i < K ∨ K + n ≤ i) → (pre ++ (shOs K s' ++ post))[i]? = (pre ++ (shOs K s ++ post))[i]? := fun s' e i hi => by
    rcases hi with hi | hi
    · rw [gpre _ _ hi, gpre _ _ hi]
    · rw [gpost _ e _ hi, gpost _ hn _ hi]
  generalize hbig : pre ++ (shOs K s ++ post) = big at *
  have hmid : ∀ (i : Nat) (o : AObj), s[i]? = some o → big[K + i]? = some (shO K o) := fun i o hi => by
    rw [← hbig, gmid s hn i (by rw [← hn]; exact (List.getElem?_eq_some_iff.1 hi).1)]
    exact shOs_of hi
  let OO : Nat → Prop := fun b => ∃ i o, (i < K ∨ K + n ≤ i) ∧ big[i]? = some o ∧ o.mu = true ∧ gb (g i) = some b
  have hlive : ∀ {o : AObj}, o.mu = true → o.live = true := fun {o} h => by cases o <;> simp_all [AObj.mu, AObj.live]
  have hOO : ∀ b, OO b → Own big g b := fun b ⟨i, o, _, h1, h2, h3⟩ => ⟨i, o, h1, h2, h3⟩
  have hgood : ∀ b, Good G big g b → Good (fun b => G b ∧ ¬ OO b) s (fun i => g (K + i)) b := fun b ⟨h1, h2⟩ => ⟨⟨h1, fun h3 => h2 (hOO b h3)⟩, fun ⟨i, o, hi, hm, hg⟩ => h2 ⟨K + i, shO K o, hmid i o hi, by rw [shO_mu]; exact hm, hg⟩⟩
  have hnotOO : ∀ (i : Nat) (o : AObj) (b : Nat), s[i]? = some o → o.live = true → gb (g (K + i)) = some b → ¬ OO b := fun i o b hi hl hb ⟨j, o', hj, h1, h2, h3⟩ => by
    have hin : i < n := by rw [← hn]; exact (List.getElem?_eq_some_iff.1 hi).1
    have := hr.inj (K + i) j _ _ b (hmid i o hi) h1 (by rw [shO_live]; exact hl) (hlive h2) hb h3
    omega
  have hsr : SR (fun b => G b ∧ ¬ OO b) s (fun i => g (K + i)) w := by
    refine ⟨fun i o hi => ?_, fun i j o o' b hi hj l1 l2 b1 b2 => ?_, fun b hb => ⟨hr.new b hb, fun h3 => ?_⟩⟩
    · have hpo : plainO o = true := List.all_eq_true.1 hp o (List.mem_of_getElem? hi)
      have hco : closedO s.length o = true := by rw [hn]; exact List.all_eq_true.1 hc o (List.mem_of_getElem? hi)
      by_cases hl : o.live = true
      · exact (hr.obj (K + i) _ (hmid i o hi)).down hgood hmid (fun _ => rfl) (plain_noLp hpo) hco fun b hb hG => ⟨hG, hnotOO i o b hi hl hb⟩
      · cases o <;> simp_all [AObj.live]
        trivial
    · have := hr.inj (K + i) (K + j) _ _ b (hmid i o hi) (hmid j o' hj) (by rw [shO_live]; exact l1) (by rw [shO_live]; exact l2) b1 b2
      omega
    · have := Own.lt hr (hOO b h3)
      omega
  refine (h.2 _ _ w vals (by rw [hsz, shVs_len]) hsr fun k x hk => ?_).mono ?_
  · exact (hv k _ (shVs_of hk)).down hgood hmid (fun _ => rfl) x rfl (by rw [hn]; exact closedBs_get hx k x hk)
  rintro e w' ⟨v, x, s', g2, rfl, hRx, hxv, hsr', hev⟩
  obtain ⟨hl', hp'⟩ := hR x s' hRx
  let g3 : Ghost := fun i => if K ≤ i ∧ i < K + n then g2 (i - K) else g i
  have g3m : ∀ i, i < n → g3 (K + i) = g2 i := fun i hi => by
    show (if K ≤ K + i ∧ K + i < K + n then g2 (K + i - K) else g (K + i)) = g2 i
    rw [if_pos (by omega)]; congr 1; omega
  have g3o : ∀ i, (i < K ∨ K + n ≤ i) → g3 i = g i := fun i hi => by
    show (if K ≤ i ∧ i < K + n then g2 (i - K) else g i) = g i
    rw [if_neg (by omega)]
  generalize hbig' : pre ++ (shOs K s' ++ post) = big'
  have hlb : big.length = K + n + post.length := by rw [← hbig]; exact hbl s hn
  have hlb' : big'.length = K + n + post.length := by rw [← hbig']; exact hbl s' hl'
  have oth' : ∀ i, (i < K ∨ K + n ≤ i) → big'[i]? = big[i]? := fun i hi => by rw [← hbig', goth s' hl' i hi, ← hbig]
  have mid' : ∀ (i : Nat) (o : AObj), i < n → big'[K + i]? = some o → ∃ o0, s'[i]? = some o0 ∧ o = shO K o0 := fun i o hi ho => by
    rw [← hbig', gmid s' hl' i hi] at ho
    exact shOs_get ho
  have cases' : ∀ i o, big'[i]? = some o → ((i < K ∨ K + n ≤ i) ∧ big[i]? = some o) ∨ ∃ j o0, i = K + j ∧ j < n ∧ s'[j]? = some o0 ∧ o = shO K o0 := fun i o hi => by
    by_cases ho : i < K ∨ K + n ≤ i
    · exact .inl ⟨ho, by rw [← oth' i ho]; exact hi⟩
    · obtain ⟨o0, h0, e0⟩ := mid' (i - K) o (by omega) (by rw [show K + (i - K) = i by omega]; exact hi)
      exact .inr ⟨i - K, o0, by omega, by omega, h0, e0⟩
  have hown' : ∀ b, Own big' g3 b → OO b ∨ Own s' g2 b := fun b ⟨i, o, hi, hm, hg⟩ => by
    rcases cases' i o hi with ⟨ho, h0⟩ | ⟨j, o0, rfl, hj, h0, rfl⟩
    · exact .inl ⟨i, o, ho, h0, hm, by rw [← g3o i ho]; exact hg⟩
    · exact .inr ⟨j, o0, h0, by rw [← shO_mu K]; exact hm, by rw [← g3m j hj]; exact hg⟩
  have hown0 : ∀ b, Own s (fun i => g (K + i)) b → Own big g b := fun b ⟨i, o, hi, hm, hg⟩ => ⟨K + i, _, hmid i o hi, by rw [shO_mu]; exact hm, hg⟩
  have hEvo : Evo big g w big' g3 w' := by
    refine ⟨hev.os, hev.tape, hev.output, hev.size, fun b hb hno => hev.heap b hb fun h => hno (hown0 b h), fun b hb ho => ?_, by omega, fun i m t cs hi ho => ?_, fun i m ver e sz ys hi ho => ?_, fun i c hi ho => ?_, fun i c hi ho => ?_⟩
    · rcases hown' b ho with h3 | h3
      · exact hOO b h3
      · exact hown0 b (hev.own b hb h3)
    · rcases cases' i _ ho with ⟨h1, h0⟩ | ⟨j, o0, rfl, hj, h0, e0⟩
      · exact ⟨⟨m, cs, h0⟩, g3o i h1⟩
      · cases o0 <;> simp [shO] at e0
        obtain ⟨rfl, rfl, rfl⟩ := e0
        obtain ⟨⟨m0, c0, h1⟩, h2⟩ := hev.var j _ _ _ (by omega) h0
        exact ⟨⟨m0, _, hmid j _ h1⟩, by rw [g3m j hj]; exact h2⟩
    · rcases cases' i _ ho with ⟨h1, h0⟩ | ⟨j, o0, rfl, hj, h0, e0⟩
      · exact ⟨m, ver, ys, h0, Nat.le_refl _, fun _ => g3o i h1⟩
      · cases o0 <;> simp [shO] at e0
        obtain ⟨rfl, rfl, rfl, rfl, rfl⟩ := e0
        obtain ⟨m0, v0, x0, h1, h2, h3⟩ := hev.row j _ _ _ _ _ (by omega) h0
        exact ⟨m0, v0, x0, hmid j _ h1, h2, fun e => by rw [g3m j hj]; exact h3 e⟩
    · rcases cases' i _ ho with ⟨h1, h0⟩ | ⟨j, o0, rfl, hj, h0, e0⟩
      · exact ⟨⟨c, h0⟩, g3o i h1⟩
      · have := List.all_eq_true.1 hp' o0 (List.mem_of_getElem? h0)
        cases o0 <;> simp [shO] at e0
        simp [plainO] at this
    · rcases cases' i _ ho with ⟨h1, h0⟩ | ⟨j, o0, rfl, hj, h0, e0⟩
      · exact ⟨⟨c, h0⟩, g3o i h1⟩
      · have := List.all_eq_true.1 hp' o0 (List.mem_of_getElem? h0)
        cases o0 <;> simp [shO] at e0
        simp [plainO] at this
  have hgood' : ∀ b, Good (fun b => G b ∧ ¬ OO b) s' g2 b → Good G big' g3 b := fun b ⟨⟨h1, h2⟩, h3⟩ => ⟨h1, fun h4 => (hown' b h4).elim h2 h3⟩
  have oldOO : ∀ i o b, (i < K ∨ K + n ≤ i) → big[i]? = some o → o.live = true → gb (g i) = some b → b < w.heap.size ∧ ¬ Own s (fun i => g (K + i)) b := fun i o b ho hi hl hb => by
    refine ⟨(hr.obj i o hi).lt hl hb, fun ⟨j, o', hj, hm, hg⟩ => ?_⟩
    have hjn : j < n := by rw [← hn]; exact (List.getElem?_eq_some_iff.1 hj).1
    have := hr.inj i (K + j) _ _ b hi (hmid j o' hj) hl (by rw [shO_live]; exact hlive hm) hb hg
    omega
  refine ⟨v, _, big', g3, rfl, ⟨x, s', hRx, rfl, hbig'.symm⟩, hxv.up hgood' (by omega) (fun i o hi => mid' i o (by omega)) (fun i hi => g3m i (by omega)), ⟨fun i o hi => ?_, fun i j o o' b hi hj l1 l2 b1 b2 => ?_, fun b hb => hr.new b (Nat.le_trans hev.size hb)⟩, hEvo⟩
  · rcases cases' i o hi with ⟨ho, h0⟩ | ⟨j, o0, rfl, hj, h0, rfl⟩
    · by_cases hl : o.live = true
      · exact (hr.obj i o h0).evo hEvo (g3o i ho) fun b hb => by
          obtain ⟨h1, h2⟩ := oldOO i o b ho h0 hl hb
          exact hev.heap b h1 h2
      · cases o <;> simp_all [AObj.live]
        trivial
    · exact (hsr'.obj j o0 h0).up hgood' (by omega) (fun i o hi => mid' i o (by omega)) (fun i hi => g3m i (by omega)) (by omega) (plain_noLp (List.all_eq_true.1 hp' o0 (List.mem_of_getElem? h0))) fun b hb => hb.1
  · have cross : ∀ i j o o0, (i < K ∨ K + n ≤ i) → big[i]? = some o → o.live = true → gb (g i) = some b → j < n → s'[j]? = some o0 → o0.live = true → gb (g2 j) = some b → False := fun i j o o0 ho hi hl hb hj h0 hl0 hb0 => by
      obtain ⟨h1, h2⟩ := oldOO i o b ho hi hl hb
      have hm := plain_mu (List.all_eq_true.1 hp' o0 (List.mem_of_getElem? h0)) hl0
      exact h2 (hev.own b h1 ⟨j, o0, h0, hm, hb0⟩)
    rcases cases' i o hi with ⟨ho, h0⟩ | ⟨p, o0, rfl, hp0, h0, rfl⟩ <;> rcases cases' j o' hj with ⟨ho', h0'⟩ | ⟨q, o0', rfl, hq0, h0', rfl⟩
    · rw [g3o i ho] at b1
      rw [g3o j ho'] at b2
      exact hr.inj i j o o' b h0 h0' l1 l2 b1 b2
    · rw [g3o i ho] at b1
      rw [g3m q hq0] at b2
      rw [shO_live] at l2
      exact (cross i q o o0' ho h0 l1 b1 hq0 h0' l2 b2).elim
    · rw [g3m p hp0] at b1
      rw [g3o j ho'] at b2
      rw [shO_live] at l1
      exact (cross j p o' o0 ho' h0' l2 b2 hp0 h0 l1 b1).elim
    · rw [g3m p hp0] at b1
      rw [g3m q hq0] at b2
      rw [shO_live] at l1 l2
      have := hsr'.inj p q o0 o0' b h0 h0' l1 l2 b1 b2
      omega
end Go.Proofs.Ytkkjlmcnfoncdaa.Aw

namespace Go.Proofs.Ytkkjlmcnfoncdaa.Aw
open Go Go.RowKit
section fc
variable {r : Option Nat} {P : Program} {ops : Array Oper} {i : Nat} {s0 : St}
theorem One.scall {x : Operand} {args : Array Operand} {ts : Array TypeId} {f : FuncId} {first cap : List AV} {y : AV} (h : opAt ops i s0 = some (.call { callee := .value x, args := args, argTypes := ts })) (hf : s0.ev x = .fn (.func f) first cap)
    (hc : ACalls P f (first ++ args.toList.map s0.ev ++ cap) s0.st (fun x st' => x = y ∧ st' = s0.st)) : One r P ops i s0 y s0.st := fun rest Q k => by
  refine AOL.scall h hf hc ?_
  rintro x st' ⟨rfl, rfl⟩
  exact k
end fc
end Go.Proofs.Ytkkjlmcnfoncdaa.Aw

namespace Go.Proofs.Ytkkjlmcnfoncdaa.Aw
open Go Go.RowKit
inductive Ev where
  | done
  | guard (j : Nat) (b : Bool)
  | call (f : FuncId) (p : List PV)
  | callO (own : Bool) (f : FuncId) (p : List PV) (c : List (Nat × Nat))
  | callS (f : FuncId) (xs : List AV)
  | one (k : Nat)
  | stop
  | stuck
def hint (ops : Array Oper) (G : List Nat) (s : St) (o : Oper) : Bool := match o.guard with
  | none => true
  | some (j, _) => match G.any (Nat.beq j) with
    | true => true
    | false => match ops[j]? with
      | some p => match p.dst with
        | some d => match s.get d with
          | .tup _ => true
          | _ => false
        | none => false
      | none => false
def stops (D : List Nat) (o : Oper) : Bool := match o.dst with
  | some d => D.any (Nat.beq d)
  | none => false
def advH (A : Ar) (tab : List TI) (ops : Array Oper) (D G : List Nat) : List Nat → St → List Nat × St
  | [], s => ([], s)
  | i :: rest, s => match ops[i]? with
    | some o => match hint ops G s o && !stops D o with
      | true => match gd ops s o.guard with
        | some true => match ev1 A tab s o.op with
          | some (x, st') => match dstOk s o.dst with
            | true => advH A tab ops D G rest (putS s o.dst x st')
            | false => (i :: rest, s)
          | none => (i :: rest, s)
        | some false => match dstOk s o.dst with
          | true => advH A tab ops D G rest (putS s o.dst (.tup []) s.st)
          | false => (i :: rest, s)
        | none => (i :: rest, s)
      | false => (i :: rest, s)
    | none => (i :: rest, s)
def bopK : BinOp → Nat
  | .quo => 3
  | .rem => 4
  | .shr => 5
  | .shl => 20
  | .add => 7
  | .eql => 8
  | .neq => 9
  | .and => 6
  | .or => 6
  | .xor => 6
  | _ => 21
def bltK : Builtin → Nat
  | .len => 10
  | .append => 11
  | .copy => 12
  | _ => 22
def opEv (s : St) : Op → Ev
  | .call c => match c.callee with
    | .value x => match s.ev x with
      | .fn (.func f) first cap => match toPVsO false s.st (first ++ c.args.toList.map s.ev ++ cap) with
        | some (p, []) => .call f p
        | some (p, q) => .callO false f p q
        | none => match toPVsO true s.st (first ++ c.args.toList.map s.ev ++ cap) with
          | some (p, q) => .callO true f p q
          | none => .callS f (first ++ c.args.toList.map s.ev ++ cap)
      | _ => .stuck
    | .builtin b => .one (bltK b)
    | _ => .stuck
  | .indexAddr _ _ _ => .one 1
  | .slice _ _ _ _ _ => .one 2
  | .binOp op _ _ _ _ => .one (bopK op)
  | .index _ _ _ => .one 13
  | .load _ _ => .one 14
  | .store _ _ _ => .one 15
  | .makeSlice _ _ _ => .one 16
  | .buildSlice _ _ _ => .one 17
  | .fieldAddr _ _ _ => .one 18
  | .lookup _ _ _ _ => .one 23
  | .convert _ _ _ => .one 24
  | .nilCheck _ => .one 25
  | .makeMap _ _ => .one 26
  | .mapUpdate _ _ _ _ => .one 27
  | .insert _ _ _ _ => .one 28
  | .field _ _ _ => .one 29
  | .unOp _ _ _ => .one 30
  | _ => .stuck
def evOf (D G : List Nat) (ops : Array Oper) (l : List Nat) (s : St) : Ev := match l with
  | [] => .done
  | i :: _ => match ops[i]? with
    | none => .stuck
    | some o => match hint ops G s o with
      | false => match gdv ops s i with
        | some b => match o.guard with
          | some (j, _) => .guard j b
          | none => .stuck
        | none => .stuck
      | true => match stops D o with
        | true => .stop
        | false => match opAt ops i s with
          | some op => opEv s op
          | none => .stuck
def nxt (A : Ar) (tab : List TI) (ops : Array Oper) (D G : List Nat) (l : List Nat) (s : St) : List Nat × St × Ev := match advH A tab ops D G l s with
  | (l', s') => (l', s', evOf D G ops l' s')
def AOLg (D G : List Nat) (r : Option Nat) (P : Program) (ops : Array Oper) (l : List Nat) (s : St) (Q : St → Prop) : Prop := AOL r P ops l s Q
def NX (D G : List Nat) (r : Option Nat) (P : Program) (ops : Array Oper) (l : List Nat) (s : St) (Q : St → Prop) (ev : Ev) : Prop := evOf D G ops l s = ev → AOL r P ops l s Q
section nx
variable {r : Option Nat} {P : Program} {A : Ar} {tab : List TI} {ops : Array Oper} {D G : List Nat} {Q : St → Prop}
theorem AOL.advH (hA : A = real) (hT : TabOk P tab) : ∀ (l : List Nat) (s : St), AOL r P ops (Aw.advH A tab ops D G l s).1 (Aw.advH A tab ops D G l s).2 Q → AOL r P ops l s Q
  | [], s, h => h
  | i :: rest, s, h => by
    simp only [Aw.advH] at h
    cases ho : ops[i]? with
    | none => simp only [ho] at h; exact h
    | some o =>
      simp only [ho] at h
      cases hh : (hint ops G s o && !stops D o) with
      | false => simp only [hh] at h; exact h
      | true =>
        simp only [hh] at h
        cases hg : gd ops s o.guard with
        | none => simp only [hg] at h; exact h
        | some b =>
          cases b with
          | true =>
            simp only [hg] at h
            cases he : ev1 A tab s o.op with
            | none => simp only [he] at h; exact h
            | some p =>
              obtain ⟨x, st'⟩ := p
              simp only [he] at h
              cases hd : dstOk s o.dst with
              | false => simp only [hd] at h; exact h
              | true =>
                simp only [hd] at h
                exact AOL.step ho hg hd (ev1_nd he) (ev1_mem hA hT he) (AOL.advH hA hT rest _ h)
          | false =>
            simp only [hg] at h
            cases hd : dstOk s o.dst with
            | false => simp only [hd] at h; exact h
            | true =>
              simp only [hd] at h
              exact AOL.skip ho hg hd (AOL.advH hA hT rest _ h)
theorem AOLg.nx (hA : A = real) (hT : TabOk P tab) {l l' : List Nat} {s s' : St} {ev : Ev} (h : nxt A tab ops D G l s = (l', s', ev)) (k : NX D G r P ops l' s' Q ev) : AOLg D G r P ops l s Q := by
  simp only [nxt, Prod.mk.injEq] at h
  obtain ⟨h1, h2, h3⟩ := h
  refine AOL.advH hA hT (D := D) (G := G) l s ?_
  rw [h1, h2]
  rw [h1, h2] at h3
  exact k h3
theorem AOLg.of (D : List Nat) {l : List Nat} {s : St} (k : AOLg D [] r P ops l s Q) : AOL r P ops l s Q := k
theorem AOLg.pass {l : List Nat} {s : St} (k : AOLg D G r P ops l s Q) : AOLg D G r P ops l s Q := k
theorem NX.done {s : St} (h : Q s) : NX D G r P ops [] s Q .done := fun _ => AOL.nil h
theorem NX.gt {j : Nat} {l : List Nat} {s : St} (k : AOLg D (j :: G) r P ops l s Q) : NX D G r P ops l s Q (.guard j true) := fun _ => k
theorem NX.gf {j : Nat} {l : List Nat} {s : St} (k : AOLg D (j :: G) r P ops l s Q) : NX D G r P ops l s Q (.guard j false) := fun _ => k
theorem NX.gs {j : Nat} {b : Bool} {l : List Nat} {s : St} (h1 : b = true → AOLg D (j :: G) r P ops l s Q) (h2 : b = false → AOLg D (j :: G) r P ops l s Q) : NX D G r P ops l s Q (.guard j b) := fun _ => by
  cases b with
  | true => exact h1 rfl
  | false => exact h2 rfl
theorem opEv_call {s : St} {op : Op} {f : FuncId} {p : List PV} (h : opEv s op = .call f p) : ∃ x args ts first cap, op = .call { callee := .value x, args := args, argTypes := ts } ∧ s.ev x = .fn (.func f) first cap ∧ toPVs false s.st (first ++ args.toList.map s.ev ++ cap) = some p := by
  unfold opEv at h
  split at h <;> try (simp at h; done)
  rename_i c
  split at h <;> try (simp at h; done)
  rename_i x hx
  split at h <;> try (simp at h; done)
  rename_i f' first cap hf
  split at h
  · rename_i p' hp
    simp only [Ev.call.injEq] at h
    obtain ⟨rfl, rfl⟩ := h
    exact ⟨x, c.args, c.argTypes, first, cap, by cases c; simp_all, hf, toPVsO_ok hp trivial⟩
  · simp at h
  · split at h <;> simp at h
theorem opEv_callO {s : St} {op : Op} {own : Bool} {f : FuncId} {p : List PV} {q : List (Nat × Nat)} (h : opEv s op = .callO own f p q) : ∃ x args ts first cap, op = .call { callee := .value x, args := args, argTypes := ts } ∧ s.ev x = .fn (.func f) first cap ∧ toPVsO own s.st (first ++ args.toList.map s.ev ++ cap) = some (p, q) := by
  unfold opEv at h
  split at h <;> try (simp at h; done)
  rename_i c
  split at h <;> try (simp at h; done)
  rename_i x hx
  split at h <;> try (simp at h; done)
  rename_i f' first cap hf
  split at h
  · simp at h
  · rename_i p' q' hp
    simp only [Ev.callO.injEq] at h
    obtain ⟨rfl, rfl, rfl, rfl⟩ := h
    exact ⟨x, c.args, c.argTypes, first, cap, by cases c; simp_all, hf, hp⟩
  · split at h
    · rename_i p' q' hp
      simp only [Ev.callO.injEq] at h
      obtain ⟨rfl, rfl, rfl, rfl⟩ := h
      exact ⟨x, c.args, c.argTypes, first, cap, by cases c; simp_all, hf, hp⟩
    · simp at h
theorem opEv_callS {s : St} {op : Op} {f : FuncId} {xs : List AV} (h : opEv s op = .callS f xs) : ∃ x args ts first cap, op = .call { callee := .value x, args := args, argTypes := ts } ∧ s.ev x = .fn (.func f) first cap ∧ first ++ args.toList.map s.ev ++ cap = xs := by
  unfold opEv at h
  split at h <;> try (simp at h; done)
  rename_i c
  split at h <;> try (simp at h; done)
  rename_i x hx
  split at h <;> try (simp at h; done)
  rename_i f' first cap hf
  split at h
  · simp at h
  · simp at h
  · split at h
    · simp at h
    · simp only [Ev.callS.injEq] at h
      obtain ⟨rfl, rfl⟩ := h
      exact ⟨x, c.args, c.argTypes, first, cap, by cases c; simp_all, hf, rfl⟩
theorem evOf_op {l : List Nat} {i : Nat} {s : St} {ev : Ev} (h : evOf D G ops (i :: l) s = ev) (h1 : ∀ j b, ev ≠ .guard j b) (h2 : ev ≠ .stuck) (h3 : ev ≠ .stop) : ∃ op, opAt ops i s = some op ∧ opEv s op = ev := by
  unfold evOf at h
  simp only [] at h
  repeat' split at h
  all_goals first
    | (exfalso; exact h2 h.symm)
    | (exfalso; exact h3 h.symm)
    | (exfalso; exact h1 _ _ h.symm)
    | exact ⟨_, by assumption, h⟩
theorem NX.call {i : Nat} {rest : List Nat} {s : St} {f : FuncId} {p : List PV} {y : PV} (hc : PureCalls P f p y) (k : AOLg D G r P ops rest (putS s (dstOf ops i) y.av s.st) Q) : NX D G r P ops (i :: rest) s Q (.call f p) := fun h => by
  obtain ⟨op, h1, h2⟩ := evOf_op h (by simp) (by simp) (by simp)
  obtain ⟨x, args, ts, first, cap, rfl, h3, h4⟩ := opEv_call h2
  exact One.call false h1 h3 h4 hc rfl _ _ k
theorem NX.callO {i : Nat} {rest : List Nat} {s : St} {own : Bool} {f : FuncId} {p : List PV} {q : List (Nat × Nat)} {y : PV} (hc : PureCalls P f p y) (hq : allEq q) (hn : (!own || noSl y) = true) (k : AOLg D G r P ops rest (putS s (dstOf ops i) y.av s.st) Q) : NX D G r P ops (i :: rest) s Q (.callO own f p q) := fun h => by
  obtain ⟨op, h1, h2⟩ := evOf_op h (by simp) (by simp) (by simp)
  obtain ⟨x, args, ts, first, cap, rfl, h3, h4⟩ := opEv_callO h2
  exact One.callO own h1 h3 h4 hc hn hq _ _ k
theorem NX.callS {i : Nat} {rest : List Nat} {s : St} {f : FuncId} {xs : List AV} {R : AV → List AObj → Prop} (hc : ACalls P f xs s.st R) (k : ∀ y st', R y st' → AOLg D G r P ops rest (putS s (dstOf ops i) y st') Q) : NX D G r P ops (i :: rest) s Q (.callS f xs) := fun h => by
  obtain ⟨op, h1, h2⟩ := evOf_op h (by simp) (by simp) (by simp)
  obtain ⟨x, args, ts, first, cap, rfl, h3, rfl⟩ := opEv_callS h2
  exact AOL.scall h1 h3 hc k
theorem NX.one {ev : Ev} {i : Nat} {rest : List Nat} {s : St} {x : AV} {st' : List AObj} (h : One r P ops i s x st') (k : AOLg D G r P ops rest (putS s (dstOf ops i) x st') Q) : NX D G r P ops (i :: rest) s Q ev := fun _ => h rest Q k
theorem NX.raw {ev : Ev} {l : List Nat} {s : St} (h : AOL r P ops l s Q) : NX D G r P ops l s Q ev := fun _ => h
theorem NX.k (n : Nat) {l : List Nat} {s : St} (h : NX D G r P ops l s Q (.one n)) : NX D G r P ops l s Q (.one n) := h
theorem NX.kC {f : FuncId} {p : List PV} {l : List Nat} {s : St} (h : NX D G r P ops l s Q (.call f p)) : NX D G r P ops l s Q (.call f p) := h
theorem NX.kO {own : Bool} {f : FuncId} {p : List PV} {q : List (Nat × Nat)} {l : List Nat} {s : St} (h : NX D G r P ops l s Q (.callO own f p q)) : NX D G r P ops l s Q (.callO own f p q) := h
theorem AWp.regG (D : List Nat) {id : Nat} {s : St} {Q : Exit → St → Prop} {l : List Nat} (hl : List.range ops.size = l) (h : AOLg D [] r P ops l s (Q .normal)) : AWp r P (.region id ops false) s Q := by
  subst hl
  exact AWp.region h
end nx
section qnx
variable {P : Program} {A : Ar} {tab : List TI} {ops : Array Oper} {D G : List Nat} {Q : St → Prop}
def qadvH (A : Ar) (tab : List TI) (ops : Array Oper) (D G : List Nat) : List Nat → St → List Nat × St
  | [], s => ([], s)
  | i :: rest, s => match ops[i]? with
    | some o => match hint ops G (lookS ops i s) o && !stops D o with
      | true => match o.dst with
        | some d => match gd ops (lookS ops i s) o.guard with
          | some true => match ev1 A tab (lookS ops i s) o.op with
            | some (x, _) => match stillOp o.op && dstOk (lookS ops i s) o.dst with
              | true => qadvH A tab ops D G rest ⟨s.nt, (d, x) :: s.env, s.st⟩
              | false => (i :: rest, s)
            | none => (i :: rest, s)
          | some false => match dstOk (lookS ops i s) o.dst with
            | true => qadvH A tab ops D G rest ⟨s.nt, (d, .tup []) :: s.env, s.st⟩
            | false => (i :: rest, s)
          | none => (i :: rest, s)
        | none => (i :: rest, s)
      | false => (i :: rest, s)
    | none => (i :: rest, s)
def qevOf (D G : List Nat) (ops : Array Oper) (l : List Nat) (s : St) : Ev := match l with
  | [] => .done
  | i :: _ => evOf D G ops l (lookS ops i s)
def qnxt (A : Ar) (tab : List TI) (ops : Array Oper) (D G : List Nat) (l : List Nat) (s : St) : List Nat × St × Ev := match qadvH A tab ops D G l s with
  | (l', s') => (l', s', qevOf D G ops l' s')
def QSg (D G : List Nat) (P : Program) (ops : Array Oper) (l : List Nat) (s : St) (Q : St → Prop) : Prop := QS P ops l s Q
def QX (D G : List Nat) (P : Program) (ops : Array Oper) (l : List Nat) (s : St) (Q : St → Prop) (ev : Ev) : Prop := qevOf D G ops l s = ev → QS P ops l s Q
theorem QS.advH (hA : A = real) (hT : TabOk P tab) : ∀ (l : List Nat) (s : St), QS P ops (qadvH A tab ops D G l s).1 (qadvH A tab ops D G l s).2 Q → QS P ops l s Q
  | [], s, h => h
  | i :: rest, s, h => by
    simp only [qadvH] at h
    cases ho : ops[i]? with
    | none => simp only [ho] at h; exact h
    | some o =>
      simp only [ho] at h
      cases hh : (hint ops G (lookS ops i s) o && !stops D o) with
      | false => simp only [hh] at h; exact h
      | true =>
        simp only [hh] at h
        cases hd : o.dst with
        | none => simp only [hd] at h; exact h
        | some d =>
          simp only [hd] at h
          have hdo : dstOf ops i = some d := by simp [dstOf, ho, hd]
          cases hg : gd ops (lookS ops i s) o.guard with
          | none => simp only [hg] at h; exact h
          | some b =>
            cases b with
            | true =>
              simp only [hg] at h
              cases he : ev1 A tab (lookS ops i s) o.op with
              | none => simp only [he] at h; exact h
              | some p =>
                obtain ⟨x, st'⟩ := p
                simp only [he] at h
                cases hc : (stillOp o.op && dstOk (lookS ops i s) (some d)) with
                | false => simp only [hc] at h; exact h
                | true =>
                  simp only [hc] at h
                  simp only [Bool.and_eq_true] at hc
                  have hst := ev1_still he hc.1
                  rw [lookS_st] at hst
                  subst hst
                  refine ⟨d, x, hdo, fun rest' Q' k => ?_, QS.advH hA hT rest _ h⟩
                  refine AOL.step ho hg (by rw [hd]; exact hc.2) (ev1_nd he) (ev1_mem hA hT he) ?_
                  rw [hdo, ← hd] at k
                  exact k
            | false =>
              simp only [hg] at h
              cases hc : dstOk (lookS ops i s) (some d) with
              | false => simp only [hc] at h; exact h
              | true =>
                simp only [hc] at h
                refine ⟨d, .tup [], hdo, fun rest' Q' k => ?_, QS.advH hA hT rest _ h⟩
                refine AOL.skip ho hg (by rw [hd]; exact hc) ?_
                rw [hdo, ← lookS_st ops i s, ← hd] at k
                exact k
theorem QSg.nx (hA : A = real) (hT : TabOk P tab) {l l' : List Nat} {s s' : St} {ev : Ev} (h : qnxt A tab ops D G l s = (l', s', ev)) (k : QX D G P ops l' s' Q ev) : QSg D G P ops l s Q := by
  simp only [qnxt, Prod.mk.injEq] at h
  obtain ⟨h1, h2, h3⟩ := h
  refine QS.advH hA hT (D := D) (G := G) l s ?_
  rw [h1, h2]
  rw [h1, h2] at h3
  exact k h3
theorem QSg.of (D : List Nat) {l : List Nat} {s : St} (k : QSg D [] P ops l s Q) : QS P ops l s Q := k
theorem QSg.pass {l : List Nat} {s : St} (k : QSg D G P ops l s Q) : QSg D G P ops l s Q := k
theorem QX.done {s : St} (h : Q s) : QX D G P ops [] s Q .done := fun _ => h
theorem QX.gt {j : Nat} {l : List Nat} {s : St} (k : QSg D (j :: G) P ops l s Q) : QX D G P ops l s Q (.guard j true) := fun _ => k
theorem QX.gf {j : Nat} {l : List Nat} {s : St} (k : QSg D (j :: G) P ops l s Q) : QX D G P ops l s Q (.guard j false) := fun _ => k
theorem QX.gs {j : Nat} {b : Bool} {l : List Nat} {s : St} (h1 : b = true → QSg D (j :: G) P ops l s Q) (h2 : b = false → QSg D (j :: G) P ops l s Q) : QX D G P ops l s Q (.guard j b) := fun _ => by
  cases b with
  | true => exact h1 rfl
  | false => exact h2 rfl
theorem QX.one {ev : Ev} {i : Nat} {rest : List Nat} {s : St} {d : Nat} {x : AV} (hd : dstOf ops i = some d) (h : One none P ops i (lookS ops i s) x s.st) (k : QSg D G P ops rest ⟨s.nt, (d, x) :: s.env, s.st⟩ Q) : QX D G P ops (i :: rest) s Q ev := fun _ => ⟨d, x, hd, h, k⟩
theorem QX.call {i : Nat} {rest : List Nat} {s : St} {d : Nat} {f : FuncId} {p : List PV} {y : PV} (hc : PureCalls P f p y) (hd : dstOf ops i = some d) (k : QSg D G P ops rest ⟨s.nt, (d, y.av) :: s.env, s.st⟩ Q) : QX D G P ops (i :: rest) s Q (.call f p) := fun h => by
  obtain ⟨op, h1, h2⟩ := evOf_op (l := rest) (i := i) h (by simp) (by simp) (by simp)
  obtain ⟨x, args, ts, first, cap, rfl, h3, h4⟩ := opEv_call h2
  have := One.call (r := none) false h1 h3 h4 hc rfl
  rw [lookS_st] at this
  exact ⟨d, _, hd, this, k⟩
theorem QX.callO {i : Nat} {rest : List Nat} {s : St} {d : Nat} {own : Bool} {f : FuncId} {p : List PV} {q : List (Nat × Nat)} {y : PV} (hc : PureCalls P f p y) (hd : dstOf ops i = some d) (hq : allEq q) (hn : (!own || noSl y) = true) (k : QSg D G P ops rest ⟨s.nt, (d, y.av) :: s.env, s.st⟩ Q) : QX D G P ops (i :: rest) s Q (.callO own f p q) := fun h => by
  obtain ⟨op, h1, h2⟩ := evOf_op (l := rest) (i := i) h (by simp) (by simp) (by simp)
  obtain ⟨x, args, ts, first, cap, rfl, h3, h4⟩ := opEv_callO h2
  have := One.callO (r := none) own h1 h3 h4 hc hn hq
  rw [lookS_st] at this
  exact ⟨d, _, hd, this, k⟩
theorem QX.raw {ev : Ev} {l : List Nat} {s : St} (h : QS P ops l s Q) : QX D G P ops l s Q ev := fun _ => h
theorem QX.k (n : Nat) {l : List Nat} {s : St} (h : QX D G P ops l s Q (.one n)) : QX D G P ops l s Q (.one n) := h
theorem QX.kC {f : FuncId} {p : List PV} {l : List Nat} {s : St} (h : QX D G P ops l s Q (.call f p)) : QX D G P ops l s Q (.call f p) := h
theorem QX.kO {own : Bool} {f : FuncId} {p : List PV} {q : List (Nat × Nat)} {l : List Nat} {s : St} (h : QX D G P ops l s Q (.callO own f p q)) : QX D G P ops l s Q (.callO own f p q) := h
end qnx
theorem ILe.nilM {A : Ar} (hA : A = real) {α : Type} (f : α → List IC) (sz sz' : Nat) (ex : Bool) : ILe (.sl sz ex []) (.sl sz' false (A (.hid _) fun _ => List.map f [])) := by
  rw [rhid hA]
  exact .nil _ _ _
theorem zn : ∀ n : Nat, @NatCast.natCast Int instNatCastInt n = cN n := fun _ => rfl
theorem zy : (∀ a b : Bool, ((a == b) = true) = ((a = true) ↔ (b = true))) ∧ (∀ a b : Bool, ((a == b) = false) = ¬ ((a = true) ↔ (b = true))) ∧ (∀ b : Bool, (b == true) = b) ∧ (∀ b : Bool, (b == false) = !b) :=
  ⟨by decide, by decide, by decide, by decide⟩
end Go.Proofs.Ytkkjlmcnfoncdaa.Aw

namespace Go.Proofs.Ytkkjlmcnfoncdaa.Aw
open Go Go.RowKit Go.MapKept
def mapKB (P : Program) (t : TypeId) (k : IntKind) : Bool := match P.underlying t with
  | some (.map kt _) => match P.underlying kt with
    | some (.int k') => decide (k' = k)
    | _ => false
  | _ => false
theorem mapKB_ok {P : Program} {t : TypeId} {k : IntKind} (h : mapKB P t k = true) : ∃ kt et, P.underlying t = some (.map kt et) ∧ P.underlying kt = some (.int k) := by
  unfold mapKB at h
  split at h
  · rename_i kt et hu
    split at h
    · rename_i k' hk
      simp only [decide_eq_true_eq] at h
      subst h
      exact ⟨kt, et, hu, hk⟩
    · simp at h
  · simp at h
def mapF {β : Type} : List (Int × β) → Int → Option β
  | [], _ => none
  | (a, b) :: r, n => if n = a then some b else mapF r n
theorem findNow_map {β : Type} {k k' : IntKind} {f : β → Value} {n : Int} : ∀ (es : List MapEntry) (l : List (Int × β)) (i : Nat), es.map (fun e => (e.key, e.val)) = l.map (fun p => (Value.int k p.1, f p.2)) →
    ∃ r, Instr.findNow (.int k') (.int k n) es i = some r ∧ r.map (·.2) = (mapF l n).map f
  | [], [], i, _ => ⟨none, rfl, rfl⟩
  | [], _ :: _, i, h => by simp at h
  | _ :: _, [], i, h => by simp at h
  | e :: es, (a, b) :: l, i, h => by
    simp only [List.map_cons, List.cons.injEq, Prod.mk.injEq] at h
    obtain ⟨⟨h1, h2⟩, h3⟩ := h
    obtain ⟨r, hr, he⟩ := findNow_map (k' := k') (n := n) es l (i + 1) h3
    by_cases hn : n = a
    · exact ⟨some (i, e.val), by simp [Instr.findNow, h1, Instr.sameNow, hn], by simp [mapF, hn, h2]⟩
    · refine ⟨r, ?_, by simp [mapF, hn, he]⟩
      have : Instr.sameNow (.int k') (.int k n) e.key = some false := by simp [h1, Instr.sameNow, hn]
      simp only [Instr.findNow, this]
      exact hr
theorem run_insert {P : Program} {w : World} {t kt et : TypeId} {k : IntKind} {n : Int} {val : Value} {b clk : Nat} {ents : Array MapEntry} (hm : P.underlying t = some (.map kt et)) (hk : P.underlying kt = some (.int k)) (hb : w.heap[b]? = some (.map ents clk))
    (hks : ∀ e ∈ ents.toList, ∃ z, e.key = .int k z ∧ z ≠ n) : (Instr.mapUpdate t (.map (some b)) (.int k n) val).run P w = .ok () { w with heap := w.heap.setIfInBounds b (.map (ents.push { key := .int k n, val := val, born := clk }) (clk + 1)) } := by
  have hkey : IsKey (.int k) (.int k n) := by simp [IsKey]
  rcases findNow_spec hkey ents.toList 0 (fun e he => by obtain ⟨z, hz, _⟩ := hks e he; rw [hz]; simp [IsKey]) with ⟨h1, h2⟩ | ⟨j, e, h1, h2, h3⟩
  · simp [Instr.mapUpdate, run_underlying hm, Go.MapKept.run_getObj_map hb, Go.MapKept.run_checkKey hk hkey, Go.MapKept.run_findKey hk h1, Go.MapKept.run_setObj_map _ hb, Result.andThen]
  · obtain ⟨z, hz, hne⟩ := hks e (List.mem_of_getElem? h2)
    rw [hz] at h3
    simp only [Value.int.injEq, true_and] at h3
    exact absurd h3 hne
def zOf (P : Program) (t : TypeId) : Option Value := (P.info? t).bind (·.zero)
theorem run_zOf {P : Program} {t : TypeId} {z : Value} (h : zOf P t = some z) (w : World) : (zeroValue t).run P w = .ok z w := by
  simp only [zOf, Option.bind_eq_some_iff] at h
  obtain ⟨i, hi, hz⟩ := h
  simp [zeroValue, typeInfo, hi, hz]
theorem run_lookup {β : Type} {P : Program} {w : World} {t kt et : TypeId} {k : IntKind} {n : Int} {b clk : Nat} {ents : Array MapEntry} {l : List (Int × β)} {f : β → Value} {d : β} (hm : P.underlying t = some (.map kt et)) (hk : P.underlying kt = some (.int k)) (hz : zOf P et = some (f d)) (hb : w.heap[b]? = some (.map ents clk))
    (he : ents.toList.map (fun e => (e.key, e.val)) = l.map (fun p => (Value.int k p.1, f p.2))) (ok : Bool) :
    (Instr.lookup t (.map (some b)) (.int k n) ok).run P w = .ok (if ok then .tuple #[f ((mapF l n).getD d), .bool (mapF l n).isSome] else f ((mapF l n).getD d)) w := by
  have hkey : IsKey (.int k) (.int k n) := by simp [IsKey]
  obtain ⟨r, hr, hre⟩ := findNow_map (k' := k) (n := n) ents.toList l 0 he
  have hf := Go.MapKept.run_findKey (w := w) hk hr
  simp only [Instr.lookup, Sem.run_bind, run_underlying hm, Go.MapKept.run_getObj_map hb, Go.MapKept.run_checkKey hk hkey, hf, Result.andThen, Sem.run_pure]
  cases r with
  | none =>
    simp only [Option.map_none] at hre
    have : mapF l n = none := by cases h : mapF l n <;> simp_all
    simp [this, run_zOf hz, Result.andThen]
    try (cases ok <;> rfl)
  | some p =>
    obtain ⟨j, v⟩ := p
    cases h : mapF l n with
    | none => simp [h] at hre
    | some x =>
      simp only [h, Option.map_some, Option.some.injEq] at hre
      subst hre
      simp [Result.andThen]
      try (cases ok <;> rfl)
def insOf (ops : Array Oper) (d : Nat) (s : St) (t : TypeId) (k : IntKind) (j : Nat) : Option (Int × Value) := match ops[j]? with
  | some o => match o.guard, o.dst, o.op with
    | none, none, .insert t' (.tmp m) x y => match Nat.beq t t' && Nat.beq m d with
      | true => match s.ev x, s.ev y with
        | .ic (.lit (.int k' a)), .ic (.lit b) => match decide (k' = k) with
          | true => some (a, b)
          | false => none
        | _, _ => none
      | false => none
    | _, _, _ => none
  | none => none
def insAll (ops : Array Oper) (d : Nat) (s : St) (t : TypeId) (k : IntKind) : List Nat → List Nat × List (Int × Value)
  | [] => ([], [])
  | j :: r => match insOf ops d s t k j with
    | some p => match insAll ops d s t k r with
      | (l, es) => (l, p :: es)
    | none => (j :: r, [])
def freshB : List (Int × Value) → Bool
  | [] => true
  | p :: r => r.all (fun q => !decide (p.1 = q.1)) && freshB r
theorem insOf_ok {ops : Array Oper} {d : Nat} {s : St} {t : TypeId} {k : IntKind} {j : Nat} {p : Int × Value} (h : insOf ops d s t k j = some p) : ∃ o x y, ops[j]? = some o ∧ o.guard = none ∧ o.dst = none ∧ o.op = .insert t (.tmp d) x y ∧ s.ev x = .ic (.lit (.int k p.1)) ∧ s.ev y = .ic (.lit p.2) := by
  unfold insOf at h
  split at h
  · rename_i o ho
    split at h
    · rename_i t' m x y h1 h2 h3
      split at h
      · rename_i hb
        simp only [Bool.and_eq_true] at hb
        have e1 := Nat.eq_of_beq_eq_true hb.1
        have e2 := Nat.eq_of_beq_eq_true hb.2
        subst e1 e2
        split at h
        · rename_i k' a b hx hy
          split at h
          · rename_i hk
            simp only [decide_eq_true_eq] at hk
            subst hk
            simp only [Option.some.injEq] at h
            subst h
            exact ⟨o, x, y, ho, h1, h2, h3, hx, hy⟩
          · simp at h
        · simp at h
      · simp at h
    · simp at h
  · simp at h
theorem push_set (h : Array Obj) (o o' : Obj) : (h.push o).setIfInBounds h.size o' = h.push o' := by
  apply Array.ext
  · simp
  · intro i h1 h2
    simp only [Array.size_push] at h2
    by_cases e : i = h.size
    · subst e; simp
    · have : i < h.size := by omega
      rw [Array.getElem_setIfInBounds_ne (by simp; omega) (Ne.symm e), Array.getElem_push_lt this, Array.getElem_push_lt this]
theorem insAll_wp {r : Option Nat} {P : Program} {ops : Array Oper} {d : Nat} {t kt et : TypeId} {k : IntKind} (hm : P.underlying t = some (.map kt et)) (hk : P.underlying kt = some (.int k)) {s : St} {G : Nat → Prop} {g : Ghost} {a : Act} {w0 : World} {QQ : Exit → Act → World → Prop}
    (hd : a.eval (.tmp d) = .map (some w0.heap.size)) :
    ∀ (l : List Nat) (ents : Array MapEntry) (clk : Nat) (old : List (Int × Value)), ents.toList.map (fun e => (e.key, e.val)) = old.map (fun p => (Value.int k p.1, p.2)) → freshB (insAll ops d s t k l).2 = true → (∀ p ∈ old, ∀ q ∈ (insAll ops d s t k l).2, p.1 ≠ q.1) →
      (∀ ents clk, Rel G s g { w0 with heap := w0.heap.push (.map ents clk) } a) →
      (∀ (ents' : Array MapEntry) (clk' : Nat), ents'.toList.map (fun e => (e.key, e.val)) = (old ++ (insAll ops d s t k l).2).map (fun p => (Value.int k p.1, p.2)) → wpOpsIn (FW r) 0 P ops QQ (insAll ops d s t k l).1 a { w0 with heap := w0.heap.push (.map ents' clk') }) →
      wpOpsIn (FW r) 0 P ops QQ l a { w0 with heap := w0.heap.push (.map ents clk) }
  | [], ents, clk, old, he, hf, ho, hR, h => by
    have := h ents clk (by simpa [insAll] using he)
    exact this
  | j :: l, ents, clk, old, he, hf, ho, hR, h => by
    cases hi : insOf ops d s t k j with
    | none =>
      have e : insAll ops d s t k (j :: l) = (j :: l, []) := by simp only [insAll, hi]
      rw [e] at h
      exact h ents clk (by simpa using he)
    | some p =>
      obtain ⟨o, x, y, ho1, hg, hdst, hop, hx, hy⟩ := insOf_ok hi
      have e : insAll ops d s t k (j :: l) = ((insAll ops d s t k l).1, p :: (insAll ops d s t k l).2) := by simp only [insAll, hi]
      rw [e] at hf ho h
      simp only [freshB, Bool.and_eq_true, List.all_eq_true, Bool.not_eq_true', decide_eq_false_iff_not] at hf
      have hrel := hR ents clk
      have hx' := (hrel.ev x)
      rw [hx] at hx'
      have hy' := (hrel.ev y)
      rw [hy] at hy'
      have ex := hx'.lit_inv
      have ey := hy'.lit_inv
      have hg' : gd ops s o.guard = some true := by rw [hg]; rfl
      simp only [wpOpsIn, ho1, gd_wanted hrel hg', if_true]
      refine ⟨fun _ _ => trivial, ?_⟩
      have hnd : notDefer o.op = true := by rw [hop]; rfl
      have hb : ({ w0 with heap := w0.heap.push (.map ents clk) } : World).heap[w0.heap.size]? = some (.map ents clk) := by simp
      have hrun := run_insert (val := p.2) (n := p.1) hm hk hb (fun e he' => by
        have : (e.key, e.val) ∈ ents.toList.map (fun e => (e.key, e.val)) := List.mem_map.2 ⟨e, he', rfl⟩
        rw [he] at this
        obtain ⟨q, hq, hqe⟩ := List.mem_map.1 this
        simp only [Prod.mk.injEq] at hqe
        exact ⟨q.1, hqe.1.symm, ho q hq p List.mem_cons_self⟩)
      rw [semAt_of hnd]
      have hex : execOp a.eval o = (do Instr.mapUpdate t (.map (some w0.heap.size)) (.int k p.1) p.2; pure .skip) := by
        simp only [execOp, hop, hd, ex, ey]
      rw [hex]
      simp only [Sem.run_bind, hrun, Result.andThen_ok, Sem.run_pure, push_set]
      have ha : a.put o.dst undef = a := by rw [hdst]; rfl
      simp only [Oper.uponIn]
      rw [ha]
      exact insAll_wp hm hk hd l _ _ (old ++ [p]) (by simp [he]) hf.2 (fun q hq z hz => by
        rcases List.mem_append.1 hq with hq | hq
        · exact ho q hq z (List.mem_cons_of_mem _ hz)
        · simp only [List.mem_singleton] at hq
          subst hq
          exact hf.1 z hz) hR (fun ents' clk' hh => h ents' clk' (by simpa using hh))
def mlit (ops : Array Oper) (s : St) (k : IntKind) : List Nat → Option (Nat × TypeId × List Nat × List (Int × Value))
  | [] => none
  | i :: l => match ops[i]? with
    | some o => match o.guard, o.dst, o.op with
      | none, some d, .makeMap t none => match dstOk s (some d) with
        | true => match insAll ops d (putS s (some d) .any s.st) t k l with
          | (l', es) => match freshB es with
            | true => some (d, t, l', es)
            | false => none
        | false => none
      | _, _, _ => none
    | none => none
theorem mlit_ok {ops : Array Oper} {s : St} {k : IntKind} {i : Nat} {l l' : List Nat} {d : Nat} {t : TypeId} {es : List (Int × Value)} (h : mlit ops s k (i :: l) = some (d, t, l', es)) :
    ∃ o, ops[i]? = some o ∧ o.guard = none ∧ o.dst = some d ∧ o.op = .makeMap t none ∧ dstOk s (some d) = true ∧ insAll ops d (putS s (some d) .any s.st) t k l = (l', es) ∧ freshB es = true := by
  simp only [mlit] at h
  split at h
  · rename_i o ho
    split at h
    · rename_i d' t' h1 h2 h3
      split at h
      · rename_i hd
        split at h
        · rename_i hf
          simp only [Option.some.injEq, Prod.mk.injEq] at h
          obtain ⟨rfl, rfl, rfl, rfl⟩ := h
          exact ⟨o, ho, h1, h2, h3, hd, rfl, hf⟩
        · simp at h
      · simp at h
    · simp at h
  · simp at h
theorem insAll_sub {ops : Array Oper} {d : Nat} {s : St} {t : TypeId} {k : IntKind} : ∀ (l : List Nat) (tt : Nat), Spares ops l tt → Spares ops (insAll ops d s t k l).1 tt
  | [], tt, h => h
  | j :: l, tt, h => by
    cases hi : insOf ops d s t k j with
    | none => simp only [insAll, hi]; exact h
    | some p =>
      simp only [insAll, hi]
      exact insAll_sub l tt fun q hq => h q (List.mem_cons_of_mem _ hq)
theorem AObj.mu_live {o : AObj} (h : o.mu = true) : o.live = true := by cases o <;> first | rfl | (simp [AObj.mu] at h; done)
theorem AOL.mapLit {r : Option Nat} {P : Program} {ops : Array Oper} {i : Nat} {l l' : List Nat} {s : St} {Q : St → Prop} {k : IntKind} {d : Nat} {t : TypeId} {es : List (Int × Value)} (h : mlit ops s k (i :: l) = some (d, t, l', es)) (hB : mapKB P t k = true)
    (kk : AOL r P ops l' (putS s (some d) (.ic (.mp (es.map fun p => (.int k p.1, p.2)))) s.st) Q) : AOL r P ops (i :: l) s Q := fun G g w a QQ hr kq => by
  obtain ⟨o, ho, hg, hdst, hop, hd, hins, hf⟩ := mlit_ok h
  obtain ⟨kt, et, hm, hk⟩ := mapKB_ok hB
  have hg' : gd ops s o.guard = some true := by rw [hg]; rfl
  simp only [wpOpsIn, ho, gd_wanted hr hg', if_true]
  refine ⟨fun _ _ => trivial, ?_⟩
  have hnd : notDefer o.op = true := by rw [hop]; rfl
  rw [semAt_of hnd]
  have hex : (execOp a.eval o).run P w = .ok (.value (.map (some w.heap.size))) (w.alloc (.map #[] 0)) := by
    simp [execOp, hop, Instr.makeMap, Result.andThen]
  rw [hex]
  simp only [Oper.uponIn]
  rw [hdst]
  have hbel : ∀ ents clk, Below w.heap.size w { w with heap := w.heap.push (.map ents clk) } := fun ents clk => ⟨rfl, rfl, rfl, by simp, fun q hq => by simp [Array.getElem?_push, Nat.ne_of_lt hq]⟩
  have hs : ∀ ents clk, SR G s.st g { w with heap := w.heap.push (.map ents clk) } := fun ents clk => hr.sr.below (hbel ents clk)
  have hrel : ∀ (x : AV), (∀ ents clk, AR G s.st g { w with heap := w.heap.push (.map ents clk) } x (.map (some w.heap.size))) → ∀ ents clk, Rel G (putS s (some d) x s.st) g { w with heap := w.heap.push (.map ents clk) } (a.put (some d) (.map (some w.heap.size))) := fun x hx ents clk =>
    hr.putS (some d) hd (Evo.below (hbel ents clk)) (hs ents clk) (hx ents clk)
  have hdv : (a.put (some d) (.map (some w.heap.size))).eval (.tmp d) = .map (some w.heap.size) := by
    have hlt : d < s.nt := Nat.le_of_ble_eq_true hd
    have : d < a.tmps.size := by rw [hr.size]; exact hlt
    show (a.tmps.setIfInBounds d _).getD d undef = _
    simp [this]
  have hal : w.alloc (.map #[] 0) = { w with heap := w.heap.push (.map #[] 0) } := rfl
  rw [hal]
  refine insAll_wp (s := putS s (some d) .any s.st) (G := G) (g := g) hm hk hdv l #[] 0 [] (by simp) (by rw [hins]; exact hf) (by simp) (hrel .any fun _ _ => .any _) fun ents clk he => ?_
  rw [hins] at he ⊢
  simp only [List.nil_append] at he
  have hx : AR G s.st g { w with heap := w.heap.push (.map ents clk) } (.ic (.mp (es.map fun p => (.int k p.1, p.2)))) (.map (some w.heap.size)) := by
    refine .ic _ _ (.mp _ _ ents clk (by simp) ⟨hr.sr.new _ (Nat.le_refl _), fun ⟨j, o, hj, hmu, hgj⟩ => ?_⟩ (by simp) he)
    have := (hr.sr.obj j o hj).lt (AObj.mu_live hmu) hgj
    omega
  have hrel2 : Rel G (putS s (some d) (.ic (.mp (es.map fun p => (.int k p.1, p.2)))) s.st) g { w with heap := w.heap.push (.map ents clk) } (a.put (some d) (.map (some w.heap.size))) :=
    hr.putS (some d) hd (Evo.below (hbel ents clk)) (hs ents clk) hx
  refine kk G g _ _ QQ hrel2 fun s' g2 w2 a2 q hr2 he2 hdf hfr => kq s' g2 w2 a2 q hr2 ((Evo.below (hbel ents clk)).trans (by rw [putS_st] at he2; exact he2)) (hdf.trans (put_defers _ _ _)) ?_
  intro tt ht
  have h1 := hfr tt (by
    have := insAll_sub (ops := ops) (d := d) (s := putS s (some d) .any s.st) (t := t) (k := k) l tt fun q hq => ht q (List.mem_cons_of_mem _ hq)
    rw [hins] at this
    exact this)
  have h2 := Fr.put ho a (.map (some w.heap.size)) tt (ht i List.mem_cons_self o ho)
  rw [hdst] at h2
  exact h1.trans h2
theorem NX.mapLit {D Gh : List Nat} {r : Option Nat} {P : Program} {ops : Array Oper} {i : Nat} {l l' : List Nat} {s : St} {Q : St → Prop} {ev : Ev} (k : IntKind) {d : Nat} {t : TypeId} {es : List (Int × Value)} (h : mlit ops s k (i :: l) = some (d, t, l', es)) (hB : mapKB P t k = true)
    (kk : AOLg D Gh r P ops l' (putS s (some d) (.ic (.mp (es.map fun p => (.int k p.1, p.2)))) s.st) Q) : NX D Gh r P ops (i :: l) s Q ev := fun _ => AOL.mapLit h hB kk
def mpI (k q : IntKind) : List (Value × Value) → Option (List (Int × Int))
  | [] => some []
  | (.int k' a, .int q' b) :: r => match decide (k' = k) && decide (q' = q) with
    | true => match mpI k q r with
      | some l => some ((a, b) :: l)
      | none => none
    | false => none
  | _ :: _ => none
theorem mpI_ok {k q : IntKind} : ∀ {es : List (Value × Value)} {l : List (Int × Int)}, mpI k q es = some l → es = l.map fun p => (Value.int k p.1, Value.int q p.2)
  | [], l, h => by simp only [mpI, Option.some.injEq] at h; subst h; rfl
  | (.int k' a, .int q' b) :: r, l, h => by
    simp only [mpI] at h
    split at h
    · rename_i hb
      simp only [Bool.and_eq_true, decide_eq_true_eq] at hb
      obtain ⟨rfl, rfl⟩ := hb
      split at h
      · rename_i l' hl
        simp only [Option.some.injEq] at h
        subst h
        rw [mpI_ok hl]; rfl
      · simp at h
    · simp at h
def mapIB (P : Program) (t : TypeId) (k q : IntKind) : Bool := match P.underlying t with
  | some (.map kt et) => match P.underlying kt with
    | some (.int k') => decide (k' = k) && match zOf P et with
      | some (.int q' n) => decide (q' = q) && decide (n = 0)
      | _ => false
    | _ => false
  | _ => false
theorem mapIB_ok {P : Program} {t : TypeId} {k q : IntKind} (h : mapIB P t k q = true) : ∃ kt et, P.underlying t = some (.map kt et) ∧ P.underlying kt = some (.int k) ∧ zOf P et = some (.int q 0) := by
  unfold mapIB at h
  split at h
  · rename_i kt et hu
    split at h
    · rename_i k' hk
      simp only [Bool.and_eq_true, decide_eq_true_eq] at h
      obtain ⟨rfl, h⟩ := h
      split at h
      · rename_i q' n hz
        simp only [Bool.and_eq_true, decide_eq_true_eq] at h
        obtain ⟨rfl, rfl⟩ := h
        exact ⟨kt, et, hu, hk, hz⟩
      · simp at h
    · simp at h
  · simp at h
theorem does_lookupI {P : Program} {s : St} {t : TypeId} {x y : Operand} {es : List (Value × Value)} {k q : IntKind} {n : Int} {l : List (Int × Int)} (hx : s.ev x = .ic (.mp es)) (hy : s.ev y = .ic (.lit (.int k n))) (hl : mpI k q es = some l) (hB : mapIB P t k q = true) (ok : Bool) :
    Does P s (fun ρ => do pure (.value (← Instr.lookup t (ρ x) (ρ y) ok))) (match ok with | true => .tup [.ic (.lit (.int q ((mapF l n).getD 0))), .ic (.lit (.bool (mapF l n).isSome))] | false => .ic (.lit (.int q ((mapF l n).getD 0)))) s.st :=
  .pure fun G g w a hrel => by
    have h := hrel.ev x
    rw [hx] at h
    have h2 := hrel.ev y
    rw [hy] at h2
    obtain ⟨kt, et, hm, hk, hz⟩ := mapIB_ok hB
    have e2 := h2.lit_inv
    generalize hv : a.eval x = v at h
    have h := h.ic_inv
    cases h with
    | mp es b ents clk hb hok hh he =>
      have hrun := run_lookup (f := fun z : Int => Value.int q z) (d := 0) (n := n) hm hk hz hh (by rw [he]; exact mpI_ok hl) ok
      refine ⟨_, by simp only [hv, e2, Sem.run_bind, hrun]; rfl, ?_⟩
      cases ok with
      | true =>
        refine .tup _ _ rfl fun j z hj => ?_
        match j, hj with
        | 0, hj => simp only [List.getElem?_cons_zero, Option.some.injEq] at hj; subst hj; exact .ic _ _ (.lit _ rfl)
        | 1, hj => simp only [List.getElem?_cons_succ, List.getElem?_cons_zero, Option.some.injEq] at hj; subst hj; exact .ic _ _ (.lit _ rfl)
      | false => exact .ic _ _ (.lit _ rfl)
theorem One.lookupI {A : Ar} (hA : A = real) {r : Option Nat} {P : Program} {ops : Array Oper} {i : Nat} {s : St} {t : TypeId} {x y : Operand} {es : List (Value × Value)} {k q : IntKind} {n : Int} {l : List (Int × Int)} (h : opAt ops i s = some (.lookup t x y true)) (hx : s.ev x = .ic (.mp es)) (hy : s.ev y = .ic (.lit (.int k n))) (hl : mpI k q es = some l) (hB : mapIB P t k q = true) :
    One r P ops i s (.tup [.ic (.lit (.int q (A (.hid _) fun _ => (mapF l n).getD 0))), .ic (.lit (.bool (A (.hid _) fun _ => (mapF l n).isSome)))]) s.st := by
  simp only [rhid hA]
  exact .does h rfl fun o hop => (does_lookupI hx hy hl hB true).congr fun ρ => by simp only [execOp, hop]
theorem One.lookupI1 {A : Ar} (hA : A = real) {r : Option Nat} {P : Program} {ops : Array Oper} {i : Nat} {s : St} {t : TypeId} {x y : Operand} {es : List (Value × Value)} {k q : IntKind} {n : Int} {l : List (Int × Int)} (h : opAt ops i s = some (.lookup t x y false)) (hx : s.ev x = .ic (.mp es)) (hy : s.ev y = .ic (.lit (.int k n))) (hl : mpI k q es = some l) (hB : mapIB P t k q = true) :
    One r P ops i s (.ic (.lit (.int q (A (.hid _) fun _ => (mapF l n).getD 0)))) s.st := by
  simp only [rhid hA]
  exact .does h rfl fun o hop => (does_lookupI hx hy hl hB false).congr fun ρ => by simp only [execOp, hop]
def callAt (ops : Array Oper) (i : Nat) (s : St) : Option (FuncId × List PV) := match opAt ops i s with
  | some op => match opEv s op with
    | .call f p => some (f, p)
    | _ => none
  | none => none
theorem One.callF {r : Option Nat} {P : Program} {ops : Array Oper} {i : Nat} {s : St} {f : FuncId} {p : List PV} {y : PV} (h : callAt ops i s = some (f, p)) (hc : PureCalls P f p y) : One r P ops i s y.av s.st := by
  unfold callAt at h
  split at h
  · rename_i op ho
    split at h
    · rename_i f' p' he
      simp only [Option.some.injEq, Prod.mk.injEq] at h
      obtain ⟨rfl, rfl⟩ := h
      obtain ⟨x, args, ts, first, cap, rfl, h3, h4⟩ := opEv_call he
      exact One.call false ho h3 h4 hc rfl
    · simp at h
  · simp at h
end Go.Proofs.Ytkkjlmcnfoncdaa.Aw
