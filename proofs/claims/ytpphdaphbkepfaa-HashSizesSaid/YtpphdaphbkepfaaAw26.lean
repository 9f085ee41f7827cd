/- The abstract walk, part 26: hidden data; steps that make headway; splitting at a guard; typed rows. -/
import Derived.Test.YtpphdaphbkepfaaAw25
set_option linter.unusedVariables false
set_option linter.unusedSimpArgs false
namespace Go.Proofs.Ytpphdaphbkepfaa.Aw
open Go Go.RowKit
/-- Data that the evaluator never looks into. -/
abbrev hid (A : Ar) {α : Type} (x : α) : α := A (.hid α) fun _ => x
theorem hid_eq {A : Ar} (hA : A = real) {α : Type} (x : α) : hid A x = x := by subst hA; rfl
theorem rhid {A : Ar} (hA : A = real) {α : Type} (f : Unit → α) : A (.hid α) f = f () := by subst hA; rfl
section go
variable {r : Option Nat} {P : Program} {A : Ar} {tab : List TI} {ops : Array Oper}
def advO (A : Ar) (tab : List TI) (ops : Array Oper) (l : List Nat) (s : St) : Option (List Nat × St) :=
  let q := adv A tab ops l s
  bif Nat.blt q.1.length l.length then some q else none
theorem AOL.go (hA : A = real) (hT : TabOk P tab) {Q : St → Prop} {l l' : List Nat} {s s' : St} (h : advO A tab ops l s = some (l', s')) (k : AOL r P ops l' s' Q) : AOL r P ops l s Q := by
  simp only [advO] at h
  refine AOL.adv hA hT l s ?_
  cases hb : Nat.blt (Aw.adv A tab ops l s).1.length l.length with
  | true =>
    simp only [hb, cond_true, Option.some.injEq] at h
    rw [h]
    exact k
  | false => simp [hb] at h
def ung (ops : Array Oper) (i : Nat) : Bool := match ops[i]? with
  | some o => o.guard.isNone
  | none => false
def advG (A : Ar) (tab : List TI) (ops : Array Oper) (l : List Nat) (s : St) : Option (List Nat × St) :=
  let p := l.takeWhile (ung ops)
  let q := adv A tab ops p s
  bif Nat.blt q.1.length p.length then some (q.1 ++ l.dropWhile (ung ops), q.2) else none
theorem AOL.goG (hA : A = real) (hT : TabOk P tab) {Q : St → Prop} {l l' : List Nat} {s s' : St} (h : advG A tab ops l s = some (l', s')) (k : AOL r P ops l' s' Q) : AOL r P ops l s Q := by
  simp only [advG] at h
  rw [← List.takeWhile_append_dropWhile (p := ung ops) (l := l)]
  refine AOL.adv2 hA hT _ _ s ?_
  cases hb : Nat.blt (Aw.adv A tab ops (l.takeWhile (ung ops)) s).1.length (l.takeWhile (ung ops)).length with
  | true =>
    simp only [hb, cond_true, Option.some.injEq, Prod.mk.injEq] at h
    rw [h.1, h.2]
    exact k
  | false => simp [hb] at h
/-- The guard's slot. -/
def gdv (ops : Array Oper) (s : St) (i : Nat) : Option Bool := match ops[i]? with
  | some o => match o.guard with
    | some (j, _) => match ops[j]? with
      | some p => match p.dst with
        | some d => match s.get d with
          | .ic (.lit (.bool b)) => some b
          | _ => none
        | none => none
      | none => none
    | none => none
  | none => none
theorem AOL.gs {Q : St → Prop} {i : Nat} {rest : List Nat} {s : St} {b : Bool} (hg : gdv ops s i = some b) (h1 : b = true → AOL r P ops (i :: rest) s Q) (h2 : b = false → AOL r P ops (i :: rest) s Q) : AOL r P ops (i :: rest) s Q := by
  cases b with
  | true => exact h1 rfl
  | false => exact h2 rfl
theorem AOL.one {Q : St → Prop} {i : Nat} {rest : List Nat} {s : St} {x : AV} {st' : List AObj} (h : One r P ops i s x st') (k : AOL r P ops rest (putS s (dstOf ops i) x st') Q) : AOL r P ops (i :: rest) s Q := h rest Q k
end go
section qgo
variable {P : Program} {A : Ar} {tab : List TI} {ops : Array Oper}
def qadvO (A : Ar) (tab : List TI) (ops : Array Oper) (l : List Nat) (s : St) : Option (List Nat × St) :=
  let q := qadv A tab ops l s
  bif Nat.blt q.1.length l.length then some q else none
theorem QS.go (hA : A = real) (hT : TabOk P tab) {Q : St → Prop} {l l' : List Nat} {s s' : St} (h : qadvO A tab ops l s = some (l', s')) (k : QS P ops l' s' Q) : QS P ops l s Q := by
  simp only [qadvO] at h
  refine QS.adv hA hT l s ?_
  cases hb : Nat.blt (qadv A tab ops l s).1.length l.length with
  | true =>
    simp only [hb, cond_true, Option.some.injEq] at h
    rw [h]
    exact k
  | false => simp [hb] at h
def qadvG (A : Ar) (tab : List TI) (ops : Array Oper) (l : List Nat) (s : St) : Option (List Nat × St) :=
  let p := l.takeWhile (ung ops)
  let q := qadv A tab ops p s
  bif Nat.blt q.1.length p.length then some (q.1 ++ l.dropWhile (ung ops), q.2) else none
theorem QS.goG (hA : A = real) (hT : TabOk P tab) {Q : St → Prop} {l l' : List Nat} {s s' : St} (h : qadvG A tab ops l s = some (l', s')) (k : QS P ops l' s' Q) : QS P ops l s Q := by
  simp only [qadvG] at h
  rw [← List.takeWhile_append_dropWhile (p := ung ops) (l := l)]
  refine QS.adv2 hA hT _ _ s ?_
  cases hb : Nat.blt (qadv A tab ops (l.takeWhile (ung ops)) s).1.length (l.takeWhile (ung ops)).length with
  | true =>
    simp only [hb, cond_true, Option.some.injEq, Prod.mk.injEq] at h
    rw [h.1, h.2]
    exact k
  | false => simp [hb] at h
theorem QS.gs {Q : St → Prop} {i : Nat} {rest : List Nat} {s : St} {b : Bool} (hg : gdv ops s i = some b) (h1 : b = true → QS P ops (i :: rest) s Q) (h2 : b = false → QS P ops (i :: rest) s Q) : QS P ops (i :: rest) s Q := by
  cases b with
  | true => exact h1 rfl
  | false => exact h2 rfl
theorem QS.nil {Q : St → Prop} {s : St} (h : Q s) : QS P ops [] s Q := h
/-- The largest q that drawB takes. -/
def findQ (ops : Array Oper) : Nat → Option Nat
  | 0 => match drawB ops 0 with
    | true => some 0
    | false => none
  | n + 1 => match drawB ops (n + 1) with
    | true => some (n + 1)
    | false => findQ ops n
theorem AWp.drawM {id : Nat} {s : St} {Q : Exit → St → Prop} (q : Nat) (l1 l2 : List Nat) (hq : findQ ops ops.size = some q) (hm : P.follows .mixedOrders = true) (hb : drawB ops q = true) (h1 : List.range q = l1) (h2 : (List.range (ops.size - q)).map (q + ·) = l2)
    (h : QS P ops l1 s fun T => AOL none P ops l2 T (Q .normal)) : AWp none P (.region id ops true) s Q := by
  subst h1 h2
  exact AWp.drawQ q hm hb h
theorem AWp.reg {r : Option Nat} {id : Nat} {s : St} {Q : Exit → St → Prop} {l : List Nat} (hl : List.range ops.size = l) (h : AOL r P ops l s (Q .normal)) : AWp r P (.region id ops false) s Q := by
  subst hl
  exact AWp.region h
end qgo
section one
variable {r : Option Nat} {P : Program} {ops : Array Oper} {i : Nat} {s : St} {tab : List TI} {A : Ar}
theorem One.elemM (hA : A = real) (hT : TabOk P tab) {α : Type} [Inhabited α] {f : α → List IC} {l : List α} {t e : TypeId} {j : TI} {x y : Operand} {ex : Bool} {k : IntKind} {n : Int} (h : opAt ops i s = some (.indexAddr t x y)) (ht : slT tab t = some (e, j))
    (hx : s.ev x = .ic (.sl j.size ex (A (.hid _) fun _ => List.map f l))) (hy : s.ev y = .ic (.lit (.int k n))) (h0 : 0 ≤ n) (h1 : n < l.length) : One r P ops i s (.at (f (A (.hid _) fun _ => l.getD n.toNat default))) s.st := by
  refine One.elem hT h ht hx hy h0 ?_
  rw [rhid hA, rhid hA]
  have : n.toNat < l.length := by omega
  simp [this]
theorem One.cut_hM (hA : A = real) (hT : TabOk P tab) {α : Type} {f : α → List IC} {l : List α} {t e : TypeId} {j : TI} {x z : Operand} {ex : Bool} {k : IntKind} {n : Int} (h : opAt ops i s = some (.slice t x none (some z) none)) (ht : slT tab t = some (e, j))
    (hx : s.ev x = .ic (.sl j.size ex (A (.hid _) fun _ => List.map f l))) (hz : s.ev z = .ic (.lit (.int k n))) (h0 : 0 ≤ n) (h1 : n ≤ l.length) : One r P ops i s (.ic (.sl j.size false (A (.hid _) fun _ => List.map f (l.take n.toNat)))) s.st := by
  have := One.cut_h (r := r) hT h ht hx hz h0 (by rw [rhid hA]; simpa using h1)
  rw [rhid hA] at this ⊢
  rw [List.map_take]
  exact this
theorem One.cut_lM (hA : A = real) (hT : TabOk P tab) {α : Type} {f : α → List IC} {l : List α} {t e : TypeId} {j : TI} {x z : Operand} {ex : Bool} {k : IntKind} {n : Int} (h : opAt ops i s = some (.slice t x (some z) none none)) (ht : slT tab t = some (e, j))
    (hx : s.ev x = .ic (.sl j.size ex (A (.hid _) fun _ => List.map f l))) (hz : s.ev z = .ic (.lit (.int k n))) (h0 : 0 ≤ n) (h1 : n ≤ l.length) : One r P ops i s (.ic (.sl j.size false (A (.hid _) fun _ => List.map f (l.drop n.toNat)))) s.st := by
  have := One.cut_l (r := r) hT h ht hx hz h0 (by rw [rhid hA]; simpa using h1)
  rw [rhid hA] at this ⊢
  rw [List.map_drop]
  exact this
theorem One.cut_lhM (hA : A = real) (hT : TabOk P tab) {α : Type} {f : α → List IC} {l : List α} {t e : TypeId} {j : TI} {x y z : Operand} {ex : Bool} {k k' : IntKind} {m n : Int} (h : opAt ops i s = some (.slice t x (some y) (some z) none)) (ht : slT tab t = some (e, j))
    (hx : s.ev x = .ic (.sl j.size ex (A (.hid _) fun _ => List.map f l))) (hy : s.ev y = .ic (.lit (.int k m))) (hz : s.ev z = .ic (.lit (.int k' n))) (h0 : 0 ≤ m) (h1 : m ≤ n) (h2 : n ≤ l.length) :
    One r P ops i s (.ic (.sl j.size false (A (.hid _) fun _ => List.map f ((l.take n.toNat).drop m.toNat)))) s.st := by
  have := One.cut_lh (r := r) hT h ht hx hy hz h0 h1 (by rw [rhid hA]; simpa using h2)
  rw [rhid hA] at this ⊢
  rw [List.map_drop, List.map_take]
  exact this
theorem One.clipM (hT : TabOk P tab) {t e : TypeId} {j : TI} {x y z : Operand} {ex : Bool} {xs : List (List IC)} {k k' : IntKind} {l n : Int} (h : opAt ops i s = some (.slice t x none (some y) (some z))) (ht : slT tab t = some (e, j))
    (hx : s.ev x = .ic (.sl j.size ex xs)) (hy : s.ev y = .ic (.lit (.int k l))) (hz : s.ev z = .ic (.lit (.int k' n))) (hl : l = (xs.length : Int)) (hn : n = (xs.length : Int)) : One r P ops i s (.ic (.sl j.size true xs)) s.st :=
  One.clip hT h ht hx hy hz hl hn
/-- A literal row behind a typed one. -/
theorem One.appendM (hA : A = real) (hT : TabOk P tab) {α : Type} {f : α → List IC} {l : List α} (v : α) {t e : TypeId} {j : TI} {x y : Operand} {ex : Bool} {ys : List (List IC)} (h : opAt ops i s = some (.call { callee := .builtin .append, args := #[x, y], argTypes := #[t, t] })) (ht : slT tab t = some (e, j))
    (hj : j.zero.isSome = true) (hx : s.ev x = .ic (.sl j.size true (A (.hid _) fun _ => List.map f l))) (hy : s.ev y = .ic (.sl j.size ex ys)) (hv : ys = [f v]) (hn : (l.length + 1) * j.bytes ≤ 140737488355328) (hm : l.length + 1 ≤ maxLen) :
    One r P ops i s (.ic (.sl j.size false (A (.hid _) fun _ => List.map f (l ++ [v])))) s.st := by
  subst hv
  have := One.append (r := r) hT h ht hj hx (.inl rfl) hy (by rw [rhid hA]; simpa using hn) (by rw [rhid hA]; simpa using hm)
  rw [rhid hA] at this ⊢
  rw [List.map_append]
  exact this
/-- A typed row behind another one. -/
theorem One.appendMM (hA : A = real) (hT : TabOk P tab) {α : Type} {f : α → List IC} {l l2 : List α} {t e : TypeId} {j : TI} {x y : Operand} {ex : Bool} (h : opAt ops i s = some (.call { callee := .builtin .append, args := #[x, y], argTypes := #[t, t] })) (ht : slT tab t = some (e, j))
    (hj : j.zero.isSome = true) (hx : s.ev x = .ic (.sl j.size true (A (.hid _) fun _ => List.map f l))) (hy : s.ev y = .ic (.sl j.size ex (A (.hid _) fun _ => List.map f l2))) (hn : (l.length + l2.length) * j.bytes ≤ 140737488355328) (hm : l.length + l2.length ≤ maxLen) :
    One r P ops i s (.ic (.sl j.size false (A (.hid _) fun _ => List.map f (l ++ l2)))) s.st := by
  have := One.append (r := r) hT h ht hj hx (.inl rfl) hy (by rw [rhid hA, rhid hA]; simpa using hn) (by rw [rhid hA, rhid hA]; simpa using hm)
  rw [rhid hA, rhid hA] at this
  rw [rhid hA, List.map_append]
  exact this
theorem One.appendOwnM (hA : A = real) (hT : TabOk P tab) {α : Type} {f : α → List IC} {l : List α} (v : α) {t e : TypeId} {j : TI} {x y : Operand} {ex : Bool} {q ver : Nat} {ys : List (List IC)} (h : opAt ops i s = some (.call { callee := .builtin .append, args := #[x, y], argTypes := #[t, t] })) (ht : slT tab t = some (e, j))
    (hj : (Nat.blt 0 j.size && (j.zero.map (·.length) == some j.size)) = true) (hx : s.ev x = .own q ver) (hs : s.st[q]? = some (.row true ver e j.size (A (.hid _) fun _ => List.map f l))) (hy : s.ev y = .ic (.sl j.size ex ys)) (hv : ys = [f v]) (hn : (l.length + 1) * j.bytes ≤ 140737488355328) (hm : l.length + 1 ≤ maxLen) :
    One r P ops i s (.own q (ver + 1)) (s.st.set q (.row true (ver + 1) e j.size (A (.hid _) fun _ => List.map f (l ++ [v])))) := by
  subst hv
  have := One.appendOwn (r := r) hT h ht hj hx hs hy (by rw [rhid hA]; simpa using hn) (by rw [rhid hA]; simpa using hm)
  rw [rhid hA] at this
  rw [rhid hA, List.map_append]
  exact this
theorem One.appendOwnMM (hA : A = real) (hT : TabOk P tab) {α : Type} {f : α → List IC} {l l2 : List α} {t e : TypeId} {j : TI} {x y : Operand} {ex : Bool} {q ver : Nat} (h : opAt ops i s = some (.call { callee := .builtin .append, args := #[x, y], argTypes := #[t, t] })) (ht : slT tab t = some (e, j))
    (hj : (Nat.blt 0 j.size && (j.zero.map (·.length) == some j.size)) = true) (hx : s.ev x = .own q ver) (hs : s.st[q]? = some (.row true ver e j.size (A (.hid _) fun _ => List.map f l))) (hy : s.ev y = .ic (.sl j.size ex (A (.hid _) fun _ => List.map f l2))) (hn : (l.length + l2.length) * j.bytes ≤ 140737488355328) (hm : l.length + l2.length ≤ maxLen) :
    One r P ops i s (.own q (ver + 1)) (s.st.set q (.row true (ver + 1) e j.size (A (.hid _) fun _ => List.map f (l ++ l2)))) := by
  have := One.appendOwn (r := r) hT h ht hj hx hs hy (by rw [rhid hA, rhid hA]; simpa using hn) (by rw [rhid hA, rhid hA]; simpa using hm)
  rw [rhid hA, rhid hA] at this
  rw [rhid hA, List.map_append]
  exact this
/-- .. behind an empty one of whatever kind. -/
theorem One.appendOwn0 (hA : A = real) (hT : TabOk P tab) {xs : List (List IC)} {t e : TypeId} {j : TI} {x y : Operand} {ex : Bool} {q ver : Nat} (h : opAt ops i s = some (.call { callee := .builtin .append, args := #[x, y], argTypes := #[t, t] })) (ht : slT tab t = some (e, j))
    (hj : (Nat.blt 0 j.size && (j.zero.map (·.length) == some j.size)) = true) (hx : s.ev x = .own q ver) (hs : s.st[q]? = some (.row true ver e j.size [])) (hy : s.ev y = .ic (.sl j.size ex xs)) (hn : xs.length * j.bytes ≤ 140737488355328) (hm : xs.length ≤ maxLen) :
    One r P ops i s (.own q (ver + 1)) (s.st.set q (.row true (ver + 1) e j.size xs)) := by
  have := One.appendOwn (r := r) hT h ht hj hx hs hy (by simpa using hn) (by simpa using hm)
  simpa using this
theorem One.makeM (hA : A = real) (hT : TabOk P tab) {α : Type} (f : α → List IC) (d : α) {t e : TypeId} {j : TI} {x y : Operand} {z : List Value} {k k' : IntKind} {n : Int} (h : opAt ops i s = some (.makeSlice t x y)) (ht : slT tab t = some (e, j)) (hz : j.zero = some z) (hj : (Nat.beq z.length j.size && z.all (·.oneCell')) = true)
    (hx : s.ev x = .ic (.lit (.int k n))) (hy : s.ev y = .ic (.lit (.int k' n))) (hd : z.map zIC = f d) (h0 : 0 ≤ n) (hb : j.bytes * n.toNat ≤ 281474976710656) (hm : n.toNat ≤ maxLen) :
    One r P ops i s (.own s.st.length 0) (s.st ++ [.row true 0 e j.size (A (.hid _) fun _ => List.map f (List.replicate n.toNat d))]) := by
  have := One.make (r := r) hT h ht hz hj hx hy h0 hb hm
  rw [hd] at this
  rw [rhid hA, List.map_replicate]
  exact this
theorem One.elemOwnM (hA : A = real) (hT : TabOk P tab) {α : Type} {f : α → List IC} {l : List α} {t e : TypeId} {j : TI} {x y : Operand} {q ver : Nat} {m : Bool} {k : IntKind} {n : Int} (h : opAt ops i s = some (.indexAddr t x y)) (ht : slT tab t = some (e, j))
    (hx : s.ev x = .own q ver) (hs : s.st[q]? = some (.row m ver e j.size (A (.hid _) fun _ => List.map f l))) (hy : s.ev y = .ic (.lit (.int k n))) (h0 : 0 ≤ n) (h1 : n < l.length) : One r P ops i s (.rat q ver (A (.hid _) fun _ => n.toNat) 0) s.st := by
  have := One.elemOwn (r := r) hT h ht hx hs hy h0 (by rw [rhid hA]; simpa using h1)
  rw [rhid hA]
  exact this
theorem One.lenOwnM (hA : A = real) (hT : TabOk P tab) {t e e' : TypeId} {j : TI} {x : Operand} {q ver sz : Nat} {m : Bool} {xs : List (List IC)} (h : opAt ops i s = some (.call { callee := .builtin .len, args := #[x], argTypes := #[t] })) (ht : slT tab t = some (e, j)) (hx : s.ev x = .own q ver)
    (hs : s.st[q]? = some (.row m ver e' sz xs)) : One r P ops i s (.ic (.lit (.int .i64 (A .len xs)))) s.st :=
  One.lenOwn hT h ht hx hs (by subst hA; rfl)
/-- One cell of an own row, read. -/
theorem One.loadRatM (hA : A = real) (hT : TabOk P tab) {α : Type} [Inhabited α] {f : α → List IC} {l : List α} {t : TypeId} {j : TI} {x : Operand} {q ver o n e sz : Nat} {m : Bool} {v : IC} (h : opAt ops i s = some (.load t x)) (ht : tiAt tab t = some j) (hx : s.ev x = .rat q ver n o)
    (hs : s.st[q]? = some (.row m ver e sz (A (.hid _) fun _ => List.map f l))) (ha : j.agg = false) (hv : (f (A (.hid _) fun _ => l.getD n default))[o]? = some v) (hn : n < l.length) : One r P ops i s (.ic v) s.st := by
  refine One.loadRat hT h ht hx hs (row := f (l.getD n default)) (by rw [rhid hA]; simp [hn]) ?_
  rw [ha, cond_false]
  rw [rhid hA] at hv
  rw [hv]
  rfl
theorem One.loadRatA (hA : A = real) (hT : TabOk P tab) {α : Type} [Inhabited α] {f : α → List IC} {l : List α} {t : TypeId} {j : TI} {x : Operand} {q ver o n e sz : Nat} {m : Bool} {v : List IC} (h : opAt ops i s = some (.load t x)) (ht : tiAt tab t = some j) (hx : s.ev x = .rat q ver n o)
    (hs : s.st[q]? = some (.row m ver e sz (A (.hid _) fun _ => List.map f l))) (ha : j.agg = true) (hv : f (A (.hid _) fun _ => l.getD n default) = v) (ho : Nat.ble (o + j.size) v.length = true) (hn : n < l.length) : One r P ops i s (.agg (((v.drop o).take j.size).map .ic)) s.st := by
  refine One.loadRat hT h ht hx hs (row := f (l.getD n default)) (by rw [rhid hA]; simp [hn]) ?_
  rw [ha, cond_true]
  rw [rhid hA] at hv
  rw [hv]
  exact ⟨ho, rfl⟩
/-- A whole element of an own row, written. -/
theorem One.storeRatM (hA : A = real) (hT : TabOk P tab) {α : Type} (v : α) {f : α → List IC} {l : List α} {t : TypeId} {j : TI} {x y : Operand} {q ver n e sz : Nat} {ys : List AV} {yc : List IC} (h : opAt ops i s = some (.store t x y)) (ht : tiAt tab t = some j) (hx : s.ev x = .rat q ver n 0)
    (hs : s.st[q]? = some (.row true ver e sz (A (.hid _) fun _ => List.map f l))) (hy : cellsOk (s.ev y) = some ys) (hyc : allIC ys = some yc) (hv : yc = f v) (hl : Nat.beq yc.length j.size = true) (hsz : ∀ a : α, (f a).length = j.size) (hn : n < l.length) :
    One r P ops i s .any (s.st.set q (.row true ver e sz (A (.hid _) fun _ => List.map f (l.set n v)))) := by
  subst hv
  have := One.storeRat (r := r) (row := f l[n]) hT h ht hx hs (by rw [rhid hA]; simp [hn]) hy hyc hl (by rw [hsz, hsz]; omega)
  rw [rhid hA] at this
  rw [rhid hA, List.map_set]
  have e : (f l[n]).take 0 ++ f v ++ (f l[n]).drop (0 + (f v).length) = f v := by
    rw [List.drop_of_length_le (by rw [hsz, hsz]; omega)]; simp
  rw [e] at this
  exact this
theorem One.copyOwnM (hA : A = real) (hT : TabOk P tab) {t t2 e : TypeId} {j : TI} {x y : Operand} {ex : Bool} {q ver : Nat} {xs ys : List (List IC)} (h : opAt ops i s = some (.call { callee := .builtin .copy, args := #[x, y], argTypes := #[t, t2] })) (ht : slT tab t = some (e, j)) (hj : j.size = 1)
    (hx : s.ev x = .own q ver) (hs : s.st[q]? = some (.row true ver e 1 xs)) (hy : s.ev y = .ic (.sl 1 ex ys)) (hl : ys.length = xs.length) : One r P ops i s (.ic (.lit (.int .i64 (A .len xs)))) (s.st.set q (.row true ver e 1 ys)) := by
  have : A .len xs = (xs.length : Int) := by subst hA; rfl
  rw [this]
  exact One.copyOwn hT h ht hj hx hs hy hl
theorem One.quoM (hA : A = real) {t t' : TypeId} {x y : Operand} {k : IntKind} {a b : Int} (h : opAt ops i s = some (.binOp .quo t x y t')) (hx : s.ev x = .ic (.lit (.int k a))) (hy : s.ev y = .ic (.lit (.int k b))) (hb : b ≠ 0) : One r P ops i s (.ic (.lit (.int k (A (.hid _) fun _ => k.wrap (a.tdiv b))))) s.st := by
  rw [rhid hA]; exact One.quo h hx hy hb
theorem One.remM (hA : A = real) {t t' : TypeId} {x y : Operand} {k : IntKind} {a b : Int} (h : opAt ops i s = some (.binOp .rem t x y t')) (hx : s.ev x = .ic (.lit (.int k a))) (hy : s.ev y = .ic (.lit (.int k b))) (hb : b ≠ 0) : One r P ops i s (.ic (.lit (.int k (A (.hid _) fun _ => a.tmod b)))) s.st := by
  rw [rhid hA]; exact One.rem h hx hy hb
theorem One.bitsM (hA : A = real) {op : BinOp} {t t' : TypeId} {x y : Operand} {k : IntKind} {a b : Int} (h : opAt ops i s = some (.binOp op t x y t')) (hop : isBits op = true) (hx : s.ev x = .ic (.lit (.int k a))) (hy : s.ev y = .ic (.lit (.int k b))) :
    One r P ops i s (.ic (.lit (.int k (A (.hid _) fun _ => bitsV op k a b)))) s.st := by
  rw [rhid hA]; exact One.bits h hop hx hy rfl
theorem One.shrM (hA : A = real) {t t' : TypeId} {x y : Operand} {k k' : IntKind} {a b : Int} (h : opAt ops i s = some (.binOp .shr t x y t')) (hx : s.ev x = .ic (.lit (.int k a))) (hy : s.ev y = .ic (.lit (.int k' b))) (h0 : 0 ≤ b) :
    One r P ops i s (.ic (.lit (.int k (A (.hid _) fun _ => a.fdiv (2 ^ min b.toNat k.bits))))) s.st := by
  rw [rhid hA]; exact One.shr h hx hy h0 rfl
theorem One.eqBoolM (hA : A = real) (hT : TabOk P tab) {t t' : TypeId} {j : TI} {x y : Operand} {a b : Bool} (h : opAt ops i s = some (.binOp .eql t x y t')) (ht : tiAt tab t = some j) (hk : j.k = .bool) (hx : s.ev x = .ic (.lit (.bool a))) (hy : s.ev y = .ic (.lit (.bool b))) : One r P ops i s (.ic (.lit (.bool (A (.hid _) fun _ => a == b)))) s.st := by
  rw [rhid hA]; exact One.eqBool hT h ht hk hx hy
theorem One.neBoolM (hA : A = real) (hT : TabOk P tab) {t t' : TypeId} {j : TI} {x y : Operand} {a b : Bool} (h : opAt ops i s = some (.binOp .neq t x y t')) (ht : tiAt tab t = some j) (hk : j.k = .bool) (hx : s.ev x = .ic (.lit (.bool a))) (hy : s.ev y = .ic (.lit (.bool b))) : One r P ops i s (.ic (.lit (.bool (A (.hid _) fun _ => !(a == b))))) s.st := by
  rw [rhid hA]; exact One.neBool hT h ht hk hx hy
theorem One.concatM (hA : A = real) {t t' : TypeId} {x y : Operand} {a b : ByteArray} (h : opAt ops i s = some (.binOp .add t x y t')) (hx : s.ev x = .ic (.lit (.string a))) (hy : s.ev y = .ic (.lit (.string b))) (hb : a.size + b.size ≤ 9223372036854775807) : One r P ops i s (.ic (.lit (.string (A (.hid _) fun _ => a ++ b)))) s.st := by
  rw [rhid hA]; exact One.concat h hx hy hb
theorem One.byteM (hA : A = real) (hT : TabOk P tab) {t : TypeId} {j : TI} {x y : Operand} {b : ByteArray} {k : IntKind} {n : Int} (h : opAt ops i s = some (.index t x y)) (ht : tiAt tab t = some j) (hk : j.k = .string) (hx : s.ev x = .ic (.lit (.string b))) (hy : s.ev y = .ic (.lit (.int k n))) (h0 : 0 ≤ n) (h1 : n < (b.size : Int)) :
    One r P ops i s (.ic (.lit (.int .u8 (A (.hid _) fun _ => sb b n)))) s.st := by
  rw [rhid hA]; exact One.byte hT h ht hk hx hy h0 h1
end one
/-! ### results -/
section res
variable {P : Program} {tab : List TI} {s : St}
def resV (tab : List TI) (s : St) : ResultVar → Option AV
  | .tmp t => some (s.get t)
  | .cell p t => match tab[t]? with
    | some i => bif i.there then (match s.get p with
      | .ptr j o => match s.st[j]? with
        | some (.var _ _ cs) => bif i.agg then (bif Nat.ble (o + i.size) cs.length then some (.agg ((cs.drop o).take i.size)) else none) else cs[o]?
        | _ => none
      | _ => none) else none
    | none => none
theorem resV_ok (hT : TabOk P tab) {rv : ResultVar} {x : AV} (h : resV tab s rv = some x) : Res1 P s rv x := by
  cases rv with
  | tmp t => simp only [resV, Option.some.injEq] at h; subst h; exact Res1.tmp t
  | cell p t =>
    simp only [resV] at h
    split at h
    · rename_i i hi
      obtain rfl := tab_get hT hi
      cases ht : (tyi P t).there with
      | false => simp [ht] at h
      | true =>
        simp only [ht, cond_true] at h
        split at h
        · rename_i j o hp
          split at h
          · rename_i m t' cs hs
            refine Res1.cell p t j o m t' cs x ht hp hs ?_
            cases ha : (tyi P t).agg with
            | true =>
              simp only [ha, cond_true] at h ⊢
              cases hb : Nat.ble (o + (tyi P t).size) cs.length with
              | true => simp only [hb, cond_true, Option.some.injEq] at h; exact ⟨rfl, h.symm⟩
              | false => simp [hb] at h
            | false => simpa [ha] using h
          · simp at h
        · simp at h
    · simp at h
def resVs (tab : List TI) (s : St) : List ResultVar → Option AV
  | [] => some (.tup [])
  | [a] => resV tab s a
  | [a, b] => match resV tab s a with
    | some x => match resV tab s b with
      | some y => some (.tup [x, y])
      | none => none
    | none => none
  | [a, b, c] => match resV tab s a with
    | some x => match resV tab s b with
      | some y => match resV tab s c with
        | some z => some (.tup [x, y, z])
        | none => none
      | none => none
    | none => none
  | _ => none
theorem RetOk.ev (hT : TabOk P tab) {fn : Func} {x : AV} (h : resVs tab s fn.results.toList = some x) : RetOk P fn s x := by
  cases hr : fn.results with
  | mk l =>
    rw [hr] at h
    match l, h with
    | [], h => simp only [resVs, Option.some.injEq] at h; subst h; exact RetOk.none hr
    | [a], h => exact RetOk.one hr (resV_ok hT (by simpa [resVs] using h))
    | [a, b], h =>
      simp only [resVs] at h
      split at h
      · rename_i x1 h1
        split at h
        · rename_i x2 h2
          simp only [Option.some.injEq] at h
          subst h
          exact RetOk.two hr (resV_ok hT h1) (resV_ok hT h2)
        · simp at h
      · simp at h
    | [a, b, c], h =>
      simp only [resVs] at h
      split at h
      · rename_i x1 h1
        split at h
        · rename_i x2 h2
          split at h
          · rename_i x3 h3
            simp only [Option.some.injEq] at h
            subst h
            exact RetOk.three hr (resV_ok hT h1) (resV_ok hT h2) (resV_ok hT h3)
          · simp at h
        · simp at h
      · simp at h
    | _ :: _ :: _ :: _ :: _, h => simp [resVs] at h
theorem rPV_then {st : List AObj} {x : AV} {y z : PV} (h : rPV st x = some y) (e : y = z) : rPV st x = some z := by rw [h, e]
end res
/-! ### loops -/
/-- Slots that code writes, as bits. -/
def bitB (m t : Nat) : Bool := Nat.beq ((m >>> t) % 2) 1
def bitS (m t : Nat) : Nat := m ||| (1 <<< t)
def wrO : List Oper → Nat → Nat
  | [], m => m
  | o :: r, m => match o.dst with
    | some d => wrO r (bitS m d)
    | none => wrO r m
def wr : Code → Nat → Nat
  | .region _ ops _, m => wrO ops.toList m
  | .seq a b, m => wr b (wr a m)
  | .cond _ a b, m => wr b (wr a m)
  | .block _ c, m => wr c m
  | .loop c, m => wr c m
  | .scope c, m => wr c m
  | _, m => m
def keepOf : Nat → List (Nat × AV) → List (Nat × AV)
  | _, [] => []
  | m, (t, x) :: r => match bitB m t with
    | true => keepOf m r
    | false => (t, x) :: keepOf (bitS m t) r
theorem bitB_eq (m t : Nat) : bitB m t = m.testBit t := by
  unfold bitB
  rw [Nat.testBit_eq_decide_div_mod_eq, Nat.shiftRight_eq_div_pow]
  cases h : Nat.beq (m / 2 ^ t % 2) 1 with
  | true => exact (decide_eq_true (Nat.eq_of_beq_eq_true h)).symm
  | false => exact (decide_eq_false (Nat.ne_of_beq_eq_false h)).symm
theorem bit_add (m t u : Nat) : bitB (bitS m t) u = (bitB m u || decide (t = u)) := by
  rw [bitB_eq, bitB_eq, bitS, Nat.testBit_or, Nat.one_shiftLeft, Nat.testBit_two_pow]
theorem keep_get : ∀ (env : List (Nat × AV)) (m : Nat), ∀ p ∈ keepOf m env, bitB m p.1 = false ∧ look env p.1 = p.2
  | [], _, p, h => by simp [keepOf] at h
  | (t, x) :: r, m, p, h => by
    simp only [keepOf] at h
    cases hm : bitB m t with
    | true =>
      rw [hm] at h
      obtain ⟨h1, h2⟩ := keep_get r m p h
      refine ⟨h1, ?_⟩
      have hne : t ≠ p.1 := fun e => by rw [← e, hm] at h1; cases h1
      rw [look_cons_ne hne]
      exact h2
    | false =>
      rw [hm] at h
      rcases List.mem_cons.1 h with rfl | h
      · exact ⟨hm, look_cons_eq⟩
      · obtain ⟨h1, h2⟩ := keep_get r _ p h
        rw [bit_add, Bool.or_eq_false_iff] at h1
        refine ⟨h1.1, ?_⟩
        rw [look_cons_ne fun e => by simp [e] at h1]
        exact h2
theorem subE_append {s : St} {a b : List (Nat × AV)} (h : subE s a) (k : subE s b) : subE s (a ++ b) := by
  induction a with
  | nil => exact k
  | cons p r ih => exact ⟨h.1, ih h.2⟩
theorem subE_of {s : St} {a : List (Nat × AV)} (h : ∀ p ∈ a, s.get p.1 = p.2) : subE s a := by
  induction a with
  | nil => trivial
  | cons p r ih => exact ⟨h p List.mem_cons_self, ih fun q hq => h q (List.mem_cons_of_mem _ hq)⟩
theorem subE.lit {s : St} {t : Nat} {a b : Value} {r : List (Nat × AV)} (h : s.get t = .ic (.lit a)) (e : a = b) (k : subE s r) : subE s ((t, .ic (.lit b)) :: r) := ⟨by rw [h, e], k⟩
theorem subE.int {s : St} {t : Nat} {q : IntKind} {a b : Int} {r : List (Nat × AV)} (h : s.get t = .ic (.lit (.int q a))) (e : a = b) (k : subE s r) : subE s ((t, .ic (.lit (.int q b))) :: r) := ⟨by rw [h, e], k⟩
theorem subE.bool {s : St} {t : Nat} {a b : Bool} {r : List (Nat × AV)} (h : s.get t = .ic (.lit (.bool a))) (e : a = b) (k : subE s r) : subE s ((t, .ic (.lit (.bool b))) :: r) := ⟨by rw [h, e], k⟩
theorem subE.str {s : St} {t : Nat} {a b : ByteArray} {r : List (Nat × AV)} (h : s.get t = .ic (.lit (.string a))) (e : a = b) (k : subE s r) : subE s ((t, .ic (.lit (.string b))) :: r) := ⟨by rw [h, e], k⟩
theorem subE.sl {s : St} {t sz : Nat} {ex : Bool} {a b : List (List IC)} {r : List (Nat × AV)} (h : s.get t = .ic (.sl sz ex a)) (e : a = b) (k : subE s r) : subE s ((t, .ic (.sl sz ex b)) :: r) := ⟨by rw [h, e], k⟩
/-- A loop over states x of some type: up x the slots that it turns, stf x the store. -/
theorem AWp.loopU {r : Option Nat} {P : Program} {c : Code} {s : St} {Q : Exit → St → Prop} {σ : Type} (up : σ → List (Nat × AV)) (stf : σ → List AObj) (mu : σ → Nat) (Inv : σ → Prop) (x0 : σ) {keep : List (Nat × AV)} (hk : keepOf (wr c 0) s.env = keep)
    (h0 : Inv x0) (he : subE s (up x0)) (hs : s.st = stf x0)
    (round : ∀ x, Inv x → AWp r P c ⟨s.nt, up x ++ keep, stf x⟩ (Thn (fun s' => ∃ x', Inv x' ∧ mu x' < mu x ∧ s'.nt = s.nt ∧ s'.st = stf x' ∧ subE s' (up x') ∧ subE s' keep) Q)) : AWp r P (.loop c) s Q := by
  subst hk
  refine AWp.loop (fun n s' => ∃ x, Inv x ∧ mu x = n ∧ Sub ⟨s.nt, up x ++ keepOf (wr c 0) s.env, stf x⟩ s') (mu x0) ⟨x0, h0, rfl, Sub.of rfl hs (subE_append he (subE_of fun p hp => (keep_get _ _ p hp).2))⟩ ?_
  rintro n s1 ⟨x, hi, rfl, hsub⟩
  refine AWp.sub hsub ((round x hi).mono ?_)
  intro e s2 h
  cases e with
  | normal =>
    obtain ⟨x', h1, h2, h3, h4, h5, h6⟩ := h
    exact ⟨mu x', h2, x', h1, rfl, Sub.of h3 h4 (subE_append h5 h6)⟩
  | _ => exact h
/-! ### typed data -/
/-- A count as a number. -/
def cN (k : Nat) : Int := k
def encI (z : Int) : List IC := [.lit (.int .i64 z)]
def encB (z : Int) : List IC := [.lit (.int .u8 z)]
def encS (b : ByteArray) : List IC := [.lit (.string b)]
def encK (A : Ar) (l : List Int) : List IC := [.sl 1 false (hid A (List.map encI l))]
abbrev slP (A : Ar) {α : Type} (sz : Nat) (f : α → List IC) (l : List α) : PV := .c (.sl sz false (hid A (List.map f l)))
abbrev intsP (A : Ar) (l : List Int) : PV := slP A 1 encI l
abbrev IP (z : Int) : PV := .c (.lit (.int .i64 z))
abbrev BP (b : Bool) : PV := .c (.lit (.bool b))
end Go.Proofs.Ytpphdaphbkepfaa.Aw
