/- The abstract walk, part 1: immutable data (IC), frame values (AV), a store of the call's own objects, and how they stand for the machine's values and memory; what stays when memory turns. -/
import Derived.WalkKit
import Derived.RangeFuncIn
set_option linter.unusedVariables false
namespace Go.Proofs.Ytpphdaphbkepfaa.Aw
open Go Go.RowKit

/-- Immutable data of one cell: a scalar, or a slice by its elements' cells (ex: its capacity is its length). -/
inductive IC where
  | lit (v : Value)
  | sl (sz : Nat) (ex : Bool) (xs : List (List IC))
  deriving Inhabited

/-- In w the value v stands for x; its blocks are ok. -/
inductive IR (w : World) (ok : Nat → Prop) : IC → Value → Prop where
  | lit (v : Value) (h : v.oneCell' = true) : IR w ok (.lit v) v
  | nil (sz : Nat) (ex : Bool) (A : Option Addr) (c : Nat) (hx : ex = true → c = 0) (hc : c ≤ maxLen) : IR w ok (.sl sz ex []) (.slice A 0 c)
  | sl (sz : Nat) (ex : Bool) (xs : List (List IC)) (b o c : Nat) (val : Nat → Nat → Value) (hb : b < w.heap.size) (hl : xs.length ≤ c) (hc : c ≤ maxLen) (hx : ex = true → c = xs.length)
      (hok : ok b) (hsz : ∀ (j : Nat) (r : List IC), xs[j]? = some r → r.length = sz)
      (hcell : ∀ (j : Nat) (r : List IC) (i : Nat) (x : IC), xs[j]? = some r → r[i]? = some x → w.cell? ((⟨b, o, none⟩ : Addr).add (j * sz + i)) = some (val j i))
      (hin : ∀ (j : Nat) (r : List IC) (i : Nat) (x : IC), xs[j]? = some r → r[i]? = some x → IR w ok x (val j i)) : IR w ok (.sl sz ex xs) (.slice (some ⟨b, o, none⟩) xs.length c)

theorem cell_same {w w' : World} {a : Addr} (h : w'.heap[a.block]? = w.heap[a.block]?) : w'.cell? a = w.cell? a := World.cell?_of_block (w := w) h

theorem add_block (b o n : Nat) : ((⟨b, o, none⟩ : Addr).add n) = ⟨b, o + n, none⟩ := by
  unfold Addr.add
  split
  · simp_all
  · rfl

theorem IR.mono {w w' : World} {ok ok' : Nat → Prop} {x : IC} {v : Value} (h : IR w ok x v) (h1 : ∀ b, b < w.heap.size → ok b → w'.heap[b]? = w.heap[b]?) (h2 : ∀ b, b < w.heap.size → ok b → ok' b)
    (h3 : w.heap.size ≤ w'.heap.size) : IR w' ok' x v := by
  induction h with
  | lit v h => exact .lit v h
  | nil sz ex A c hx hc => exact .nil sz ex A c hx hc
  | sl sz ex xs b o c val hb hl hc hx hok hsz hcell hin ih =>
    refine .sl sz ex xs b o c val (by omega) hl hc hx (h2 b hb hok) hsz (fun j r i x hj hi => ?_) ih
    have := hcell j r i x hj hi
    rw [add_block] at this ⊢
    rw [cell_same (h1 b hb hok)]
    exact this

theorem IR.one {w : World} {ok : Nat → Prop} {x : IC} {v : Value} (h : IR w ok x v) : v.oneCell' = true := by
  cases h with
  | lit v h => exact h
  | nil => rfl
  | sl => rfl

theorem IR.inexact {w : World} {ok : Nat → Prop} {sz : Nat} {ex : Bool} {xs : List (List IC)} {v : Value} (h : IR w ok (.sl sz ex xs) v) : IR w ok (.sl sz false xs) v := by
  cases h with
  | nil _ _ A c hx hc => exact .nil _ _ _ _ (by simp) hc
  | sl _ _ _ b o c val hb hl hc hx hok hsz hcell hin => exact .sl _ _ _ _ _ _ _ hb hl hc (by simp) hok hsz hcell hin

theorem IR.slice {w : World} {ok : Nat → Prop} {sz : Nat} {ex : Bool} {xs : List (List IC)} {v : Value} (h : IR w ok (.sl sz ex xs) v) :
    ∃ A c, v = .slice A xs.length c ∧ xs.length ≤ c ∧ c ≤ maxLen ∧ (ex = true → c = xs.length) := by
  cases h with
  | nil _ _ A c hx hc => exact ⟨A, c, rfl, by simp, hc, hx⟩
  | sl _ _ _ b o c val hb hl hc hx hok hsz hcell hin => exact ⟨_, c, rfl, hl, hc, hx⟩

/-- Cells in line that stand for rows of sz cells each. -/
structure Flat (w : World) (ok : Nat → Prop) (sz : Nat) (xs : List (List IC)) (cs : List Value) : Prop where
  len : cs.length = xs.length * sz
  rows : ∀ (j : Nat) (r : List IC), xs[j]? = some r → r.length = sz
  rel : ∀ (j : Nat) (r : List IC) (k : Nat) (x : IC), xs[j]? = some r → r[k]? = some x → ∃ u, cs[j * sz + k]? = some u ∧ IR w ok x u
  one : ∀ u ∈ cs, u.oneCell' = true

theorem Flat.nil (w : World) (ok : Nat → Prop) (sz : Nat) : Flat w ok sz [] [] := ⟨by simp, by simp, by simp, by simp⟩

theorem Flat.mono {w w' : World} {ok ok' : Nat → Prop} {sz : Nat} {xs : List (List IC)} {cs : List Value} (h : Flat w ok sz xs cs) (h1 : ∀ x v, IR w ok x v → IR w' ok' x v) : Flat w' ok' sz xs cs :=
  ⟨h.len, h.rows, fun j r k x hj hk => let ⟨u, hu, hr⟩ := h.rel j r k x hj hk; ⟨u, hu, h1 _ _ hr⟩, h.one⟩

theorem Flat.append {w : World} {ok : Nat → Prop} {sz : Nat} {xs ys : List (List IC)} {cs ds : List Value} (h : Flat w ok sz xs cs) (k : Flat w ok sz ys ds) : Flat w ok sz (xs ++ ys) (cs ++ ds) where
  len := by rw [List.length_append, h.len, k.len, List.length_append, Nat.add_mul]
  rows := fun j r hj => by
    rcases Nat.lt_or_ge j xs.length with hlt | hge
    · rw [List.getElem?_append_left hlt] at hj; exact h.rows j r hj
    · rw [List.getElem?_append_right hge] at hj; exact k.rows _ r hj
  rel := fun j r q x hj hq => by
    rcases Nat.lt_or_ge j xs.length with hlt | hge
    · rw [List.getElem?_append_left hlt] at hj
      obtain ⟨u, hu, hr⟩ := h.rel j r q x hj hq
      have := (List.getElem?_eq_some_iff.1 hu).1
      exact ⟨u, by rw [List.getElem?_append_left this]; exact hu, hr⟩
    · rw [List.getElem?_append_right hge] at hj
      obtain ⟨u, hu, hr⟩ := k.rel _ r q x hj hq
      refine ⟨u, ?_, hr⟩
      have e : j * sz + q = cs.length + ((j - xs.length) * sz + q) := by
        rw [h.len]
        have : j * sz = xs.length * sz + (j - xs.length) * sz := by rw [← Nat.add_mul]; congr 1; omega
        omega
      rw [e, List.getElem?_append_right (by omega)]
      simpa using hu
  one := fun u hu => by
    rcases List.mem_append.1 hu with hu | hu
    · exact h.one u hu
    · exact k.one u hu

theorem div_lt {q n sz : Nat} (h : q < n * sz) : q / sz < n ∧ q % sz < sz ∧ q / sz * sz + q % sz = q := by
  have hs : 0 < sz := by
    rcases Nat.eq_zero_or_pos sz with e | e
    · subst e; simp at h
    · exact e
  exact ⟨Nat.div_lt_of_lt_mul (by rw [Nat.mul_comm]; exact h), Nat.mod_lt _ hs, by rw [Nat.mul_comm]; exact Nat.div_add_mod q sz⟩

theorem place_lt {j k n sz : Nat} (hj : j < n) (hk : k < sz) : j * sz + k < n * sz := by
  have : (j + 1) * sz ≤ n * sz := Nat.mul_le_mul_right _ hj
  rw [Nat.succ_mul] at this
  omega

/-- A slice's cells, in line. -/
theorem IR.flat {w : World} {ok : Nat → Prop} {sz : Nat} {ex : Bool} {xs : List (List IC)} {v : Value} (h : IR w ok (.sl sz ex xs) v) :
    ∃ A c cs, v = .slice A xs.length c ∧ xs.length ≤ c ∧ c ≤ maxLen ∧ (ex = true → c = xs.length) ∧ Flat w ok sz xs cs ∧ ∀ (j : Nat) (u : Value), cs[j]? = some u → ∃ b o, A = some ⟨b, o, none⟩ ∧ w.cell? ⟨b, o + j, none⟩ = some u := by
  cases h with
  | nil _ _ A c hx hc => exact ⟨A, c, [], rfl, by simp, hc, hx, .nil _ _ _, by simp⟩
  | sl _ _ _ b o c val hb hl hc hx hok hsz hcell hin =>
    have hget : ∀ (q : Nat), q < xs.length * sz → ∃ r x, xs[q / sz]? = some r ∧ r[q % sz]? = some x := fun q hq => by
      obtain ⟨h1, h2, _⟩ := div_lt hq
      have hr := hsz _ _ (List.getElem?_eq_getElem h1)
      exact ⟨_, _, List.getElem?_eq_getElem h1, List.getElem?_eq_getElem (by omega)⟩
    have hcs : ∀ (q : Nat) (u : Value), ((List.range (xs.length * sz)).map fun q => val (q / sz) (q % sz))[q]? = some u → q < xs.length * sz ∧ u = val (q / sz) (q % sz) := fun q u hq => by
      rw [List.getElem?_map] at hq
      simp only [Option.map_eq_some_iff] at hq
      obtain ⟨p, hp, rfl⟩ := hq
      obtain ⟨h1, h2⟩ := List.getElem?_eq_some_iff.1 hp
      simp at h1 h2
      subst h2
      exact ⟨h1, rfl⟩
    refine ⟨_, c, (List.range (xs.length * sz)).map fun q => val (q / sz) (q % sz), rfl, hl, hc, hx, ⟨by simp, hsz, fun j r k x hj hk => ?_, fun u hu => ?_⟩, fun j u hj => ?_⟩
    · have h1 := (List.getElem?_eq_some_iff.1 hj).1
      have h2 : k < sz := by have := (List.getElem?_eq_some_iff.1 hk).1; have := hsz _ _ hj; omega
      have hp := place_lt h1 h2
      have e1 : (j * sz + k) / sz = j := by rw [Nat.mul_comm, Nat.mul_add_div (by omega), Nat.div_eq_of_lt h2]; rfl
      have e2 : (j * sz + k) % sz = k := by rw [Nat.mul_comm, Nat.mul_add_mod, Nat.mod_eq_of_lt h2]
      refine ⟨val j k, ?_, hin j r k x hj hk⟩
      rw [List.getElem?_map, List.getElem?_range hp]
      simp [e1, e2]
    · obtain ⟨q, hq, e⟩ := List.mem_map.1 hu
      rw [List.mem_range] at hq
      obtain ⟨r, x, hr, hx⟩ := hget q hq
      rw [← e]
      exact (hin _ _ _ _ hr hx).one
    · obtain ⟨hq, rfl⟩ := hcs j u hj
      obtain ⟨r, x, hr, hx⟩ := hget j hq
      have := hcell _ _ _ _ hr hx
      rw [add_block, (div_lt hq).2.2] at this
      exact ⟨b, o, rfl, this⟩

/-- Cells in a block, read as a slice. -/
theorem Flat.ir {w : World} {ok : Nat → Prop} {sz : Nat} {xs : List (List IC)} {cs : List Value} (h : Flat w ok sz xs cs) (ex : Bool) (b o c : Nat) (hb : b < w.heap.size) (hok : ok b) (hl : xs.length ≤ c) (hc : c ≤ maxLen) (hx : ex = true → c = xs.length)
    (hcell : ∀ (j : Nat) (u : Value), cs[j]? = some u → w.cell? ⟨b, o + j, none⟩ = some u) : IR w ok (.sl sz ex xs) (.slice (some ⟨b, o, none⟩) xs.length c) := by
  refine .sl sz ex xs b o c (fun j k => cs.getD (j * sz + k) undef) hb hl hc hx hok h.rows (fun j r k x hj hk => ?_) (fun j r k x hj hk => ?_)
  · obtain ⟨u, hu, hr⟩ := h.rel j r k x hj hk
    rw [add_block, List.getD_eq_getElem?_getD, hu]
    exact hcell _ _ hu
  · obtain ⟨u, hu, hr⟩ := h.rel j r k x hj hk
    rw [List.getD_eq_getElem?_getD, hu]
    exact hr

/-- What a frame's slot holds. any: nothing is known. own: the row of the store with that number, in that version. ptr: a variable of the store, and a cell of it. -/
inductive AV where
  | any
  | ic (x : IC)
  | own (i ver : Nat)
  | ptr (i off : Nat)
  | «at» (cs : List IC)
  | rat (i ver j off : Nat)
  | fn (f : Fn) (first cap : List AV)
  | agg (xs : List AV)
  | tup (xs : List AV)
  | yl (i : Nat)
  deriving Inhabited

/-- A loop's record: a range over a function. -/
structure RC where
  state : LoopState
  pend : Option Code
  ps : Array Tmp
  asn : Code
  body : Code
  nt : Nat
  env : List (Nat × AV)

/-- An object of the call's own. mu: it may be written. -/
inductive AObj where
  | dead
  | var (mu : Bool) (t : TypeId) (cs : List AV)
  | row (mu : Bool) (ver : Nat) (e : TypeId) (sz : Nat) (xs : List (List IC))
  | lp (c : RC)
  deriving Inhabited

def AObj.mu : AObj → Bool
  | .dead => false
  | .var m _ _ => m
  | .row m _ _ _ _ => m
  | .lp _ => true

def AObj.live : AObj → Bool
  | .dead => false
  | _ => true

/-- The block of a value that stands for an object. -/
def gb : Value → Option Nat
  | .pointer (some a) => some a.block
  | .slice (some a) _ _ => some a.block
  | _ => none

abbrev Ghost := Nat → Value

/-- Block b is one that the call may write. -/
def Own (s : List AObj) (g : Ghost) (b : Nat) : Prop := ∃ i o, s[i]? = some o ∧ o.mu = true ∧ gb (g i) = some b

def Good (G : Nat → Prop) (s : List AObj) (g : Ghost) (b : Nat) : Prop := G b ∧ ¬ Own s g b

inductive AR (G : Nat → Prop) (s : List AObj) (g : Ghost) (w : World) : AV → Value → Prop where
  | any (v : Value) : AR G s g w .any v
  | ic (x : IC) (v : Value) (h : IR w (Good G s g) x v) : AR G s g w (.ic x) v
  | own (i ver : Nat) (v : Value) (hi : i < s.length) (hv : ∀ m v' e sz xs, s[i]? = some (.row m v' e sz xs) → ver ≤ v' ∧ (ver = v' → v = g i)) (h1 : v.oneCell' = true) : AR G s g w (.own i ver) v
  | ptr (i off : Nat) (v : Value) (hi : i < s.length) (hv : ∀ m t cs, s[i]? = some (.var m t cs) → ∃ b, g i = .pointer (some ⟨b, 0, none⟩) ∧ v = .pointer (some ⟨b, off, none⟩)) (h1 : v.oneCell' = true) : AR G s g w (.ptr i off) v
  | «at» (cs : List IC) (b o : Nat) (val : Nat → Value) (hb : b < w.heap.size) (hok : Good G s g b) (hcell : ∀ (k : Nat) (x : IC), cs[k]? = some x → w.cell? ⟨b, o + k, none⟩ = some (val k))
      (hin : ∀ (k : Nat) (x : IC), cs[k]? = some x → IR w (Good G s g) x (val k)) : AR G s g w (.«at» cs) (.pointer (some ⟨b, o, none⟩))
  | rat (i ver j off : Nat) (v : Value) (hi : i < s.length)
      (hv : ∀ m v' e sz xs, s[i]? = some (.row m v' e sz xs) → ver ≤ v' ∧ (ver = v' → ∃ b, gb (g i) = some b ∧ v = .pointer (some ⟨b, j * sz + off, none⟩))) (h1 : v.oneCell' = true) : AR G s g w (.rat i ver j off) v
  | fn (f : Fn) (first cap : List AV) (vf vc : Array Value) (h1 : vf.size = first.length) (h2 : vc.size = cap.length)
      (h3 : ∀ (k : Nat) (x : AV), first[k]? = some x → AR G s g w x (vf.getD k undef)) (h4 : ∀ (k : Nat) (x : AV), cap[k]? = some x → AR G s g w x (vc.getD k undef)) : AR G s g w (.fn f first cap) (.func f vf vc)
  | agg (xs : List AV) (vs : Array Value) (h1 : vs.size = xs.length) (h2 : ∀ (k : Nat) (x : AV), xs[k]? = some x → AR G s g w x (vs.getD k undef)) (h3 : ∀ u ∈ vs, u.oneCell' = true) : AR G s g w (.agg xs) (.agg vs)
  | tup (xs : List AV) (vs : Array Value) (h1 : vs.size = xs.length) (h2 : ∀ (k : Nat) (x : AV), xs[k]? = some x → AR G s g w x (vs.getD k undef)) : AR G s g w (.tup xs) (.tuple vs)
  | yl (i : Nat) (v : Value) (hi : i < s.length) (hv : ∀ c, s[i]? = some (.lp c) → ∃ b, g i = .pointer (some ⟨b, 0, none⟩) ∧ v = .func (.yield b) #[] #[]) (h1 : v.oneCell' = true) : AR G s g w (.yl i) v

def look : List (Nat × AV) → Nat → AV
  | [], _ => .any
  | (k, x) :: r, t => bif Nat.beq k t then x else look r t


/-- What an object is in memory. -/
def OR (G : Nat → Prop) (s : List AObj) (g : Ghost) (w : World) (i : Nat) : AObj → Prop
  | .dead => True
  | .var _ t cs => ∃ b vs, g i = .pointer (some ⟨b, 0, none⟩) ∧ G b ∧ w.heap[b]? = some (.cells vs t (0, 0)) ∧ vs.size = cs.length ∧ (∀ u ∈ vs, u.oneCell' = true) ∧
      ∀ (k : Nat) (x : AV), cs[k]? = some x → AR G s g w x (vs.getD k undef)
  | .row _ _ e sz xs => ∃ cells, w.ownsRow 0 e sz (g i) xs.length cells ∧ (∀ b, gb (g i) = some b → G b) ∧ Flat w (Good G s g) sz xs cells
  | .lp c => ∃ b r, g i = .pointer (some ⟨b, 0, none⟩) ∧ G b ∧ w.heap[b]? = some (.loop r) ∧ r.state = c.state ∧ r.pending = c.pend ∧ r.params = c.ps ∧ r.assign = c.asn ∧ r.body = c.body ∧ r.tmps.size = c.nt ∧
    ∀ t, AR G s g w (look c.env t) (r.tmps.getD t undef)

structure SR (G : Nat → Prop) (s : List AObj) (g : Ghost) (w : World) : Prop where
  obj : ∀ i o, s[i]? = some o → OR G s g w i o
  inj : ∀ i j o o' b, s[i]? = some o → s[j]? = some o' → o.live = true → o'.live = true → gb (g i) = some b → gb (g j) = some b → i = j
  new : ∀ b, w.heap.size ≤ b → G b

/-- From one state to a later one. -/
structure Evo (s : List AObj) (g : Ghost) (w : World) (s' : List AObj) (g' : Ghost) (w' : World) : Prop where
  os : w'.os = w.os
  tape : w'.tape = w.tape
  output : w'.output = w.output
  size : w.heap.size ≤ w'.heap.size
  heap : ∀ b, b < w.heap.size → ¬ Own s g b → w'.heap[b]? = w.heap[b]?
  own : ∀ b, b < w.heap.size → Own s' g' b → Own s g b
  len : s.length ≤ s'.length
  var : ∀ i m t cs, i < s.length → s'[i]? = some (.var m t cs) → (∃ m0 cs0, s[i]? = some (.var m0 t cs0)) ∧ g' i = g i
  row : ∀ i m ver e sz xs, i < s.length → s'[i]? = some (.row m ver e sz xs) → ∃ m0 ver0 xs0, s[i]? = some (.row m0 ver0 e sz xs0) ∧ ver0 ≤ ver ∧ (ver0 = ver → g' i = g i)
  lp : ∀ i c, i < s.length → s'[i]? = some (.lp c) → (∃ c0, s[i]? = some (.lp c0)) ∧ g' i = g i

theorem Evo.refl (s : List AObj) (g : Ghost) (w : World) : Evo s g w s g w :=
  ⟨rfl, rfl, rfl, Nat.le_refl _, fun _ _ _ => rfl, fun _ _ h => h, Nat.le_refl _, fun i m t cs _ h => ⟨⟨m, cs, h⟩, rfl⟩, fun i m ver e sz xs _ h => ⟨m, ver, xs, h, Nat.le_refl _, fun _ => rfl⟩, fun i c _ h => ⟨⟨c, h⟩, rfl⟩⟩

theorem Evo.trans {s s1 s2 : List AObj} {g g1 g2 : Ghost} {w w1 w2 : World} (h : Evo s g w s1 g1 w1) (k : Evo s1 g1 w1 s2 g2 w2) : Evo s g w s2 g2 w2 where
  os := k.os.trans h.os
  tape := k.tape.trans h.tape
  output := k.output.trans h.output
  size := Nat.le_trans h.size k.size
  heap := fun b hb hn => (k.heap b (Nat.lt_of_lt_of_le hb h.size) (fun ho => hn (h.own b hb ho))).trans (h.heap b hb hn)
  own := fun b hb ho => h.own b hb (k.own b (Nat.lt_of_lt_of_le hb h.size) ho)
  len := Nat.le_trans h.len k.len
  var := fun i m t cs hi hv => by
    obtain ⟨⟨m1, cs1, h1⟩, hg⟩ := k.var i m t cs (Nat.lt_of_lt_of_le hi h.len) hv
    obtain ⟨h0, hg0⟩ := h.var i m1 t cs1 hi h1
    exact ⟨h0, hg.trans hg0⟩
  row := fun i m ver e sz xs hi hv => by
    obtain ⟨m1, v1, x1, h1, hle, hg⟩ := k.row i m ver e sz xs (Nat.lt_of_lt_of_le hi h.len) hv
    obtain ⟨m0, v0, x0, h0, hle0, hg0⟩ := h.row i m1 v1 e sz x1 hi h1
    refine ⟨m0, v0, x0, h0, Nat.le_trans hle0 hle, fun e => ?_⟩
    have : v0 = v1 := by omega
    exact (hg (by omega)).trans (hg0 this)
  lp := fun i c hi hv => by
    obtain ⟨⟨c1, h1⟩, hg⟩ := k.lp i c (Nat.lt_of_lt_of_le hi h.len) hv
    obtain ⟨h0, hg0⟩ := h.lp i c1 hi h1
    exact ⟨h0, hg.trans hg0⟩

theorem IR.evo {G : Nat → Prop} {s s' : List AObj} {g g' : Ghost} {w w' : World} {x : IC} {v : Value} (h : IR w (Good G s g) x v) (k : Evo s g w s' g' w') : IR w' (Good G s' g') x v :=
  h.mono (fun b hb ho => k.heap b hb ho.2) (fun b hb ho => ⟨ho.1, fun hn => ho.2 (k.own b hb hn)⟩) k.size

theorem AR.evo {G : Nat → Prop} {s s' : List AObj} {g g' : Ghost} {w w' : World} {x : AV} {v : Value} (h : AR G s g w x v) (k : Evo s g w s' g' w') : AR G s' g' w' x v := by
  induction h with
  | any v => exact .any v
  | ic x v h => exact .ic x v (h.evo k)
  | own i ver v hi hv h1 =>
    refine .own i ver v (Nat.lt_of_lt_of_le hi k.len) (fun m v' e sz xs hs => ?_) h1
    obtain ⟨m0, v0, x0, h0, hle, hg⟩ := k.row i m v' e sz xs hi hs
    obtain ⟨a, b⟩ := hv _ _ _ _ _ h0
    exact ⟨by omega, fun e => (b (by omega)).trans (hg (by omega)).symm⟩
  | ptr i off v hi hv h1 =>
    refine .ptr i off v (Nat.lt_of_lt_of_le hi k.len) (fun m t cs hs => ?_) h1
    obtain ⟨⟨m0, c0, h0⟩, hg⟩ := k.var i m t cs hi hs
    obtain ⟨b, e1, e2⟩ := hv _ _ _ h0
    exact ⟨b, hg.trans e1, e2⟩
  | «at» cs b o val hb hok hcell hin =>
    refine .«at» cs b o val (Nat.lt_of_lt_of_le hb k.size) ⟨hok.1, fun hn => hok.2 (k.own b hb hn)⟩ (fun j x hj => ?_) (fun j x hj => (hin j x hj).evo k)
    rw [cell_same (k.heap b hb hok.2)]
    exact hcell j x hj
  | rat i ver j off v hi hv h1 =>
    refine .rat i ver j off v (Nat.lt_of_lt_of_le hi k.len) (fun m v' e sz xs hs => ?_) h1
    obtain ⟨m0, v0, x0, h0, hle, hg⟩ := k.row i m v' e sz xs hi hs
    obtain ⟨a, b⟩ := hv _ _ _ _ _ h0
    refine ⟨by omega, fun e => ?_⟩
    obtain ⟨b', h1, h2⟩ := b (by omega)
    exact ⟨b', by rw [hg (by omega)]; exact h1, h2⟩
  | fn f first cap vf vc h1 h2 h3 h4 ih3 ih4 => exact .fn f first cap vf vc h1 h2 ih3 ih4
  | agg xs vs h1 h2 h3 ih => exact .agg xs vs h1 ih h3
  | tup xs vs h1 h2 ih => exact .tup xs vs h1 ih
  | yl i v hi hv h1 =>
    refine .yl i v (Nat.lt_of_lt_of_le hi k.len) (fun c hs => ?_) h1
    obtain ⟨⟨c0, h0⟩, hg⟩ := k.lp i c hi hs
    obtain ⟨b, e1, e2⟩ := hv _ h0
    exact ⟨b, hg.trans e1, e2⟩

/-! ### a frame's state -/

structure St where
  nt : Nat
  env : List (Nat × AV)
  st : List AObj

def St.get (s : St) (t : Nat) : AV := look s.env t
def St.put (s : St) (d : Nat) (x : AV) : St := { s with env := (d, x) :: s.env }

def nilc : Value → AV
  | .slice none n c => bif Nat.beq n 0 && Nat.beq c 0 then .ic (.sl 0 true []) else .any
  | .func f vf vc => bif vf.isEmpty && vc.isEmpty then .fn f [] [] else .any
  | .agg _ => .any
  | .tuple _ => .any
  | v => .ic (.lit v)

def St.ev (s : St) : Operand → AV
  | .tmp t => s.get t
  | .const v => nilc v
  | .global _ => .any
  | .func f => .fn (.func f) [] []

structure Rel (G : Nat → Prop) (s : St) (g : Ghost) (w : World) (a : Act) : Prop where
  slots : ∀ t, AR G s.st g w (s.get t) (a.tmps.getD t undef)
  size : a.tmps.size = s.nt
  sr : SR G s.st g w

theorem AR.nilc {G : Nat → Prop} {s : List AObj} {g : Ghost} {w : World} (v : Value) : AR G s g w (nilc v) v := by
  cases v with
  | slice a n c =>
    cases a with
    | some a => exact .ic _ _ (.lit _ rfl)
    | none =>
      cases hn : (Nat.beq n 0 && Nat.beq c 0) with
      | false => simp only [Aw.nilc, hn, cond_false]; exact .any _
      | true =>
        simp only [Aw.nilc, hn, cond_true]
        simp only [Bool.and_eq_true] at hn
        obtain rfl := Nat.eq_of_beq_eq_true hn.1
        obtain rfl := Nat.eq_of_beq_eq_true hn.2
        exact .ic _ _ (.nil 0 true none 0 (fun _ => rfl) (by simp [maxLen]))
  | func f vf vc =>
    cases hn : (vf.isEmpty && vc.isEmpty) with
    | false => simp only [Aw.nilc, hn, cond_false]; exact .any _
    | true =>
      simp only [Aw.nilc, hn, cond_true]
      simp only [Bool.and_eq_true, Array.isEmpty_iff] at hn
      obtain ⟨rfl, rfl⟩ := hn
      exact .fn _ _ _ _ _ rfl rfl (by simp) (by simp)
  | agg _ => exact .any _
  | tuple _ => exact .any _
  | _ => exact .ic _ _ (.lit _ rfl)

theorem Rel.ev {G : Nat → Prop} {s : St} {g : Ghost} {w : World} {a : Act} (h : Rel G s g w a) (x : Operand) : AR G s.st g w (s.ev x) (a.eval x) := by
  cases x with
  | tmp t => exact h.slots t
  | const v => exact .nilc v
  | global n => exact .any _
  | func f => exact .fn _ _ _ _ _ rfl rfl (by simp) (by simp)

theorem getD_set (ts : Array Value) (d t : Nat) (v u : Value) (hd : d < ts.size) : (ts.setIfInBounds d v).getD t u = if d = t then v else ts.getD t u := by
  by_cases h : d = t
  · subst h
    simp [Array.getD, hd]
  · rw [if_neg h]
    simp only [Array.getD_eq_getD_getElem?]
    rw [Array.getElem?_setIfInBounds_ne h]

/-- A step that leaves a value in slot d. -/
theorem Rel.put {G : Nat → Prop} {s : St} {g g' : Ghost} {w w' : World} {a : Act} {st' : List AObj} {x : AV} {v : Value} (h : Rel G s g w a) (d : Nat) (hd : d < s.nt) (k : Evo s.st g w st' g' w') (hs : SR G st' g' w')
    (hx : AR G st' g' w' x v) : Rel G { s with env := (d, x) :: s.env, st := st' } g' w' (a.put (some d) v) where
  slots := fun t => by
    show AR G st' g' w' (bif Nat.beq d t then x else look s.env t) ((a.tmps.setIfInBounds d v).getD t undef)
    rw [getD_set _ _ _ _ _ (by rw [h.size]; exact hd)]
    by_cases e : d = t
    · subst e
      simpa using hx
    · have : Nat.beq d t = false := by
        cases hb : Nat.beq d t with
        | false => rfl
        | true => exact absurd (Nat.eq_of_beq_eq_true hb) e
      rw [this, if_neg e]
      exact (h.slots t).evo k
  size := by simp [Act.put, h.size]
  sr := hs

theorem Rel.nop {G : Nat → Prop} {s : St} {g g' : Ghost} {w w' : World} {a : Act} {st' : List AObj} (h : Rel G s g w a) (k : Evo s.st g w st' g' w') (hs : SR G st' g' w') : Rel G { s with st := st' } g' w' a :=
  ⟨fun t => (h.slots t).evo k, h.size, hs⟩

theorem SR.drew {G : Nat → Prop} {s : List AObj} {g : Ghost} {w : World} (h : SR G s g w) : SR G s g w := h


theorem AR.one {G : Nat → Prop} {s : List AObj} {g : Ghost} {w : World} {x : AV} {v : Value} (h : AR G s g w x v) (hx : (match x with | .any | .agg _ | .tup _ => false | _ => true) = true) : v.oneCell' = true := by
  cases h with
  | ic x v h => exact h.one
  | own i ver v hi hv h1 => exact h1
  | ptr i off v hi hv h1 => exact h1
  | «at» => rfl
  | rat i ver j off v hi hv h1 => exact h1
  | fn => rfl
  | yl i v hi hv h1 => exact h1
  | any => simp at hx
  | agg => simp at hx
  | tup => simp at hx

/-- An object that nobody turned. -/
theorem OR.evo {G : Nat → Prop} {s s' : List AObj} {g g' : Ghost} {w w' : World} {i : Nat} {o : AObj} (h : OR G s g w i o) (k : Evo s g w s' g' w') (hg : g' i = g i)
    (hb : ∀ b, gb (g i) = some b → w'.heap[b]? = w.heap[b]?) : OR G s' g' w' i o := by
  cases o with
  | dead => trivial
  | var m t cs =>
    obtain ⟨b, vs, h1, h2, h3, h4, h5, h6⟩ := h
    exact ⟨b, vs, hg.trans h1, h2, (hb b (by rw [h1]; rfl)).trans h3, h4, h5, fun j x hj => (h6 j x hj).evo k⟩
  | row m ver e sz xs =>
    obtain ⟨cells, h1, h2, h3⟩ := h
    refine ⟨cells, ?_, fun b hb' => h2 b (by rw [← hg]; exact hb'), h3.mono fun x v hr => hr.evo k⟩
    · rw [hg]
      obtain ⟨hl, h1⟩ := h1
      refine ⟨hl, ?_⟩
      rcases h1 with h1 | ⟨g0, cap, cur, e1, e2, e3, r⟩
      · exact .inl h1
      · exact .inr ⟨g0, cap, cur, e1, e2, (hb g0 (by rw [e1]; rfl)).trans e3, r⟩
  | lp c =>
    obtain ⟨b, r, h1, h2, h3, e1, e2, e3, e4, e5, e6, h4⟩ := h
    exact ⟨b, r, hg.trans h1, h2, (hb b (by rw [h1]; rfl)).trans h3, e1, e2, e3, e4, e5, e6, fun t => (h4 t).evo k⟩

theorem OR.lt {G : Nat → Prop} {s : List AObj} {g : Ghost} {w : World} {i : Nat} {o : AObj} (h : OR G s g w i o) (hl : o.live = true) {b : Nat} (hb : gb (g i) = some b) : b < w.heap.size := by
  cases o with
  | dead => simp [AObj.live] at hl
  | var m t cs =>
    obtain ⟨b', vs, h1, h2, h3, _⟩ := h
    rw [h1] at hb
    obtain rfl : b' = b := by simpa [gb] using hb
    exact (Array.getElem?_eq_some_iff.1 h3).1
  | row m ver e sz xs =>
    obtain ⟨cells, ⟨hl, h1⟩, h2, _⟩ := h
    rcases h1 with ⟨h1, _⟩ | ⟨g0, cap, cur, e1, e2, e3, r⟩
    · rw [h1] at hb
      simp [gb] at hb
    · rw [e1] at hb
      obtain rfl : g0 = b := by simpa [gb] using hb
      exact (Array.getElem?_eq_some_iff.1 e3).1
  | lp c =>
    obtain ⟨b', r, h1, h2, h3, _⟩ := h
    rw [h1] at hb
    obtain rfl : b' = b := by simpa [gb] using hb
    exact (Array.getElem?_eq_some_iff.1 h3).1

theorem Own.lt {G : Nat → Prop} {s : List AObj} {g : Ghost} {w : World} (h : SR G s g w) {b : Nat} (hb : Own s g b) : b < w.heap.size := by
  obtain ⟨i, o, hi, hm, hg⟩ := hb
  refine (h.obj i o hi).lt ?_ hg
  cases o <;> simp_all [AObj.mu, AObj.live]

/-- A new object in the ghost. -/
def gput (g : Ghost) (n : Nat) (v : Value) : Ghost := fun j => if j = n then v else g j
theorem gput_old (g : Ghost) (n : Nat) (v : Value) (i : Nat) (h : i < n) : gput g n v i = g i := by unfold gput; rw [if_neg (by omega)]
theorem gput_new (g : Ghost) (n : Nat) (v : Value) : gput g n v n = v := by unfold gput; rw [if_pos rfl]

/-- The world has grown; nothing old has turned; an object is added (or none of a block that is there). -/
theorem Evo.push {s : List AObj} {g : Ghost} {w w' : World} (o : AObj) (v : Value) (h1 : w'.os = w.os) (h2 : w'.tape = w.tape) (h3 : w'.output = w.output) (h4 : w.heap.size ≤ w'.heap.size)
    (h5 : ∀ b, b < w.heap.size → w'.heap[b]? = w.heap[b]?) (hv : ∀ b, gb v = some b → w.heap.size ≤ b) : Evo s g w (s ++ [o]) (gput g s.length v) w' where
  os := h1
  tape := h2
  output := h3
  size := h4
  heap := fun b hb _ => h5 b hb
  own := fun b hb ⟨i, o', hi, hm, hg⟩ => by
    by_cases e : i < s.length
    · rw [List.getElem?_append_left e] at hi
      rw [gput_old _ _ _ _ e] at hg
      exact ⟨i, o', hi, hm, hg⟩
    · have : i = s.length := by
        have := (List.getElem?_eq_some_iff.1 hi).1
        simp at this
        omega
      subst this
      rw [gput_new] at hg
      have := hv b hg
      omega
  len := by simp
  var := fun i m t cs hi hs => by
    rw [List.getElem?_append_left hi] at hs
    exact ⟨⟨m, cs, hs⟩, gput_old _ _ _ _ hi⟩
  row := fun i m ver e sz xs hi hs => by
    rw [List.getElem?_append_left hi] at hs
    exact ⟨m, ver, xs, hs, Nat.le_refl _, fun _ => gput_old _ _ _ _ hi⟩
  lp := fun i c hi hs => by
    rw [List.getElem?_append_left hi] at hs
    exact ⟨⟨c, hs⟩, gput_old _ _ _ _ hi⟩

theorem SR.push {G : Nat → Prop} {s : List AObj} {g : Ghost} {w w' : World} (h : SR G s g w) (o : AObj) (v : Value) (k : Evo s g w (s ++ [o]) (gput g s.length v) w')
    (h5 : ∀ b, b < w.heap.size → w'.heap[b]? = w.heap[b]?) (hv : ∀ b, gb v = some b → w.heap.size ≤ b) (ho : OR G (s ++ [o]) (gput g s.length v) w' s.length o) : SR G (s ++ [o]) (gput g s.length v) w' where
  obj := fun i o' hi => by
    by_cases e : i < s.length
    · rw [List.getElem?_append_left e] at hi
      by_cases hl : o'.live = true
      · exact (h.obj i o' hi).evo k (gput_old _ _ _ _ e) (fun b hb => h5 b ((h.obj i o' hi).lt hl hb))
      · cases o' <;> simp_all [AObj.live]
        trivial
    · have : i = s.length := by
        have := (List.getElem?_eq_some_iff.1 hi).1
        simp at this
        omega
      subst this
      rw [List.getElem?_append_right (Nat.le_refl _)] at hi
      obtain rfl : o = o' := by simpa using hi
      exact ho
  inj := fun i j o1 o2 b hi hj l1 l2 b1 b2 => by
    have old : ∀ i o1, (s ++ [o])[i]? = some o1 → o1.live = true → gb (gput g s.length v i) = some b → (i < s.length ∧ s[i]? = some o1 ∧ gb (g i) = some b ∧ b < w.heap.size) ∨ (i = s.length ∧ w.heap.size ≤ b) := by
      intro i o1 hi l1 b1
      by_cases e : i < s.length
      · rw [List.getElem?_append_left e] at hi
        rw [gput_old _ _ _ _ e] at b1
        exact .inl ⟨e, hi, b1, (h.obj i o1 hi).lt l1 b1⟩
      · have : i = s.length := by
          have := (List.getElem?_eq_some_iff.1 hi).1
          simp at this
          omega
        subst this
        rw [gput_new] at b1
        exact .inr ⟨rfl, hv b b1⟩
    rcases old i o1 hi l1 b1 with ⟨a1, a2, a3, a4⟩ | ⟨a1, a2⟩ <;> rcases old j o2 hj l2 b2 with ⟨c1, c2, c3, c4⟩ | ⟨c1, c2⟩
    · exact h.inj i j o1 o2 b a2 c2 l1 l2 a3 c3
    · omega
    · omega
    · omega
  new := fun b hb => h.new b (Nat.le_trans k.size hb)

end Go.Proofs.Ytpphdaphbkepfaa.Aw
