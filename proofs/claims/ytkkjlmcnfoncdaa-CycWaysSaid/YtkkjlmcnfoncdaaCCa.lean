/- Texts of the proof, put together: the abstract walk, contracts of the functions that the statement reaches, plain laws, part 1 of 5. -/
import Derived.WalkKit
import Derived.RangeFuncIn
import Derived.Deep.MidRow
import Derived.Maps.AppendAt
import Derived.Laws.CopyOwn
import Derived.Deep.AppendSrc
import Derived.OrdersIn
import Derived.RangeFuncLeaves
import Derived.RangeFuncRecord
set_option linter.unusedVariables false
set_option linter.unusedSimpArgs false
set_option linter.unusedSectionVars false
namespace Go.Proofs.Ytkkjlmcnfoncdaa.Aw
open Go Go.RowKit
inductive IC where
  | lit (v : Value)
  | sl (sz : Nat) (ex : Bool) (xs : List (List IC))
  | mp (es : List (Value × Value))
  deriving Inhabited
inductive IR (w : World) (ok : Nat → Prop) : IC → Value → Prop where
  | lit (v : Value) (h : v.oneCell' = true) : IR w ok (.lit v) v
  | nil (sz : Nat) (ex : Bool) (A : Option Addr) (c : Nat) (hx : ex = true → c = 0) (hc : c ≤ maxLen) : IR w ok (.sl sz ex []) (.slice A 0 c)
  | sl (sz : Nat) (ex : Bool) (xs : List (List IC)) (b o c : Nat) (val : Nat → Nat → Value) (hb : b < w.heap.size) (hl : xs.length ≤ c) (hc : c ≤ maxLen) (hx : ex = true → c = xs.length)
      (hok : ok b) (hsz : ∀ (j : Nat) (r : List IC), xs[j]? = some r → r.length = sz)
      (hcell : ∀ (j : Nat) (r : List IC) (i : Nat) (x : IC), xs[j]? = some r → r[i]? = some x → w.cell? ((⟨b, o, none⟩ : Addr).add (j * sz + i)) = some (val j i))
      (hin : ∀ (j : Nat) (r : List IC) (i : Nat) (x : IC), xs[j]? = some r → r[i]? = some x → IR w ok x (val j i)) : IR w ok (.sl sz ex xs) (.slice (some ⟨b, o, none⟩) xs.length c)
  | mp (es : List (Value × Value)) (b : Nat) (ents : Array MapEntry) (clk : Nat) (hb : b < w.heap.size) (hok : ok b) (hh : w.heap[b]? = some (.map ents clk)) (he : ents.toList.map (fun e => (e.key, e.val)) = es) : IR w ok (.mp es) (.map (some b))
theorem cell_same {w w' : World} {a : Addr} (h : w'.heap[a.block]? = w.heap[a.block]?) : w'.cell? a = w.cell? a := World.cell?_of_block (w := w) h
theorem add_block (b o n : Nat) : ((⟨b, o, none⟩ : Addr).add n) = ⟨b, o + n, none⟩ := by
  unfold Addr.add
  split
  · simp_all
  · rfl
theorem IR.mono {w w' : World} {ok ok' : Nat → Prop} {x : IC} {v : Value} (h : IR w ok x v) (h1 : ∀ b, b < w.heap.size → ok b → w'.heap[b]? = w.heap[b]?) (h2 : ∀ b, b < w.heap.size → ok b → ok' b)
    (h3 : w.heap.size ≤ w'.heap.size) : IR w' ok' x v := by
  induction h with
  | lit v h => exact .lit v h
  | nil sz ex A c hx hc => exact .nil sz ex A c hx hc
  | sl sz ex xs b o c val hb hl hc hx hok hsz hcell hin ih =>
    refine .sl sz ex xs b o c val (by omega) hl hc hx (h2 b hb hok) hsz (fun j r i x hj hi => ?_) ih
    have := hcell j r i x hj hi
    rw [add_block] at this ⊢
    rw [cell_same (h1 b hb hok)]
    exact this
  | mp es b ents clk hb hok hh he => exact .mp es b ents clk (by omega) (h2 b hb hok) ((h1 b hb hok).trans hh) he
theorem IR.one {w : World} {ok : Nat → Prop} {x : IC} {v : Value} (h : IR w ok x v) : v.oneCell' = true := by
  cases h with
  | lit v h => exact h
  | nil => rfl
  | sl => rfl
  | mp => rfl
theorem IR.inexact {w : World} {ok : Nat → Prop} {sz : Nat} {ex : Bool} {xs : List (List IC)} {v : Value} (h : IR w ok (.sl sz ex xs) v) : IR w ok (.sl sz false xs) v := by
  cases h with
  | nil _ _ A c hx hc => exact .nil _ _ _ _ (by simp) hc
  | sl _ _ _ b o c val hb hl hc hx hok hsz hcell hin => exact .sl _ _ _ _ _ _ _ hb hl hc (by simp) hok hsz hcell hin
theorem IR.slice {w : World} {ok : Nat → Prop} {sz : Nat} {ex : Bool} {xs : List (List IC)} {v : Value} (h : IR w ok (.sl sz ex xs) v) :
    ∃ A c, v = .slice A xs.length c ∧ xs.length ≤ c ∧ c ≤ maxLen ∧ (ex = true → c = xs.length) := by
  cases h with
  | nil _ _ A c hx hc => exact ⟨A, c, rfl, by simp, hc, hx⟩
  | sl _ _ _ b o c val hb hl hc hx hok hsz hcell hin => exact ⟨_, c, rfl, hl, hc, hx⟩
structure Flat (w : World) (ok : Nat → Prop) (sz : Nat) (xs : List (List IC)) (cs : List Value) : Prop where
  len : cs.length = xs.length * sz
  rows : ∀ (j : Nat) (r : List IC), xs[j]? = some r → r.length = sz
  rel : ∀ (j : Nat) (r : List IC) (k : Nat) (x : IC), xs[j]? = some r → r[k]? = some x → ∃ u, cs[j * sz + k]? = some u ∧ IR w ok x u
  one : ∀ u ∈ cs, u.oneCell' = true
theorem Flat.nil (w : World) (ok : Nat → Prop) (sz : Nat) : Flat w ok sz [] [] := ⟨by simp, by simp, by simp, by simp⟩
theorem Flat.mono {w w' : World} {ok ok' : Nat → Prop} {sz : Nat} {xs : List (List IC)} {cs : List Value} (h : Flat w ok sz xs cs) (h1 : ∀ x v, IR w ok x v → IR w' ok' x v) : Flat w' ok' sz xs cs :=
  ⟨h.len, h.rows, fun j r k x hj hk => let ⟨u, hu, hr⟩ := h.rel j r k x hj hk; ⟨u, hu, h1 _ _ hr⟩, h.one⟩
theorem Flat.append {w : World} {ok : Nat → Prop} {sz : Nat} {xs ys : List (List IC)} {cs ds : List Value} (h : Flat w ok sz xs cs) (k : Flat w ok sz ys ds) : Flat w ok sz (xs ++ ys) (cs ++ ds) where
  len := by rw [List.length_append, h.len, k.len, List.length_append, Nat.add_mul]
  rows := fun j r hj => by
    rcases Nat.lt_or_ge j xs.length with hlt | hge
    · rw [List.getElem?_append_left hlt] at hj; exact h.rows j r hj
    · rw [List.getElem?_append_right hge] at hj; exact k.rows _ r hj
  rel := fun j r q x hj hq => by
    rcases Nat.lt_or_ge j xs.length with hlt | hge
    · rw [List.getElem?_append_left hlt] at hj
      obtain ⟨u, hu, hr⟩ := h.rel j r q x hj hq
      have := (List.getElem?_eq_some_iff.1 hu).1
      exact ⟨u, by rw [List.getElem?_append_left this]; exact hu, hr⟩
    · rw [List.getElem?_append_right hge] at hj
      obtain ⟨u, hu, hr⟩ := k.rel _ r q x hj hq
      refine ⟨u, ?_, hr⟩
      have e : j * sz + q = cs.length + ((j - xs.length) * sz + q) := by
        rw [h.len]
        have : j * sz = xs.length * sz + (j - xs.length) * sz := by rw [← Nat.add_mul]; congr 1; omega
        omega
      rw [e, List.getElem?_append_right (by omega)]
      simpa using hu
  one := fun u hu => by
    rcases List.mem_append.1 hu with hu | hu
    · exact h.one u hu
    · exact k.one u hu
theorem div_lt {q n sz : Nat} (h : q < n * sz) : q / sz < n ∧ q % sz < sz ∧ q / sz * sz + q % sz = q := by
  have hs : 0 < sz := by
    rcases Nat.eq_zero_or_pos sz with e | e
    · subst e; simp at h
    · exact e
  exact ⟨Nat.div_lt_of_lt_mul (by rw [Nat.mul_comm]; exact h), Nat.mod_lt _ hs, by rw [Nat.mul_comm]; exact Nat.div_add_mod q sz⟩
theorem place_lt {j k n sz : Nat} (hj : j < n) (hk : k < sz) : j * sz + k < n * sz := by
  have : (j + 1) * sz ≤ n * sz := Nat.mul_le_mul_right _ hj
  rw [Nat.succ_mul] at this
  omega
theorem IR.flat {w : World} {ok : Nat → Prop} {sz : Nat} {ex : Bool} {xs : List (List IC)} {v : Value} (h : IR w ok (.sl sz ex xs) v) :
    ∃ A c cs, v = .slice A xs.length c ∧ xs.length ≤ c ∧ c ≤ maxLen ∧ (ex = true → c = xs.length) ∧ Flat w ok sz xs cs ∧ ∀ (j : Nat) (u : Value), cs[j]? = some u → ∃ b o, A = some ⟨b, o, none⟩ ∧ w.cell? ⟨b, o + j, none⟩ = some u := by
  cases h with
  | nil _ _ A c hx hc => exact ⟨A, c, [], rfl, by simp, hc, hx, .nil _ _ _, by simp⟩
  | sl _ _ _ b o c val hb hl hc hx hok hsz hcell hin =>
    have hget : ∀ (q : Nat), q < xs.length * sz → ∃ r x, xs[q / sz]? = some r ∧ r[q % sz]? = some x := fun q hq => by
      obtain ⟨h1, h2, _⟩ := div_lt hq
      have hr := hsz _ _ (List.getElem?_eq_getElem h1)
      exact ⟨_, _, List.getElem?_eq_getElem h1, List.getElem?_eq_getElem (by omega)⟩
    have hcs : ∀ (q : Nat) (u : Value), ((List.range (xs.length * sz)).map fun q => val (q / sz) (q % sz))[q]? = some u → q < xs.length * sz ∧ u = val (q / sz) (q % sz) := fun q u hq => by
      rw [List.getElem?_map] at hq
      simp only [Option.map_eq_some_iff] at hq
      obtain ⟨p, hp, rfl⟩ := hq
      obtain ⟨h1, h2⟩ := List.getElem?_eq_some_iff.1 hp
      simp at h1 h2
      subst h2
      exact ⟨h1, rfl⟩
    refine ⟨_, c, (List.range (xs.length * sz)).map fun q => val (q / sz) (q % sz), rfl, hl, hc, hx, ⟨by simp, hsz, fun j r k x hj hk => ?_, fun u hu => ?_⟩, fun j u hj => ?_⟩
    · have h1 := (List.getElem?_eq_some_iff.1 hj).1
      have h2 : k < sz := by have := (List.getElem?_eq_some_iff.1 hk).1; have := hsz _ _ hj; omega
      have hp := place_lt h1 h2
      have e1 : (j * sz + k) / sz = j := by rw [Nat.mul_comm, Nat.mul_add_div (by omega), Nat.div_eq_of_lt h2]; rfl
      have e2 : (j * sz + k) % sz = k := by rw [Nat.mul_comm, Nat.mul_add_mod, Nat.mod_eq_of_lt h2]
      refine ⟨val j k, ?_, hin j r k x hj hk⟩
      rw [List.getElem?_map, List.getElem?_range hp]
      simp [e1, e2]
    · obtain ⟨q, hq, e⟩ := List.mem_map.1 hu
      rw [List.mem_range] at hq
      obtain ⟨r, x, hr, hx⟩ := hget q hq
      rw [← e]
      exact (hin _ _ _ _ hr hx).one
    · obtain ⟨hq, rfl⟩ := hcs j u hj
      obtain ⟨r, x, hr, hx⟩ := hget j hq
      have := hcell _ _ _ _ hr hx
      rw [add_block, (div_lt hq).2.2] at this
      exact ⟨b, o, rfl, this⟩
theorem Flat.ir {w : World} {ok : Nat → Prop} {sz : Nat} {xs : List (List IC)} {cs : List Value} (h : Flat w ok sz xs cs) (ex : Bool) (b o c : Nat) (hb : b < w.heap.size) (hok : ok b) (hl : xs.length ≤ c) (hc : c ≤ maxLen) (hx : ex = true → c = xs.length)
    (hcell : ∀ (j : Nat) (u : Value), cs[j]? = some u → w.cell? ⟨b, o + j, none⟩ = some u) : IR w ok (.sl sz ex xs) (.slice (some ⟨b, o, none⟩) xs.length c) := by
  refine .sl sz ex xs b o c (fun j k => cs.getD (j * sz + k) undef) hb hl hc hx hok h.rows (fun j r k x hj hk => ?_) (fun j r k x hj hk => ?_)
  · obtain ⟨u, hu, hr⟩ := h.rel j r k x hj hk
    rw [add_block, List.getD_eq_getElem?_getD, hu]
    exact hcell _ _ hu
  · obtain ⟨u, hu, hr⟩ := h.rel j r k x hj hk
    rw [List.getD_eq_getElem?_getD, hu]
    exact hr
inductive AV where
  | any
  | ic (x : IC)
  | own (i ver : Nat)
  | ptr (i off : Nat)
  | «at» (cs : List IC)
  | rat (i ver j off : Nat)
  | fn (f : Fn) (first cap : List AV)
  | agg (xs : List AV)
  | tup (xs : List AV)
  | yl (i : Nat)
  | mo (i : Nat)
  deriving Inhabited
structure RC where
  state : LoopState
  pend : Option Code
  ps : Array Tmp
  asn : Code
  body : Code
  nt : Nat
  env : List (Nat × AV)
inductive AObj where
  | dead
  | var (mu : Bool) (t : TypeId) (cs : List AV)
  | row (mu : Bool) (ver : Nat) (e : TypeId) (sz : Nat) (xs : List (List IC))
  | lp (c : RC)
  | mpo (es : List (Int × Int))
  deriving Inhabited
def AObj.mu : AObj → Bool
  | .dead => false
  | .var m _ _ => m
  | .row m _ _ _ _ => m
  | .lp _ => true
  | .mpo _ => true
def AObj.live : AObj → Bool
  | .dead => false
  | _ => true
def gb : Value → Option Nat
  | .pointer (some a) => some a.block
  | .slice (some a) _ _ => some a.block
  | .map (some b) => some b
  | _ => none
abbrev Ghost := Nat → Value
def Own (s : List AObj) (g : Ghost) (b : Nat) : Prop := ∃ i o, s[i]? = some o ∧ o.mu = true ∧ gb (g i) = some b
def Good (G : Nat → Prop) (s : List AObj) (g : Ghost) (b : Nat) : Prop := G b ∧ ¬ Own s g b
inductive AR (G : Nat → Prop) (s : List AObj) (g : Ghost) (w : World) : AV → Value → Prop where
  | any (v : Value) : AR G s g w .any v
  | ic (x : IC) (v : Value) (h : IR w (Good G s g) x v) : AR G s g w (.ic x) v
  | own (i ver : Nat) (v : Value) (hi : i < s.length) (hv : ∀ m v' e sz xs, s[i]? = some (.row m v' e sz xs) → ver ≤ v' ∧ (ver = v' → v = g i)) (h1 : v.oneCell' = true) : AR G s g w (.own i ver) v
  | ptr (i off : Nat) (v : Value) (hi : i < s.length) (hv : ∀ m t cs, s[i]? = some (.var m t cs) → ∃ b, g i = .pointer (some ⟨b, 0, none⟩) ∧ v = .pointer (some ⟨b, off, none⟩)) (h1 : v.oneCell' = true) : AR G s g w (.ptr i off) v
  | «at» (cs : List IC) (b o : Nat) (val : Nat → Value) (hb : b < w.heap.size) (hok : Good G s g b) (hcell : ∀ (k : Nat) (x : IC), cs[k]? = some x → w.cell? ⟨b, o + k, none⟩ = some (val k))
      (hin : ∀ (k : Nat) (x : IC), cs[k]? = some x → IR w (Good G s g) x (val k)) : AR G s g w (.«at» cs) (.pointer (some ⟨b, o, none⟩))
  | rat (i ver j off : Nat) (v : Value) (hi : i < s.length)
      (hv : ∀ m v' e sz xs, s[i]? = some (.row m v' e sz xs) → ver ≤ v' ∧ (ver = v' → ∃ b, gb (g i) = some b ∧ v = .pointer (some ⟨b, j * sz + off, none⟩))) (h1 : v.oneCell' = true) : AR G s g w (.rat i ver j off) v
  | fn (f : Fn) (first cap : List AV) (vf vc : Array Value) (h1 : vf.size = first.length) (h2 : vc.size = cap.length)
      (h3 : ∀ (k : Nat) (x : AV), first[k]? = some x → AR G s g w x (vf.getD k undef)) (h4 : ∀ (k : Nat) (x : AV), cap[k]? = some x → AR G s g w x (vc.getD k undef)) : AR G s g w (.fn f first cap) (.func f vf vc)
  | agg (xs : List AV) (vs : Array Value) (h1 : vs.size = xs.length) (h2 : ∀ (k : Nat) (x : AV), xs[k]? = some x → AR G s g w x (vs.getD k undef)) (h3 : ∀ u ∈ vs, u.oneCell' = true) : AR G s g w (.agg xs) (.agg vs)
  | tup (xs : List AV) (vs : Array Value) (h1 : vs.size = xs.length) (h2 : ∀ (k : Nat) (x : AV), xs[k]? = some x → AR G s g w x (vs.getD k undef)) : AR G s g w (.tup xs) (.tuple vs)
  | yl (i : Nat) (v : Value) (hi : i < s.length) (hv : ∀ c, s[i]? = some (.lp c) → ∃ b, g i = .pointer (some ⟨b, 0, none⟩) ∧ v = .func (.yield b) #[] #[]) (h1 : v.oneCell' = true) : AR G s g w (.yl i) v
  | mo (i : Nat) (v : Value) (hi : i < s.length) (hv : ∀ es, s[i]? = some (.mpo es) → v = g i) (h1 : v.oneCell' = true) : AR G s g w (.mo i) v
def look : List (Nat × AV) → Nat → AV
  | [], _ => .any
  | (k, x) :: r, t => bif Nat.beq k t then x else look r t
def OR (G : Nat → Prop) (s : List AObj) (g : Ghost) (w : World) (i : Nat) : AObj → Prop
  | .dead => True
  | .var _ t cs => ∃ b vs, g i = .pointer (some ⟨b, 0, none⟩) ∧ G b ∧ w.heap[b]? = some (.cells vs t (0, 0)) ∧ vs.size = cs.length ∧ (∀ u ∈ vs, u.oneCell' = true) ∧
      ∀ (k : Nat) (x : AV), cs[k]? = some x → AR G s g w x (vs.getD k undef)
  | .row _ _ e sz xs => ∃ cells, w.ownsRow 0 e sz (g i) xs.length cells ∧ (∀ b, gb (g i) = some b → G b) ∧ Flat w (Good G s g) sz xs cells
  | .lp c => ∃ b r, g i = .pointer (some ⟨b, 0, none⟩) ∧ G b ∧ w.heap[b]? = some (.loop r) ∧ r.state = c.state ∧ r.pending = c.pend ∧ r.params = c.ps ∧ r.assign = c.asn ∧ r.body = c.body ∧ r.tmps.size = c.nt ∧
    ∀ t, AR G s g w (look c.env t) (r.tmps.getD t undef)
  | .mpo es => ∃ b ents clk, g i = .map (some b) ∧ G b ∧ w.heap[b]? = some (.map ents clk) ∧ ents.toList.map (fun e => (e.key, e.val)) = es.map (fun p => (Value.int .i64 p.1, Value.int .i64 p.2))
structure SR (G : Nat → Prop) (s : List AObj) (g : Ghost) (w : World) : Prop where
  obj : ∀ i o, s[i]? = some o → OR G s g w i o
  inj : ∀ i j o o' b, s[i]? = some o → s[j]? = some o' → o.live = true → o'.live = true → gb (g i) = some b → gb (g j) = some b → i = j
  new : ∀ b, w.heap.size ≤ b → G b
structure Evo (s : List AObj) (g : Ghost) (w : World) (s' : List AObj) (g' : Ghost) (w' : World) : Prop where
  os : w'.os = w.os
  tape : w'.tape = w.tape
  output : w'.output = w.output
  size : w.heap.size ≤ w'.heap.size
  heap : ∀ b, b < w.heap.size → ¬ Own s g b → w'.heap[b]? = w.heap[b]?
  own : ∀ b, b < w.heap.size → Own s' g' b → Own s g b
  len : s.length ≤ s'.length
  var : ∀ i m t cs, i < s.length → s'[i]? = some (.var m t cs) → (∃ m0 cs0, s[i]? = some (.var m0 t cs0)) ∧ g' i = g i
  row : ∀ i m ver e sz xs, i < s.length → s'[i]? = some (.row m ver e sz xs) → ∃ m0 ver0 xs0, s[i]? = some (.row m0 ver0 e sz xs0) ∧ ver0 ≤ ver ∧ (ver0 = ver → g' i = g i)
  lp : ∀ i c, i < s.length → s'[i]? = some (.lp c) → (∃ c0, s[i]? = some (.lp c0)) ∧ g' i = g i
  mpo : ∀ i es, i < s.length → s'[i]? = some (.mpo es) → (∃ es0, s[i]? = some (.mpo es0)) ∧ g' i = g i
theorem Evo.refl (s : List AObj) (g : Ghost) (w : World) : Evo s g w s g w :=
  ⟨rfl, rfl, rfl, Nat.le_refl _, fun _ _ _ => rfl, fun _ _ h => h, Nat.le_refl _, fun i m t cs _ h => ⟨⟨m, cs, h⟩, rfl⟩, fun i m ver e sz xs _ h => ⟨m, ver, xs, h, Nat.le_refl _, fun _ => rfl⟩, fun i c _ h => ⟨⟨c, h⟩, rfl⟩, fun i c _ h => ⟨⟨c, h⟩, rfl⟩⟩
theorem Evo.trans {s s1 s2 : List AObj} {g g1 g2 : Ghost} {w w1 w2 : World} (h : Evo s g w s1 g1 w1) (k : Evo s1 g1 w1 s2 g2 w2) : Evo s g w s2 g2 w2 where
  os := k.os.trans h.os
  tape := k.tape.trans h.tape
  output := k.output.trans h.output
  size := Nat.le_trans h.size k.size
  heap := fun b hb hn => (k.heap b (Nat.lt_of_lt_of_le hb h.size) (fun ho => hn (h.own b hb ho))).trans (h.heap b hb hn)
  own := fun b hb ho => h.own b hb (k.own b (Nat.lt_of_lt_of_le hb h.size) ho)
  len := Nat.le_trans h.len k.len
  var := fun i m t cs hi hv => by
    obtain ⟨⟨m1, cs1, h1⟩, hg⟩ := k.var i m t cs (Nat.lt_of_lt_of_le hi h.len) hv
    obtain ⟨h0, hg0⟩ := h.var i m1 t cs1 hi h1
    exact ⟨h0, hg.trans hg0⟩
  row := fun i m ver e sz xs hi hv => by
    obtain ⟨m1, v1, x1, h1, hle, hg⟩ := k.row i m ver e sz xs (Nat.lt_of_lt_of_le hi h.len) hv
    obtain ⟨m0, v0, x0, h0, hle0, hg0⟩ := h.row i m1 v1 e sz x1 hi h1
    refine ⟨m0, v0, x0, h0, Nat.le_trans hle0 hle, fun e => ?_⟩
    have : v0 = v1 := by omega
    exact (hg (by omega)).trans (hg0 this)
  lp := fun i c hi hv => by
    obtain ⟨⟨c1, h1⟩, hg⟩ := k.lp i c (Nat.lt_of_lt_of_le hi h.len) hv
    obtain ⟨h0, hg0⟩ := h.lp i c1 hi h1
    exact ⟨h0, hg.trans hg0⟩
  mpo := fun i c hi hv => by
    obtain ⟨⟨c1, h1⟩, hg⟩ := k.mpo i c (Nat.lt_of_lt_of_le hi h.len) hv
    obtain ⟨h0, hg0⟩ := h.mpo i c1 hi h1
    exact ⟨h0, hg.trans hg0⟩
theorem IR.evo {G : Nat → Prop} {s s' : List AObj} {g g' : Ghost} {w w' : World} {x : IC} {v : Value} (h : IR w (Good G s g) x v) (k : Evo s g w s' g' w') : IR w' (Good G s' g') x v :=
  h.mono (fun b hb ho => k.heap b hb ho.2) (fun b hb ho => ⟨ho.1, fun hn => ho.2 (k.own b hb hn)⟩) k.size
theorem AR.evo {G : Nat → Prop} {s s' : List AObj} {g g' : Ghost} {w w' : World} {x : AV} {v : Value} (h : AR G s g w x v) (k : Evo s g w s' g' w') : AR G s' g' w' x v := by
  induction h with
  | any v => exact .any v
  | ic x v h => exact .ic x v (h.evo k)
  | own i ver v hi hv h1 =>
    refine .own i ver v (Nat.lt_of_lt_of_le hi k.len) (fun m v' e sz xs hs => ?_) h1
    obtain ⟨m0, v0, x0, h0, hle, hg⟩ := k.row i m v' e sz xs hi hs
    obtain ⟨a, b⟩ := hv _ _ _ _ _ h0
    exact ⟨by omega, fun e => (b (by omega)).trans (hg (by omega)).symm⟩
  | ptr i off v hi hv h1 =>
    refine .ptr i off v (Nat.lt_of_lt_of_le hi k.len) (fun m t cs hs => ?_) h1
    obtain ⟨⟨m0, c0, h0⟩, hg⟩ := k.var i m t cs hi hs
    obtain ⟨b, e1, e2⟩ := hv _ _ _ h0
    exact ⟨b, hg.trans e1, e2⟩
  | «at» cs b o val hb hok hcell hin =>
    refine .«at» cs b o val (Nat.lt_of_lt_of_le hb k.size) ⟨hok.1, fun hn => hok.2 (k.own b hb hn)⟩ (fun j x hj => ?_) (fun j x hj => (hin j x hj).evo k)
    rw [cell_same (k.heap b hb hok.2)]
    exact hcell j x hj
  | rat i ver j off v hi hv h1 =>
    refine .rat i ver j off v (Nat.lt_of_lt_of_le hi k.len) (fun m v' e sz xs hs => ?_) h1
    obtain ⟨m0, v0, x0, h0, hle, hg⟩ := k.row i m v' e sz xs hi hs
    obtain ⟨a, b⟩ := hv _ _ _ _ _ h0
    refine ⟨by omega, fun e => ?_⟩
    obtain ⟨b', h1, h2⟩ := b (by omega)
    exact ⟨b', by rw [hg (by omega)]; exact h1, h2⟩
  | fn f first cap vf vc h1 h2 h3 h4 ih3 ih4 => exact .fn f first cap vf vc h1 h2 ih3 ih4
  | agg xs vs h1 h2 h3 ih => exact .agg xs vs h1 ih h3
  | tup xs vs h1 h2 ih => exact .tup xs vs h1 ih
  | yl i v hi hv h1 =>
    refine .yl i v (Nat.lt_of_lt_of_le hi k.len) (fun c hs => ?_) h1
    obtain ⟨⟨c0, h0⟩, hg⟩ := k.lp i c hi hs
    obtain ⟨b, e1, e2⟩ := hv _ h0
    exact ⟨b, hg.trans e1, e2⟩
  | mo i v hi hv h1 =>
    refine .mo i v (Nat.lt_of_lt_of_le hi k.len) (fun c hs => ?_) h1
    obtain ⟨⟨c0, h0⟩, hg⟩ := k.mpo i c hi hs
    exact (hv _ h0).trans hg.symm
structure St where
  nt : Nat
  env : List (Nat × AV)
  st : List AObj
def St.get (s : St) (t : Nat) : AV := look s.env t
def St.put (s : St) (d : Nat) (x : AV) : St := { s with env := (d, x) :: s.env }
def nilc : Value → AV
  | .slice none n c => bif Nat.beq n 0 && Nat.beq c 0 then .ic (.sl 0 true []) else .any
  | .func f vf vc => bif vf.isEmpty && vc.isEmpty then .fn f [] [] else .any
  | .agg _ => .any
  | .tuple _ => .any
  | v => .ic (.lit v)
def St.ev (s : St) : Operand → AV
  | .tmp t => s.get t
  | .const v => nilc v
  | .global _ => .any
  | .func f => .fn (.func f) [] []
structure Rel (G : Nat → Prop) (s : St) (g : Ghost) (w : World) (a : Act) : Prop where
  slots : ∀ t, AR G s.st g w (s.get t) (a.tmps.getD t undef)
  size : a.tmps.size = s.nt
  sr : SR G s.st g w
theorem AR.nilc {G : Nat → Prop} {s : List AObj} {g : Ghost} {w : World} (v : Value) : AR G s g w (nilc v) v := by
  cases v with
  | slice a n c =>
    cases a with
    | some a => exact .ic _ _ (.lit _ rfl)
    | none =>
      cases hn : (Nat.beq n 0 && Nat.beq c 0) with
      | false => simp only [Aw.nilc, hn, cond_false]; exact .any _
      | true =>
        simp only [Aw.nilc, hn, cond_true]
        simp only [Bool.and_eq_true] at hn
        obtain rfl := Nat.eq_of_beq_eq_true hn.1
        obtain rfl := Nat.eq_of_beq_eq_true hn.2
        exact .ic _ _ (.nil 0 true none 0 (fun _ => rfl) (by simp [maxLen]))
  | func f vf vc =>
    cases hn : (vf.isEmpty && vc.isEmpty) with
    | false => simp only [Aw.nilc, hn, cond_false]; exact .any _
    | true =>
      simp only [Aw.nilc, hn, cond_true]
      simp only [Bool.and_eq_true, Array.isEmpty_iff] at hn
      obtain ⟨rfl, rfl⟩ := hn
      exact .fn _ _ _ _ _ rfl rfl (by simp) (by simp)
  | agg _ => exact .any _
  | tuple _ => exact .any _
  | _ => exact .ic _ _ (.lit _ rfl)
theorem Rel.ev {G : Nat → Prop} {s : St} {g : Ghost} {w : World} {a : Act} (h : Rel G s g w a) (x : Operand) : AR G s.st g w (s.ev x) (a.eval x) := by
  cases x with
  | tmp t => exact h.slots t
  | const v => exact .nilc v
  | global n => exact .any _
  | func f => exact .fn _ _ _ _ _ rfl rfl (by simp) (by simp)
theorem getD_set (ts : Array Value) (d t : Nat) (v u : Value) (hd : d < ts.size) : (ts.setIfInBounds d v).getD t u = if d = t then v else ts.getD t u := by
  by_cases h : d = t
  · subst h
    simp [Array.getD, hd]
  · rw [if_neg h]
    simp only [Array.getD_eq_getD_getElem?]
    rw [Array.getElem?_setIfInBounds_ne h]
theorem Rel.put {G : Nat → Prop} {s : St} {g g' : Ghost} {w w' : World} {a : Act} {st' : List AObj} {x : AV} {v : Value} (h : Rel G s g w a) (d : Nat) (hd : d < s.nt) (k : Evo s.st g w st' g' w') (hs : SR G st' g' w')
    (hx : AR G st' g' w' x v) : Rel G { s with env := (d, x) :: s.env, st := st' } g' w' (a.put (some d) v) where
  slots := fun t => by
    show AR G st' g' w' (bif Nat.beq d t then x else look s.env t) ((a.tmps.setIfInBounds d v).getD t undef)
    rw [getD_set _ _ _ _ _ (by rw [h.size]; exact hd)]
    by_cases e : d = t
    · subst e
      simpa using hx
    · have : Nat.beq d t = false := by
        cases hb : Nat.beq d t with
        | false => rfl
        | true => exact absurd (Nat.eq_of_beq_eq_true hb) e
      rw [this, if_neg e]
      exact (h.slots t).evo k
  size := by simp [Act.put, h.size]
  sr := hs
theorem Rel.nop {G : Nat → Prop} {s : St} {g g' : Ghost} {w w' : World} {a : Act} {st' : List AObj} (h : Rel G s g w a) (k : Evo s.st g w st' g' w') (hs : SR G st' g' w') : Rel G { s with st := st' } g' w' a :=
  ⟨fun t => (h.slots t).evo k, h.size, hs⟩
theorem SR.drew {G : Nat → Prop} {s : List AObj} {g : Ghost} {w : World} (h : SR G s g w) : SR G s g w := h
theorem AR.one {G : Nat → Prop} {s : List AObj} {g : Ghost} {w : World} {x : AV} {v : Value} (h : AR G s g w x v) (hx : (match x with | .any | .agg _ | .tup _ => false | _ => true) = true) : v.oneCell' = true := by
  cases h with
  | ic x v h => exact h.one
  | own i ver v hi hv h1 => exact h1
  | ptr i off v hi hv h1 => exact h1
  | «at» => rfl
  | rat i ver j off v hi hv h1 => exact h1
  | fn => rfl
  | yl i v hi hv h1 => exact h1
  | mo i v hi hv h1 => exact h1
  | any => simp at hx
  | agg => simp at hx
  | tup => simp at hx
theorem OR.evo {G : Nat → Prop} {s s' : List AObj} {g g' : Ghost} {w w' : World} {i : Nat} {o : AObj} (h : OR G s g w i o) (k : Evo s g w s' g' w') (hg : g' i = g i)
    (hb : ∀ b, gb (g i) = some b → w'.heap[b]? = w.heap[b]?) : OR G s' g' w' i o := by
  cases o with
  | dead => trivial
  | var m t cs =>
    obtain ⟨b, vs, h1, h2, h3, h4, h5, h6⟩ := h
    exact ⟨b, vs, hg.trans h1, h2, (hb b (by rw [h1]; rfl)).trans h3, h4, h5, fun j x hj => (h6 j x hj).evo k⟩
  | row m ver e sz xs =>
    obtain ⟨cells, h1, h2, h3⟩ := h
    refine ⟨cells, ?_, fun b hb' => h2 b (by rw [← hg]; exact hb'), h3.mono fun x v hr => hr.evo k⟩
    · rw [hg]
      obtain ⟨hl, h1⟩ := h1
      refine ⟨hl, ?_⟩
      rcases h1 with h1 | ⟨g0, cap, cur, e1, e2, e3, r⟩
      · exact .inl h1
      · exact .inr ⟨g0, cap, cur, e1, e2, (hb g0 (by rw [e1]; rfl)).trans e3, r⟩
  | lp c =>
    obtain ⟨b, r, h1, h2, h3, e1, e2, e3, e4, e5, e6, h4⟩ := h
    exact ⟨b, r, hg.trans h1, h2, (hb b (by rw [h1]; rfl)).trans h3, e1, e2, e3, e4, e5, e6, fun t => (h4 t).evo k⟩
  | mpo es =>
    obtain ⟨b, ents, clk, h1, h2, h3, h4⟩ := h
    exact ⟨b, ents, clk, hg.trans h1, h2, (hb b (by rw [h1]; rfl)).trans h3, h4⟩
theorem OR.lt {G : Nat → Prop} {s : List AObj} {g : Ghost} {w : World} {i : Nat} {o : AObj} (h : OR G s g w i o) (hl : o.live = true) {b : Nat} (hb : gb (g i) = some b) : b < w.heap.size := by
  cases o with
  | dead => simp [AObj.live] at hl
  | var m t cs =>
    obtain ⟨b', vs, h1, h2, h3, _⟩ := h
    rw [h1] at hb
    obtain rfl : b' = b := by simpa [gb] using hb
    exact (Array.getElem?_eq_some_iff.1 h3).1
  | row m ver e sz xs =>
    obtain ⟨cells, ⟨hl, h1⟩, h2, _⟩ := h
    rcases h1 with ⟨h1, _⟩ | ⟨g0, cap, cur, e1, e2, e3, r⟩
    · rw [h1] at hb
      simp [gb] at hb
    · rw [e1] at hb
      obtain rfl : g0 = b := by simpa [gb] using hb
      exact (Array.getElem?_eq_some_iff.1 e3).1
  | lp c =>
    obtain ⟨b', r, h1, h2, h3, _⟩ := h
    rw [h1] at hb
    obtain rfl : b' = b := by simpa [gb] using hb
    exact (Array.getElem?_eq_some_iff.1 h3).1
  | mpo es =>
    obtain ⟨b', ents, clk, h1, h2, h3, _⟩ := h
    rw [h1] at hb
    obtain rfl : b' = b := by simpa [gb] using hb
    exact (Array.getElem?_eq_some_iff.1 h3).1
theorem Own.lt {G : Nat → Prop} {s : List AObj} {g : Ghost} {w : World} (h : SR G s g w) {b : Nat} (hb : Own s g b) : b < w.heap.size := by
  obtain ⟨i, o, hi, hm, hg⟩ := hb
  refine (h.obj i o hi).lt ?_ hg
  cases o <;> simp_all [AObj.mu, AObj.live]
def gput (g : Ghost) (n : Nat) (v : Value) : Ghost := fun j => if j = n then v else g j
theorem gput_old (g : Ghost) (n : Nat) (v : Value) (i : Nat) (h : i < n) : gput g n v i = g i := by unfold gput; rw [if_neg (by omega)]
theorem gput_new (g : Ghost) (n : Nat) (v : Value) : gput g n v n = v := by unfold gput; rw [if_pos rfl]
theorem Evo.push {s : List AObj} {g : Ghost} {w w' : World} (o : AObj) (v : Value) (h1 : w'.os = w.os) (h2 : w'.tape = w.tape) (h3 : w'.output = w.output) (h4 : w.heap.size ≤ w'.heap.size)
    (h5 : ∀ b, b < w.heap.size → w'.heap[b]? = w.heap[b]?) (hv : ∀ b, gb v = some b → w.heap.size ≤ b) : Evo s g w (s ++ [o]) (gput g s.length v) w' where
  os := h1
  tape := h2
  output := h3
  size := h4
  heap := fun b hb _ => h5 b hb
  own := fun b hb ⟨i, o', hi, hm, hg⟩ => by
    by_cases e : i < s.length
    · rw [List.getElem?_append_left e] at hi
      rw [gput_old _ _ _ _ e] at hg
      exact ⟨i, o', hi, hm, hg⟩
    · have : i = s.length := by
        have := (List.getElem?_eq_some_iff.1 hi).1
        simp at this
        omega
      subst this
      rw [gput_new] at hg
      have := hv b hg
      omega
  len := by simp
  var := fun i m t cs hi hs => by
    rw [List.getElem?_append_left hi] at hs
    exact ⟨⟨m, cs, hs⟩, gput_old _ _ _ _ hi⟩
  row := fun i m ver e sz xs hi hs => by
    rw [List.getElem?_append_left hi] at hs
    exact ⟨m, ver, xs, hs, Nat.le_refl _, fun _ => gput_old _ _ _ _ hi⟩
  lp := fun i c hi hs => by
    rw [List.getElem?_append_left hi] at hs
    exact ⟨⟨c, hs⟩, gput_old _ _ _ _ hi⟩
  mpo := fun i c hi hs => by
    rw [List.getElem?_append_left hi] at hs
    exact ⟨⟨c, hs⟩, gput_old _ _ _ _ hi⟩
theorem SR.push {G : Nat → Prop} {s : List AObj} {g : Ghost} {w w' : World} (h : SR G s g w) (o : AObj) (v : Value) (k : Evo s g w (s ++ [o]) (gput g s.length v) w')
    (h5 : ∀ b, b < w.heap.size → w'.heap[b]? = w.heap[b]?) (hv : ∀ b, gb v = some b → w.heap.size ≤ b) (ho : OR G (s ++ [o]) (gput g s.length v) w' s.length o) : SR G (s ++ [o]) (gput g s.length v) w' where
  obj := fun i o' hi => by
    by_cases e : i < s.length
    · rw [List.getElem?_append_left e] at hi
      by_cases hl : o'.live = true
      · exact (h.obj i o' hi).evo k (gput_old _ _ _ _ e) (fun b hb => h5 b ((h.obj i o' hi).lt hl hb))
      · cases o' <;> simp_all [AObj.live]
        trivial
    · have : i = s.length := by
        have := (List.getElem?_eq_some_iff.1 hi).1
        simp at this
        omega
      subst this
      rw [List.getElem?_append_right (Nat.le_refl _)] at hi
      obtain rfl : o = o' := by simpa using hi
      exact ho
  inj := fun i j o1 o2 b hi hj l1 l2 b1 b2 => by
    have old : ∀ i o1, (s ++ [o])[i]? = some o1 → o1.live = true → gb (gput g s.length v i) = some b → (i < s.length ∧ s[i]? = some o1 ∧ gb (g i) = some b ∧ b < w.heap.size) ∨ (i = s.length ∧ w.heap.size ≤ b) := by
      intro i o1 hi l1 b1
      by_cases e : i < s.length
      · rw [List.getElem?_append_left e] at hi
        rw [gput_old _ _ _ _ e] at b1
        exact .inl ⟨e, hi, b1, (h.obj i o1 hi).lt l1 b1⟩
      · have : i = s.length := by
          have := (List.getElem?_eq_some_iff.1 hi).1
          simp at this
          omega
        subst this
        rw [gput_new] at b1
        exact .inr ⟨rfl, hv b b1⟩
    rcases old i o1 hi l1 b1 with ⟨a1, a2, a3, a4⟩ | ⟨a1, a2⟩ <;> rcases old j o2 hj l2 b2 with ⟨c1, c2, c3, c4⟩ | ⟨c1, c2⟩
    · exact h.inj i j o1 o2 b a2 c2 l1 l2 a3 c3
    · omega
    · omega
    · omega
  new := fun b hb => h.new b (Nat.le_trans k.size hb)
end Go.Proofs.Ytkkjlmcnfoncdaa.Aw

namespace Go.Proofs.Ytkkjlmcnfoncdaa.Aw
open Go Go.RowKit
inductive TK where
  | bool | int (k : IntKind) | string | struct (fs : List (Nat × Nat × Bool)) | array (n e : Nat) | slice (e : Nat) | pointer (e : Nat) | map (k e : Nat) | other
  deriving Inhabited
structure TI where
  there : Bool
  k : TK
  size : Nat
  bytes : Nat
  zero : Option (List Value)
  deriving Inhabited
def aggB (P : Program) (t : TypeId) : Bool := match P.underlying t with | some (.struct _) | some (.array _ _) => true | _ => false
def tk (P : Program) : Option TypeDesc → TK
  | some .bool => .bool
  | some (.int k) => .int k
  | some .string => .string
  | some (.struct fs) => .struct (fs.toList.map fun f => (f.offset, P.cellsOf f.type, aggB P f.type))
  | some (.array n e) => .array n e
  | some (.slice e) => .slice e
  | some (.pointer e) => .pointer e
  | some (.map k e) => .map k e
  | _ => .other
def there0 (P : Program) (t : TypeId) : Bool := (P.info? t).isSome && (P.underlying t).isSome
def tyi (P : Program) (t : TypeId) : TI := ⟨there0 P t && (match P.underlying t with | some (.struct fs) => fs.toList.all (fun f => there0 P f.type) | some (.array _ e) => there0 P e | some (.slice e) => there0 P e | _ => true), tk P (P.underlying t), P.cellsOf t, P.bytesOf t, ((P.info? t).bind (·.zero)).map (·.cells.toList)⟩
def TabOk (P : Program) (tab : List TI) : Prop := ∀ t i, tab[t]? = some i → i = tyi P t
theorem tabOk_of {P : Program} {tab : List TI} {n : Nat} (h : (List.range n).map (tyi P) = tab) : TabOk P tab := by
  intro t i hi
  rw [← h] at hi
  simp only [List.getElem?_map] at hi
  cases hr : (List.range n)[t]? with
  | none => simp [hr] at hi
  | some u =>
    rw [hr] at hi
    have : u = t := by
      have := List.getElem?_eq_some_iff.1 hr
      obtain ⟨h1, h2⟩ := this
      simpa using h2.symm
    subst this
    simpa using hi.symm
def TI.agg (i : TI) : Bool := match i.k with | .struct _ | .array _ _ => true | _ => false
theorem agg_tyi (P : Program) (t : TypeId) : (tyi P t).agg = aggB P t := by
  unfold tyi TI.agg aggB tk
  cases P.underlying t with
  | none => rfl
  | some d => cases d <;> rfl
section run
variable {P : Program} {t : TypeId}
theorem there_0 (h : (tyi P t).there = true) : there0 P t = true := by
  simp only [tyi, Bool.and_eq_true] at h
  exact h.1
theorem there_field {fs : Array Field} {f : Nat} {fl : Field} (h : (tyi P t).there = true) (hu : P.underlying t = some (.struct fs)) (hf : fs[f]? = some fl) : there0 P fl.type = true := by
  simp only [tyi, hu, Bool.and_eq_true, List.all_eq_true] at h
  exact h.2 fl (by simpa using Array.mem_of_getElem? hf)
theorem there_elem {e : TypeId} (h : (tyi P t).there = true) (hu : P.underlying t = some (.slice e)) : there0 P e = true := by
  simp only [tyi, hu, Bool.and_eq_true] at h
  exact h.2
theorem there_elemA {n : Nat} {e : TypeId} (h : (tyi P t).there = true) (hu : P.underlying t = some (.array n e)) : there0 P e = true := by
  simp only [tyi, hu, Bool.and_eq_true] at h
  exact h.2
theorem info_there (h : there0 P t = true) : ∃ i, P.info? t = some i := by
  simp only [there0, Bool.and_eq_true, Option.isSome_iff_exists] at h
  exact h.1
theorem und_there (h : there0 P t = true) : ∃ d, P.underlying t = some d := by
  simp only [there0, Bool.and_eq_true, Option.isSome_iff_exists] at h
  exact h.2
theorem run_und (h : there0 P t = true) (w : World) : ∃ d, P.underlying t = some d ∧ (underlying t).run P w = .ok d w := by
  obtain ⟨d, hd⟩ := und_there h
  exact ⟨d, hd, run_underlying hd w⟩
theorem run_isAgg (h : there0 P t = true) (w : World) : (isAgg t).run P w = .ok (aggB P t) w := by
  obtain ⟨d, hd⟩ := und_there h
  unfold isAgg aggB
  rw [Sem.run_bind, run_underlying hd w, hd]
  cases d <;> rfl
theorem run_size (h : there0 P t = true) (w : World) : (sizeOf t).run P w = .ok (P.cellsOf t) w := by
  obtain ⟨i, hi⟩ := info_there h
  simp [sizeOf, typeInfo, hi, Program.cellsOf]
theorem run_zero {z : List Value} (h : (tyi P t).zero = some z) (w : World) : ∃ v, (zeroValue t).run P w = .ok v w ∧ v.cells.toList = z := by
  simp only [tyi, Option.map_eq_some_iff, Option.bind_eq_some_iff] at h
  obtain ⟨v, ⟨i, hi, hz⟩, rfl⟩ := h
  exact ⟨v, by simp [zeroValue, typeInfo, hi, hz], rfl⟩
theorem tk_struct {fs : List (Nat × Nat × Bool)} (h : (tyi P t).k = .struct fs) : ∃ a, P.underlying t = some (.struct a) ∧ fs = a.toList.map fun f => (f.offset, P.cellsOf f.type, aggB P f.type) := by
  unfold tyi at h
  simp only [] at h
  cases hu : P.underlying t with
  | none => simp [hu, tk] at h
  | some d =>
    rw [hu] at h
    cases d <;> simp [tk] at h
    exact ⟨_, rfl, h.symm⟩
theorem tk_slice {e : Nat} (h : (tyi P t).k = .slice e) : P.underlying t = some (.slice e) := by
  unfold tyi at h
  simp only [] at h
  cases hu : P.underlying t with
  | none => simp [hu, tk] at h
  | some d =>
    rw [hu] at h
    cases d <;> simp [tk] at h
    rw [h]
theorem tk_string (h : (tyi P t).k = .string) : P.underlying t = some .string := by
  unfold tyi at h
  simp only [] at h
  cases hu : P.underlying t with
  | none => simp [hu, tk] at h
  | some d => rw [hu] at h; cases d <;> simp [tk] at h; rfl
theorem tk_bool (h : (tyi P t).k = .bool) : P.underlying t = some .bool := by
  unfold tyi at h
  simp only [] at h
  cases hu : P.underlying t with
  | none => simp [hu, tk] at h
  | some d => rw [hu] at h; cases d <;> simp [tk] at h; rfl
theorem tk_int {k : IntKind} (h : (tyi P t).k = .int k) : P.underlying t = some (.int k) := by
  unfold tyi at h
  simp only [] at h
  cases hu : P.underlying t with
  | none => simp [hu, tk] at h
  | some d => rw [hu] at h; cases d <;> simp [tk] at h; rw [h]
theorem tk_array {n e : Nat} (h : (tyi P t).k = .array n e) : P.underlying t = some (.array n e) := by
  unfold tyi at h
  simp only [] at h
  cases hu : P.underlying t with
  | none => simp [hu, tk] at h
  | some d => rw [hu] at h; cases d <;> simp [tk] at h; rw [h.1, h.2]
end run
def Does (P : Program) (s : St) (m : (Operand → Value) → Sem Next) (x : AV) (st' : List AObj) : Prop :=
  ∀ G g w a, Rel G s g w a → ∃ n v g' w', (m a.eval).run P w = .ok n w' ∧ (n = .value v ∨ n = .skip ∧ v = undef) ∧ Evo s.st g w st' g' w' ∧ SR G st' g' w' ∧ AR G st' g' w' x v
theorem Does.pure {P : Program} {s : St} {m : (Operand → Value) → Sem Next} {x : AV}
    (h : ∀ G g w a, Rel G s g w a → ∃ v, (m a.eval).run P w = .ok (.value v) w ∧ AR G s.st g w x v) : Does P s m x s.st := fun G g w a hr =>
  let ⟨v, h1, h2⟩ := h G g w a hr
  ⟨_, v, g, w, h1, .inl rfl, .refl _ _ _, hr.sr, h2⟩
section inv
variable {G : Nat → Prop} {s : List AObj} {g : Ghost} {w : World} {v : Value}
theorem AR.lit_inv {u : Value} (h : AR G s g w (.ic (.lit u)) v) : v = u := by
  cases h with
  | ic x v h => cases h with | lit v h => rfl
theorem AR.ic_inv {x : IC} (h : AR G s g w (.ic x) v) : IR w (Good G s g) x v := by
  cases h with
  | ic x v h => exact h
theorem AR.agg_inv {xs : List AV} (h : AR G s g w (.agg xs) v) : ∃ vs : Array Value, v = .agg vs ∧ vs.size = xs.length ∧ (∀ (k : Nat) (x : AV), xs[k]? = some x → AR G s g w x (vs.getD k undef)) ∧ ∀ u ∈ vs, u.oneCell' = true := by
  cases h with
  | agg xs vs h1 h2 h3 => exact ⟨vs, rfl, h1, h2, h3⟩
theorem AR.tup_inv {xs : List AV} (h : AR G s g w (.tup xs) v) : ∃ vs : Array Value, v = .tuple vs ∧ vs.size = xs.length ∧ (∀ (k : Nat) (x : AV), xs[k]? = some x → AR G s g w x (vs.getD k undef)) := by
  cases h with
  | tup xs vs h1 h2 => exact ⟨vs, rfl, h1, h2⟩
theorem AR.fn_inv {f : Fn} {a b : List AV} (h : AR G s g w (.fn f a b) v) : ∃ vf vc : Array Value, v = .func f vf vc ∧ vf.size = a.length ∧ vc.size = b.length ∧
    (∀ (k : Nat) (x : AV), a[k]? = some x → AR G s g w x (vf.getD k undef)) ∧ (∀ (k : Nat) (x : AV), b[k]? = some x → AR G s g w x (vc.getD k undef)) := by
  cases h with
  | fn f a b vf vc h1 h2 h3 h4 => exact ⟨vf, vc, rfl, h1, h2, h3, h4⟩
theorem AR.ptr_inv {i o : Nat} (h : AR G s g w (.ptr i o) v) {m : Bool} {t : TypeId} {cs : List AV} (hs : s[i]? = some (.var m t cs)) (hr : SR G s g w) :
    ∃ b vs, v = .pointer (some ⟨b, o, none⟩) ∧ g i = .pointer (some ⟨b, 0, none⟩) ∧ G b ∧ w.heap[b]? = some (.cells vs t (0, 0)) ∧ vs.size = cs.length ∧ (∀ u ∈ vs, u.oneCell' = true) ∧ ∀ (k : Nat) (x : AV), cs[k]? = some x → AR G s g w x (vs.getD k undef) := by
  cases h with
  | ptr i off v hi hv h1 =>
    obtain ⟨b, e1, e2⟩ := hv _ _ _ hs
    obtain ⟨b', vs, f1, f2, f3, f4, f5, f6⟩ := hr.obj i _ hs
    rw [e1] at f1
    obtain rfl : b = b' := by simpa using f1
    exact ⟨b, vs, e2, e1, f2, f3, f4, f5, f6⟩
theorem AR.at_inv {cs : List IC} (h : AR G s g w (.at cs) v) : ∃ (b o : Nat) (val : Nat → Value), v = .pointer (some ⟨b, o, none⟩) ∧ b < w.heap.size ∧ Good G s g b ∧ (∀ (k : Nat) (x : IC), cs[k]? = some x → w.cell? ⟨b, o + k, none⟩ = some (val k)) ∧
    ∀ (k : Nat) (x : IC), cs[k]? = some x → IR w (Good G s g) x (val k) := by
  cases h with
  | «at» cs b o val hb hok hcell hin => exact ⟨b, o, val, rfl, hb, hok, hcell, hin⟩
end inv
theorem getD_toList (vs : Array Value) (k : Nat) (u : Value) : vs.getD k u = vs.toList.getD k u := by
  simp [Array.getD_eq_getD_getElem?, List.getD_eq_getElem?_getD]
theorem does_move {P : Program} {s : St} (x : Operand) : Does P s (fun ρ => Pure.pure (.value (ρ x))) (s.ev x) s.st :=
  .pure fun G g w a hr => ⟨_, rfl, hr.ev x⟩
theorem does_pick {P : Program} {s : St} (c x y : Operand) (t : Bool) (hc : s.ev c = .ic (.lit (.bool t))) :
    Does P s (fun ρ => do pure (.value (if ← asBool (ρ c) then ρ x else ρ y))) (bif t then s.ev x else s.ev y) s.st :=
  .pure fun G g w a hr => by
    have h := hr.ev c
    rw [hc] at h
    have e := h.lit_inv
    refine ⟨bif t then a.eval x else a.eval y, ?_, by cases t <;> exact hr.ev _⟩
    cases t <;> simp [e, asBool]
theorem SR.newVar {G : Nat → Prop} {s : St} {g : Ghost} {w : World} {a : Act} (hr : Rel G s g w a) (t : TypeId) (cs : List AV) (vs : Array Value) (h1 : vs.size = cs.length) (h3 : ∀ u ∈ vs, u.oneCell' = true)
    (h2 : ∀ (k : Nat) (x : AV), cs[k]? = some x → AR G s.st g w x (vs.getD k undef)) :
    ∃ g', Evo s.st g w (s.st ++ [.var true t cs]) g' (w.alloc (.cells vs t)) ∧ SR G (s.st ++ [.var true t cs]) g' (w.alloc (.cells vs t)) ∧
      AR G (s.st ++ [.var true t cs]) g' (w.alloc (.cells vs t)) (.ptr s.st.length 0) (.pointer (some ⟨w.heap.size, 0, none⟩)) := by
  have hv : ∀ b, gb (.pointer (some ⟨w.heap.size, 0, none⟩)) = some b → w.heap.size ≤ b := fun b hb => by simp [gb] at hb; omega
  have h5 : ∀ b, b < w.heap.size → (w.alloc (.cells vs t)).heap[b]? = w.heap[b]? := fun b hb => Below.heap_alloc _ _ _ hb
  have k : Evo s.st g w (s.st ++ [.var true t cs]) (gput g s.st.length (.pointer (some ⟨w.heap.size, 0, none⟩))) (w.alloc (.cells vs t)) :=
    .push _ _ rfl rfl rfl (by simp) h5 hv
  refine ⟨_, k, hr.sr.push _ _ k h5 hv ⟨w.heap.size, vs, gput_new _ _ _, hr.sr.new _ (Nat.le_refl _), heap_alloc_new _ _, h1, h3, fun j x hj => (h2 j x hj).evo k⟩, ?_⟩
  exact .ptr _ _ _ (by simp) (fun m t cs _ => ⟨w.heap.size, gput_new _ _ _, rfl⟩) rfl
def cellsOk : AV → Option (List AV)
  | .agg xs => some xs
  | .any => none
  | .tup _ => none
  | x => some [x]
theorem cells_of {G : Nat → Prop} {s : List AObj} {g : Ghost} {w : World} {x : AV} {v : Value} {cs : List AV} (h : AR G s g w x v) (hc : cellsOk x = some cs) :
    v.cells.size = cs.length ∧ (∀ u ∈ v.cells, u.oneCell' = true) ∧ ∀ (k : Nat) (y : AV), cs[k]? = some y → AR G s g w y (v.cells.getD k undef) := by
  have single : v.oneCell' = true → cs = [x] → v.cells.size = cs.length ∧ (∀ u ∈ v.cells, u.oneCell' = true) ∧ ∀ (k : Nat) (y : AV), cs[k]? = some y → AR G s g w y (v.cells.getD k undef) := by
    rintro h1 rfl
    have : v.cells = #[v] := by cases v <;> first | rfl | simp [Value.oneCell'] at h1
    rw [this]
    refine ⟨rfl, by simpa using h1, fun k y hk => ?_⟩
    have : k = 0 := by have := (List.getElem?_eq_some_iff.1 hk).1; simp at this; omega
    subst this
    obtain rfl : x = y := by simpa using hk
    exact h
  cases x with
  | any => simp [cellsOk] at hc
  | tup xs => simp [cellsOk] at hc
  | agg xs =>
    obtain ⟨vs, rfl, h1, h2, h3⟩ := h.agg_inv
    obtain rfl : xs = cs := by simpa [cellsOk] using hc
    exact ⟨h1, h3, h2⟩
  | ic y => exact single (h.one rfl) (by simpa [cellsOk] using hc.symm)
  | own i j => exact single (h.one rfl) (by simpa [cellsOk] using hc.symm)
  | ptr i j => exact single (h.one rfl) (by simpa [cellsOk] using hc.symm)
  | «at» cs => exact single (h.one rfl) (by simpa [cellsOk] using hc.symm)
  | rat i j k l => exact single (h.one rfl) (by simpa [cellsOk] using hc.symm)
  | fn f a b => exact single (h.one rfl) (by simpa [cellsOk] using hc.symm)
  | yl i => exact single (h.one rfl) (by simpa [cellsOk] using hc.symm)
  | mo i => exact single (h.one rfl) (by simpa [cellsOk] using hc.symm)
theorem does_box {P : Program} {s : St} (t : TypeId) (x : Operand) (cs : List AV) (hc : cellsOk (s.ev x) = some cs) :
    Does P s (fun ρ => do pure (.value (← Instr.box t (ρ x)))) (.ptr s.st.length 0) (s.st ++ [.var true t cs]) := fun G g w a hr => by
  obtain ⟨h1, h3, h2⟩ := cells_of (hr.ev x) hc
  obtain ⟨g', k, hs, hx⟩ := SR.newVar hr t cs _ h1 h3 h2
  exact ⟨_, _, g', _, by simp [Instr.box, newVar, newRow], .inl rfl, k, hs, hx⟩
theorem does_alloc {P : Program} {s : St} (t : TypeId) (z : List Value) (hz : (tyi P t).zero = some z) (h1 : z.all (·.oneCell') = true) :
    Does P s (fun ρ => do pure (.value (← Instr.alloc t true (.tuple #[])))) (.ptr s.st.length 0) (s.st ++ [.var true t (z.map nilc)]) := fun G g w a hr => by
  obtain ⟨v, hv, rfl⟩ := run_zero hz w
  obtain ⟨g', k, hs, hx⟩ := SR.newVar hr t (v.cells.toList.map nilc) v.cells (by simp) (fun u hu => by rw [List.all_eq_true] at h1; exact h1 u (by simpa using hu)) (fun j x hj => by
    rw [List.getElem?_map] at hj
    simp only [Option.map_eq_some_iff] at hj
    obtain ⟨u, hu, rfl⟩ := hj
    rw [getD_toList, List.getD_eq_getElem?_getD, hu]
    exact .nilc u)
  exact ⟨_, _, g', _, by simp [Instr.alloc, newVar, newRow, hv], .inl rfl, k, hs, hx⟩
theorem AR.sub {G : Nat → Prop} {s : List AObj} {g : Ghost} {w : World} {xs : List AV} {vs : Array Value} (o n : Nat) (h1 : vs.size = xs.length) (h2 : ∀ (k : Nat) (x : AV), xs[k]? = some x → AR G s g w x (vs.getD k undef))
    (h3 : ∀ u ∈ vs, u.oneCell' = true) (hn : o + n ≤ xs.length) : AR G s g w (.agg ((xs.drop o).take n)) (.agg (vs.extract o (o + n))) := by
  refine .agg _ _ (by simp; omega) (fun k x hk => ?_) (fun u hu => ?_)
  · rw [List.getElem?_take] at hk
    split at hk
    · rename_i hlt
      rw [List.getElem?_drop] at hk
      have := h2 _ _ hk
      rw [getD_toList] at this ⊢
      rw [List.getD_eq_getElem?_getD] at this ⊢
      have e : (vs.extract o (o + n)).toList[k]? = vs.toList[o + k]? := by
        simp [Array.toList_extract, List.extract_eq_take_drop, List.getElem?_take, List.getElem?_drop, hlt]
      rw [e]
      exact this
    · simp at hk
  · obtain ⟨i, hi, e⟩ := Array.mem_iff_getElem.1 hu
    rw [Array.getElem_extract] at e
    rw [← e]
    exact h3 _ (Array.getElem_mem _)
theorem does_field {P : Program} {s : St} (t : TypeId) (x : Operand) (f : Nat) (fs : List (Nat × Nat × Bool)) (off n : Nat) (ag : Bool) (xs : List AV) (r : AV) (ht : (tyi P t).there = true) (hk : (tyi P t).k = .struct fs)
    (hf : fs[f]? = some (off, n, ag)) (hx : s.ev x = .agg xs) (hr : bif ag then Nat.ble (off + n) xs.length = true ∧ r = .agg ((xs.drop off).take n) else xs[off]? = some r) :
    Does P s (fun ρ => do pure (.value (← Instr.field t (ρ x) f))) r s.st :=
  .pure fun G g w a hrel => by
    obtain ⟨d, hd, hrun⟩ := run_und (there_0 ht) w
    obtain ⟨fa, hu, rfl⟩ := tk_struct hk
    obtain rfl : d = .struct fa := by rw [hd] at hu; simpa using hu
    have h := hrel.ev x
    rw [hx] at h
    obtain ⟨vs, e, h1, h2, h3⟩ := h.agg_inv
    rw [List.getElem?_map] at hf
    simp only [Option.map_eq_some_iff] at hf
    obtain ⟨fl, hfl, hfe⟩ := hf
    have hfl' : fa[f]? = some fl := by simpa using hfl
    simp only [Prod.mk.injEq] at hfe
    obtain ⟨rfl, rfl, rfl⟩ := hfe
    have hthere := there_field ht hu hfl'
    have hag := run_isAgg hthere w
    have hsz := run_size hthere w
    cases hb : aggB P fl.type with
    | true =>
      rw [hb] at hr hag
      simp only [cond_true] at hr
      obtain ⟨hle, rfl⟩ := hr
      have hle := Nat.le_of_ble_eq_true hle
      refine ⟨.agg (vs.extract fl.offset (fl.offset + P.cellsOf fl.type)), ?_, AR.sub _ _ h1 h2 h3 hle⟩
      simp [Instr.field, hrun, hfl', e, asAgg, part, hag, hsz]
    | false =>
      rw [hb] at hr hag
      simp only [cond_false] at hr
      have := h2 _ _ hr
      have hlt : fl.offset < vs.size := by have := (List.getElem?_eq_some_iff.1 hr).1; omega
      refine ⟨vs.getD fl.offset undef, ?_, this⟩
      simp [Instr.field, hrun, hfl', e, asAgg, part, hag, hlt]
theorem does_extract {P : Program} {s : St} (x : Operand) (i : Nat) (xs : List AV) (r : AV) (hx : s.ev x = .tup xs) (hr : xs[i]? = some r) : Does P s (fun ρ => do pure (.value (← Instr.extract (ρ x) i))) r s.st :=
  .pure fun G g w a hrel => by
    have h := hrel.ev x
    rw [hx] at h
    obtain ⟨vs, e, h1, h2⟩ := h.tup_inv
    have hlt : i < vs.size := by have := (List.getElem?_eq_some_iff.1 hr).1; omega
    refine ⟨vs.getD i undef, ?_, h2 _ _ hr⟩
    simp [Instr.extract, e, hlt]
end Go.Proofs.Ytkkjlmcnfoncdaa.Aw

namespace Go.Proofs.Ytkkjlmcnfoncdaa.Aw
open Go Go.RowKit
theorem fieldAt_run {P : Program} {t : TypeId} {f : Nat} {fs : List (Nat × Nat × Bool)} {off n : Nat} {ag : Bool} (ht : (tyi P t).there = true) (hk : (tyi P t).k = .struct fs) (hf : fs[f]? = some (off, n, ag)) (hn : n ≠ 0) (b o : Nat) (w : World) :
    (Instr.fieldAt t (.pointer (some ⟨b, o, none⟩)) f).run P w = .ok (.pointer (some ⟨b, o + off, none⟩)) w := by
  obtain ⟨d, hd, hrun⟩ := run_und (there_0 ht) w
  obtain ⟨fa, hu, rfl⟩ := tk_struct hk
  obtain rfl : d = .struct fa := by rw [hd] at hu; simpa using hu
  rw [List.getElem?_map] at hf
  simp only [Option.map_eq_some_iff] at hf
  obtain ⟨fl, hfl, hfe⟩ := hf
  have hfl' : fa[f]? = some fl := by simpa using hfl
  simp only [Prod.mk.injEq] at hfe
  obtain ⟨rfl, rfl, rfl⟩ := hfe
  have hsz := run_size (there_field ht hu hfl') w
  simp [Instr.fieldAt, hrun, hfl', Instr.sureAddr, fieldPlace, hsz, hn, add_block]
theorem does_fieldPtr {P : Program} {s : St} (t : TypeId) (x : Operand) (f : Nat) (fs : List (Nat × Nat × Bool)) (off n : Nat) (ag : Bool) (i o : Nat) (m : Bool) (t' : TypeId) (cs : List AV) (ht : (tyi P t).there = true) (hk : (tyi P t).k = .struct fs)
    (hf : fs[f]? = some (off, n, ag)) (hn : n ≠ 0) (hx : s.ev x = .ptr i o) (hs : s.st[i]? = some (.var m t' cs)) : Does P s (fun ρ => do pure (.value (← Instr.fieldAt t (ρ x) f))) (.ptr i (o + off)) s.st :=
  .pure fun G g w a hr => by
    have h := hr.ev x
    rw [hx] at h
    obtain ⟨b, vs, e, e2, _⟩ := h.ptr_inv hs hr.sr
    refine ⟨.pointer (some ⟨b, o + off, none⟩), ?_, .ptr _ _ _ ?_ (fun m' t'' cs' _ => ⟨b, e2, rfl⟩) rfl⟩
    · simp [e, fieldAt_run ht hk hf hn]
    · exact (List.getElem?_eq_some_iff.1 hs).1
theorem does_fieldAtc {P : Program} {s : St} (t : TypeId) (x : Operand) (f : Nat) (fs : List (Nat × Nat × Bool)) (off n : Nat) (ag : Bool) (cs : List IC) (ht : (tyi P t).there = true) (hk : (tyi P t).k = .struct fs)
    (hf : fs[f]? = some (off, n, ag)) (hn : n ≠ 0) (hx : s.ev x = .at cs) : Does P s (fun ρ => do pure (.value (← Instr.fieldAt t (ρ x) f))) (.at (cs.drop off)) s.st :=
  .pure fun G g w a hr => by
    have h := hr.ev x
    rw [hx] at h
    obtain ⟨b, o, val, e, hb, hg, hc, hi⟩ := h.at_inv
    refine ⟨.pointer (some ⟨b, o + off, none⟩), by simp [e, fieldAt_run ht hk hf hn], .«at» _ b (o + off) (fun k => val (off + k)) hb hg (fun k y hy => ?_) (fun k y hy => ?_)⟩
    · rw [List.getElem?_drop] at hy
      rw [Nat.add_assoc]
      exact hc _ _ hy
    · rw [List.getElem?_drop] at hy
      exact hi _ _ hy
theorem does_fieldRat {P : Program} {s : St} (t : TypeId) (x : Operand) (f : Nat) (fs : List (Nat × Nat × Bool)) (off n : Nat) (ag : Bool) (i ver j o : Nat) (m : Bool) (e sz : Nat) (xs : List (List IC)) (ht : (tyi P t).there = true) (hk : (tyi P t).k = .struct fs)
    (hf : fs[f]? = some (off, n, ag)) (hn : n ≠ 0) (hx : s.ev x = .rat i ver j o) (hs : s.st[i]? = some (.row m ver e sz xs)) : Does P s (fun ρ => do pure (.value (← Instr.fieldAt t (ρ x) f))) (.rat i ver j (o + off)) s.st :=
  .pure fun G g w a hr => by
    have h := hr.ev x
    rw [hx] at h
    generalize a.eval x = v at h
    cases h with
    | rat i ver j off' v hi hv h1 =>
      obtain ⟨b, e1, rfl⟩ := (hv _ _ _ _ _ hs).2 rfl
      refine ⟨.pointer (some ⟨b, j * sz + o + off, none⟩), by simp [fieldAt_run ht hk hf hn], .rat _ _ _ _ _ hi (fun m' v' e' sz' xs' hs' => ?_) rfl⟩
      rw [hs] at hs'
      simp only [Option.some.injEq, AObj.row.injEq] at hs'
      obtain ⟨_, rfl, _, rfl, _⟩ := hs'
      exact ⟨Nat.le_refl _, fun _ => ⟨b, e1, by rw [Nat.add_assoc]⟩⟩
theorem does_nilPtr {P : Program} {s : St} (x : Operand) (i o : Nat) (m : Bool) (t' : TypeId) (cs : List AV) (hx : s.ev x = .ptr i o) (hs : s.st[i]? = some (.var m t' cs)) :
    Does P s (fun ρ => execOp ρ ⟨none, .nilCheck x, 0, "", #[], none⟩) (.ptr i o) s.st :=
  .pure fun G g w a hr => by
    have h := hr.ev x
    rw [hx] at h
    obtain ⟨b, vs, e, e2, _⟩ := h.ptr_inv hs hr.sr
    refine ⟨_, ?_, h⟩
    simp [execOp, e]
theorem does_nilAt {P : Program} {s : St} (x : Operand) (cs : List IC) (hx : s.ev x = .at cs) : Does P s (fun ρ => execOp ρ ⟨none, .nilCheck x, 0, "", #[], none⟩) (.at cs) s.st :=
  .pure fun G g w a hr => by
    have h := hr.ev x
    rw [hx] at h
    obtain ⟨b, o, val, e, _⟩ := h.at_inv
    refine ⟨_, ?_, h⟩
    simp [execOp, e]
theorem does_nilFn {P : Program} {s : St} (x : Operand) (f : FuncId) (b c : List AV) (hx : s.ev x = .fn (.func f) b c) : Does P s (fun ρ => execOp ρ ⟨none, .nilCheck x, 0, "", #[], none⟩) (.fn (.func f) b c) s.st :=
  .pure fun G g w a hr => by
    have h := hr.ev x
    rw [hx] at h
    obtain ⟨vf, vc, e, _⟩ := h.fn_inv
    refine ⟨_, ?_, h⟩
    simp [execOp, e]
theorem loadVar_agg {P : Program} {t : TypeId} (ht : there0 P t = true) (hag : aggB P t = true) (w : World) (b o : Nat) (cs : List Value) (hl : cs.length = P.cellsOf t) (hc : ∀ (j : Nat) (v : Value), cs[j]? = some v → w.cell? ⟨b, o + j, none⟩ = some v) :
    (loadVar t ⟨b, o, none⟩).run P w = .ok (.agg cs.toArray) w := by
  have h1 := run_isAgg ht w
  rw [hag] at h1
  have h2 := run_size ht w
  have h3 := run_loadCells_list (P := P) w ⟨b, o, none⟩ cs (fun j v hj => by rw [add_block]; exact hc j v hj)
  rw [hl] at h3
  simp [loadVar, h1, h2, h3]
theorem loadVar_one {P : Program} {t : TypeId} (ht : there0 P t = true) (hag : aggB P t = false) (w : World) (b o : Nat) (v : Value) (hc : w.cell? ⟨b, o, none⟩ = some v) :
    (loadVar t ⟨b, o, none⟩).run P w = .ok v w := by
  have h1 := run_isAgg ht w
  rw [hag] at h1
  simp [loadVar, h1, hc]
theorem ptr_load {P : Program} {G : Nat → Prop} {s : List AObj} {g : Ghost} {w : World} {v : Value} (t : TypeId) (i o : Nat) (m : Bool) (t' : TypeId) (cs : List AV) (r : AV) (ht : (tyi P t).there = true) (h : AR G s g w (.ptr i o) v) (hs : s[i]? = some (.var m t' cs)) (hsr : SR G s g w)
    (hr : bif (tyi P t).agg then Nat.ble (o + (tyi P t).size) cs.length = true ∧ r = .agg ((cs.drop o).take (tyi P t).size) else cs[o]? = some r) : ∃ b u, v = .pointer (some ⟨b, o, none⟩) ∧ (loadVar t ⟨b, o, none⟩).run P w = .ok u w ∧ AR G s g w r u := by
  obtain ⟨b, vs, e, e2, _, hb, hl, h1, hv⟩ := h.ptr_inv hs hsr
  rw [agg_tyi] at hr
  have hsz : (tyi P t).size = P.cellsOf t := rfl
  rw [hsz] at hr
  cases hag : aggB P t with
  | true =>
    rw [hag] at hr
    obtain ⟨hle, rfl⟩ := hr
    have hle := Nat.le_of_ble_eq_true hle
    refine ⟨b, .agg (vs.extract o (o + P.cellsOf t)), e, ?_, AR.sub _ _ hl hv h1 hle⟩
    have hlen : (vs.extract o (o + P.cellsOf t)).toList.length = P.cellsOf t := by simp; omega
    have := loadVar_agg (there_0 ht) hag w b o (vs.extract o (o + P.cellsOf t)).toList hlen (fun j v hj => by
      simp only [World.cell?, hb]
      have e : (vs.extract o (o + P.cellsOf t)).toList[j]? = if j < P.cellsOf t then vs[o + j]? else none := by
        simp [Array.toList_extract, List.extract_eq_take_drop, List.getElem?_take, List.getElem?_drop]
      rw [e] at hj
      split at hj
      · simpa using hj
      · simp at hj)
    rwa [Array.toArray_toList] at this
  | false =>
    rw [hag] at hr
    simp only [cond_false] at hr
    have hlt : o < vs.size := by have := (List.getElem?_eq_some_iff.1 hr).1; omega
    exact ⟨b, vs.getD o undef, e, loadVar_one (there_0 ht) hag w b o (vs.getD o undef) (by simp [World.cell?, hb, hlt]), hv _ _ hr⟩
theorem does_loadPtr {P : Program} {s : St} (t : TypeId) (x : Operand) (i o : Nat) (m : Bool) (t' : TypeId) (cs : List AV) (r : AV) (ht : (tyi P t).there = true) (hx : s.ev x = .ptr i o) (hs : s.st[i]? = some (.var m t' cs))
    (hr : bif (tyi P t).agg then Nat.ble (o + (tyi P t).size) cs.length = true ∧ r = .agg ((cs.drop o).take (tyi P t).size) else cs[o]? = some r) : Does P s (fun ρ => do pure (.value (← Instr.loadAt t (ρ x)))) r s.st :=
  .pure fun G g w a hrel => by
    have h := hrel.ev x
    rw [hx] at h
    obtain ⟨b, u, e, hl, hu⟩ := ptr_load t i o m t' cs r ht h hs hrel.sr hr
    exact ⟨u, by simp only [Instr.loadAt, e, Instr.sureAddr, Sem.run_bind, Sem.run_pure, Result.andThen_ok, hl], hu⟩
theorem does_loadAtc {P : Program} {s : St} (t : TypeId) (x : Operand) (cs : List IC) (r : AV) (ht : (tyi P t).there = true) (hx : s.ev x = .at cs)
    (hr : bif (tyi P t).agg then Nat.ble (tyi P t).size cs.length = true ∧ r = .agg ((cs.take (tyi P t).size).map .ic) else cs[0]?.map AV.ic = some r) : Does P s (fun ρ => do pure (.value (← Instr.loadAt t (ρ x)))) r s.st :=
  .pure fun G g w a hrel => by
    have h := hrel.ev x
    rw [hx] at h
    obtain ⟨b, o, val, e, hb, hg, hc, hi⟩ := h.at_inv
    rw [agg_tyi] at hr
    have hsz : (tyi P t).size = P.cellsOf t := rfl
    rw [hsz] at hr
    cases hag : aggB P t with
    | true =>
      rw [hag] at hr
      obtain ⟨hle, rfl⟩ := hr
      have hle := Nat.le_of_ble_eq_true hle
      have hlen : ((List.range (P.cellsOf t)).map val).length = P.cellsOf t := by simp
      have hget : ∀ (j : Nat) (v : Value), ((List.range (P.cellsOf t)).map val)[j]? = some v → j < P.cellsOf t ∧ v = val j := fun j v hj => by
        rw [List.getElem?_map] at hj
        simp only [Option.map_eq_some_iff] at hj
        obtain ⟨k, hk, rfl⟩ := hj
        have := List.getElem?_eq_some_iff.1 hk
        obtain ⟨h1, h2⟩ := this
        simp at h1 h2
        exact ⟨h1, by rw [h2]⟩
      refine ⟨.agg ((List.range (P.cellsOf t)).map val).toArray, ?_, .agg _ _ (by simp; omega) (fun k y hk => ?_) (fun u hu => ?_)⟩
      · have := loadVar_agg (there_0 ht) hag w b o ((List.range (P.cellsOf t)).map val) hlen (fun j v hj => by
          obtain ⟨hj, rfl⟩ := hget j v hj
          exact hc j _ (List.getElem?_eq_getElem (by omega)))
        simp only [Instr.loadAt, e, Instr.sureAddr, Sem.run_bind, Sem.run_pure, Result.andThen_ok, this]
      · rw [List.getElem?_map] at hk
        simp only [Option.map_eq_some_iff] at hk
        obtain ⟨c, hk, rfl⟩ := hk
        rw [List.getElem?_take] at hk
        split at hk
        · rename_i hlt
          have e2 : ((List.range (P.cellsOf t)).map val).toArray.getD k undef = val k := by simp [hlt]
          rw [e2]
          exact .ic _ _ (hi _ _ hk)
        · simp at hk
      · obtain ⟨j, hj, hu⟩ := Array.mem_iff_getElem.1 hu
        simp at hj hu
        rw [← hu]
        exact (hi j _ (List.getElem?_eq_getElem (by omega))).one
    | false =>
      rw [hag] at hr
      simp only [cond_false, Option.map_eq_some_iff] at hr
      obtain ⟨c, hc0, rfl⟩ := hr
      refine ⟨val 0, ?_, .ic _ _ (hi _ _ hc0)⟩
      have := loadVar_one (there_0 ht) hag w b o (val 0) (hc 0 _ hc0)
      simp only [Instr.loadAt, e, Instr.sureAddr, Sem.run_bind, Sem.run_pure, Result.andThen_ok, this]
theorem SR.turn {G : Nat → Prop} {s : List AObj} {g : Ghost} {w w' : World} (h : SR G s g w) (i : Nat) (o o' : AObj) (b : Nat) (hi : s[i]? = some o) (hm : o.mu = true) (hb : gb (g i) = some b) (hm' : o'.mu = true)
    (hvar : ∀ m t cs, o' = .var m t cs → ∃ m0 cs0, o = .var m0 t cs0) (hrow : ∀ m ver e sz xs, o' = .row m ver e sz xs → ∃ m0 ver0 xs0, o = .row m0 ver0 e sz xs0 ∧ ver0 ≤ ver)
    (h1 : w'.os = w.os) (h2 : w'.tape = w.tape) (h3 : w'.output = w.output) (h4 : w'.heap.size = w.heap.size) (h5 : ∀ k, k ≠ b → w'.heap[k]? = w.heap[k]?)
    (ho : Evo s g w (s.set i o') g w' → OR G (s.set i o') g w' i o') (hlp : ∀ c, o' = .lp c → ∃ c0, o = .lp c0 := by simp) (hmp : ∀ c, o' = .mpo c → ∃ c0, o = .mpo c0 := by simp) : Evo s g w (s.set i o') g w' ∧ SR G (s.set i o') g w' := by
  have hil : i < s.length := (List.getElem?_eq_some_iff.1 hi).1
  have hown : Own s g b := ⟨i, o, hi, hm, hb⟩
  have get : ∀ (j : Nat) (q : AObj), (s.set i o')[j]? = some q → (j = i ∧ q = o') ∨ (j ≠ i ∧ s[j]? = some q) := fun j q hj => by
    by_cases e : j = i
    · subst e
      rw [List.getElem?_set_self hil] at hj
      exact .inl ⟨rfl, by simpa using hj.symm⟩
    · rw [List.getElem?_set_ne (Ne.symm e)] at hj
      exact .inr ⟨e, hj⟩
  have k : Evo s g w (s.set i o') g w' := by
    refine ⟨h1, h2, h3, by omega, fun q hq hn => h5 q (fun e => hn (e ▸ hown)), fun q hq ⟨j, p, hj, hpm, hpg⟩ => ?_, by simp, fun j m t cs hj hs => ?_, fun j m ver e sz xs hj hs => ?_, fun j c hj hs => ?_, fun j c hj hs => ?_⟩
    · rcases get j p hj with ⟨rfl, rfl⟩ | ⟨hne, hj⟩
      · exact ⟨j, o, hi, hm, hpg⟩
      · exact ⟨j, p, hj, hpm, hpg⟩
    · rcases get j _ hs with ⟨rfl, e⟩ | ⟨hne, hs⟩
      · obtain ⟨m0, cs0, rfl⟩ := hvar m t cs e.symm
        exact ⟨⟨m0, cs0, hi⟩, rfl⟩
      · exact ⟨⟨m, cs, hs⟩, rfl⟩
    · rcases get j _ hs with ⟨rfl, e'⟩ | ⟨hne, hs⟩
      · obtain ⟨m0, v0, x0, rfl, hle⟩ := hrow m ver e sz xs e'.symm
        exact ⟨m0, v0, x0, hi, hle, fun _ => rfl⟩
      · exact ⟨m, ver, xs, hs, Nat.le_refl _, fun _ => rfl⟩
    · rcases get j _ hs with ⟨rfl, e'⟩ | ⟨hne, hs⟩
      · obtain ⟨c0, rfl⟩ := hlp c e'.symm
        exact ⟨⟨c0, hi⟩, rfl⟩
      · exact ⟨⟨c, hs⟩, rfl⟩
    · rcases get j _ hs with ⟨rfl, e'⟩ | ⟨hne, hs⟩
      · obtain ⟨c0, rfl⟩ := hmp c e'.symm
        exact ⟨⟨c0, hi⟩, rfl⟩
      · exact ⟨⟨c, hs⟩, rfl⟩
  refine ⟨k, fun j q hj => ?_, fun j1 j2 o1 o2 b' hj1 hj2 l1 l2 b1 b2 => ?_, fun q hq => h.new q (by omega)⟩
  · rcases get j q hj with ⟨rfl, rfl⟩ | ⟨hne, hj⟩
    · exact ho k
    · by_cases hl : q.live = true
      · refine (h.obj j q hj).evo k rfl (fun b' hb' => h5 b' (fun e => ?_))
        subst e
        exact hne (h.inj j i q o b' hj hi hl (by cases o <;> simp_all [AObj.mu, AObj.live]) hb' hb)
      · cases q <;> simp_all [AObj.live]
        trivial
  · have old : ∀ (j : Nat) (q : AObj), (s.set i o')[j]? = some q → q.live = true → ∃ q' : AObj, s[j]? = some q' ∧ q'.live = true := by
      intro j q hj hl
      rcases get j q hj with ⟨rfl, rfl⟩ | ⟨hne, hj⟩
      · exact ⟨o, hi, by cases o <;> simp_all [AObj.mu, AObj.live]⟩
      · exact ⟨q, hj, hl⟩
    obtain ⟨q1, a1, c1⟩ := old j1 o1 hj1 l1
    obtain ⟨q2, a2, c2⟩ := old j2 o2 hj2 l2
    exact h.inj j1 j2 q1 q2 b' a1 a2 c1 c2 b1 b2
theorem does_storePtr {P : Program} {s : St} (t : TypeId) (x y : Operand) (i o : Nat) (t' : TypeId) (cs ys : List AV) (ht : (tyi P t).there = true) (hx : s.ev x = .ptr i o) (hs : s.st[i]? = some (.var true t' cs))
    (hy : cellsOk (s.ev y) = some ys) (hl : Nat.beq ys.length (tyi P t).size = true) (ho : Nat.ble (o + ys.length) cs.length = true) :
    Does P s (fun ρ => do let _ ← Instr.storeAt t (ρ x) (ρ y); pure .skip) .any (s.st.set i (.var true t' (cs.take o ++ ys ++ cs.drop (o + ys.length)))) := fun G g w a hrel => by
  have h := hrel.ev x
  rw [hx] at h
  obtain ⟨b, vs, e, e2, hG, hb, hvl, h1, hv⟩ := h.ptr_inv hs hrel.sr
  obtain ⟨c1, c3, c2⟩ := cells_of (hrel.ev y) hy
  have ho := Nat.le_of_ble_eq_true ho
  have hl : ys.length = P.cellsOf t := Nat.eq_of_beq_eq_true hl
  have hrun := run_storeCells_at (P := P) b o t' (a.eval y).cells.toList 0 vs w hb (by simp; omega) (fun u hu => c3 u (by simpa using hu))
  have hsz := run_size (there_0 ht) w
  simp only [Nat.add_zero] at hrun
  have hil : i < s.st.length := (List.getElem?_eq_some_iff.1 hs).1
  have hyl : (a.eval y).cells.toList.length = ys.length := by simpa using c1
  obtain ⟨k, hsr⟩ := hrel.sr.turn (w' := w.setRow b (vs.toList.take o ++ (a.eval y).cells.toList ++ vs.toList.drop (o + (a.eval y).cells.toList.length)).toArray) i _ (.var true t' (cs.take o ++ ys ++ cs.drop (o + ys.length))) b hs rfl (by rw [e2]; rfl) rfl
    (fun m t cs h => by cases h; exact ⟨_, _, rfl⟩) (fun m ver e sz xs h => by cases h) rfl rfl rfl (size_setRow _ _ _) (fun q hq => setRow_other _ _ _ _ hq)
    (fun k => ⟨b, _, e2, hG, setRow_heap _ _ _ _ _ _ hb, by simp; omega, fun u hu => by
      simp only [List.mem_toArray, List.mem_append] at hu
      rcases hu with (hu | hu) | hu
      · exact h1 u (by simpa using List.mem_of_mem_take hu)
      · exact c3 u (by simpa using hu)
      · exact h1 u (by simpa using List.mem_of_mem_drop hu), fun q z hz => by
      refine AR.evo ?_ k
      have hcl : cs.length = vs.size := hvl.symm
      rw [getD_toList, List.getD_eq_getElem?_getD]
      simp only
      by_cases q1 : q < o
      · rw [List.append_assoc, List.getElem?_append_left (by simp; omega), List.getElem?_take, if_pos q1] at hz
        rw [List.append_assoc, List.getElem?_append_left (by simp; omega), List.getElem?_take, if_pos q1]
        have := hv q z hz
        rwa [getD_toList, List.getD_eq_getElem?_getD] at this
      · by_cases q2 : q < o + ys.length
        · have l1 : (cs.take o).length = o := by simp; omega
          have l2 : (vs.toList.take o).length = o := by simp; omega
          rw [List.append_assoc, List.getElem?_append_right (by omega), l1, List.getElem?_append_left (by omega)] at hz
          rw [List.append_assoc, List.getElem?_append_right (by omega), l2, List.getElem?_append_left (by omega)]
          have := c2 _ z hz
          rwa [getD_toList, List.getD_eq_getElem?_getD] at this
        · have l1 : (cs.take o ++ ys).length = o + ys.length := by simp; omega
          have l2 : (vs.toList.take o ++ (a.eval y).cells.toList).length = o + ys.length := by rw [List.length_append, hyl]; simp; omega
          rw [List.getElem?_append_right (by omega), l1, List.getElem?_drop] at hz
          rw [List.getElem?_append_right (by omega), l2, List.getElem?_drop, hyl]
          have := hv _ z hz
          rwa [getD_toList, List.getD_eq_getElem?_getD] at this⟩)
  refine ⟨.skip, undef, g, _, ?_, .inr ⟨rfl, rfl⟩, k, hsr, .any _⟩
  have hc1 : (a.eval y).cells.size = P.cellsOf t := by omega
  simp only [Instr.storeAt, e, Instr.sureAddr, storeVar, Sem.run_bind, Sem.run_pure, Result.andThen_ok, hsz, hc1, hrun]
  simp [hrun]
end Go.Proofs.Ytkkjlmcnfoncdaa.Aw

namespace Go.Proofs.Ytkkjlmcnfoncdaa.Aw
open Go Go.RowKit
def intA : BinOp → IntKind → Int → Int → Option Value
  | .add, k, a, b => some (.int k (k.wrap (a + b)))
  | .sub, k, a, b => some (.int k (k.wrap (a - b)))
  | .mul, k, a, b => some (.int k (k.wrap (a * b)))
  | .eql, _, a, b => some (.bool (decide (a = b)))
  | .neq, _, a, b => some (.bool (!decide (a = b)))
  | .lss, _, a, b => some (.bool (decide (a < b)))
  | .leq, _, a, b => some (.bool (decide (a ≤ b)))
  | .gtr, _, a, b => some (.bool (decide (b < a)))
  | .geq, _, a, b => some (.bool (decide (b ≤ a)))
  | _, _, _, _ => none
def strA : BinOp → ByteArray → ByteArray → Option Value
  | .eql, a, b => some (.bool (decide (a.toList = b.toList)))
  | .neq, a, b => some (.bool (!decide (a.toList = b.toList)))
  | _, _, _ => none
def binA (op : BinOp) : Value → Value → Option Value
  | .int k a, .int k' b => bif decide (k = k') then intA op k a b else none
  | .string a, .string b => strA op a b
  | _, _ => none
theorem intA_run {P : Program} {op : BinOp} {k : IntKind} {a b : Int} {r : Value} (h : intA op k a b = some r) (t : TypeId) (x y : Operand) (w : World) :
    (do eqGuard op t x y (.int k a) (.int k b); binOp op t (.int k a) (.int k b) : Sem Value).run P w = .ok r w ∧ r.oneCell' = true := by
  cases op <;> simp only [intA, Option.some.injEq, reduceCtorEq] at h <;> subst h <;>
    exact ⟨by simp [eqGuard, binOp, Op.intArith, Op.intCmp] <;> first | rfl | (simp only [bne]; congr 1; by_cases e : a = b <;> simp [e]) | (congr 1; by_cases e : a = b <;> simp [e]), rfl⟩
theorem strA_run {P : Program} {op : BinOp} {a b : ByteArray} {r : Value} (h : strA op a b = some r) (t : TypeId) (x y : Operand) (w : World) :
    (do eqGuard op t x y (.string a) (.string b); binOp op t (.string a) (.string b) : Sem Value).run P w = .ok r w ∧ r.oneCell' = true := by
  cases op <;> simp only [strA, Option.some.injEq, reduceCtorEq] at h <;> subst h <;>
    exact ⟨by simp [eqGuard, binOp, Op.stringOp] <;> (by_cases e : a.toList = b.toList <;> simp [e]), rfl⟩
theorem does_bin {P : Program} {s : St} (op : BinOp) (t : TypeId) (x y : Operand) (a b r : Value) (hx : s.ev x = .ic (.lit a)) (hy : s.ev y = .ic (.lit b)) (hr : binA op a b = some r) :
    Does P s (fun ρ => do pure (.value (← (do eqGuard op t x y (ρ x) (ρ y); binOp op t (ρ x) (ρ y) : Sem Value)))) (.ic (.lit r)) s.st :=
  .pure fun G g w act hrel => by
    have h1 := hrel.ev x
    have h2 := hrel.ev y
    rw [hx] at h1
    rw [hy] at h2
    have e1 := h1.lit_inv
    have e2 := h2.lit_inv
    have key : (do eqGuard op t x y a b; binOp op t a b : Sem Value).run P w = .ok r w ∧ r.oneCell' = true := by
      unfold binA at hr
      split at hr
      · rename_i k a k' b
        by_cases hk : k = k'
        · subst hk
          simp only [decide_true, cond_true] at hr
          exact intA_run hr t x y w
        · simp [hk] at hr
      · exact strA_run hr t x y w
      · simp at hr
    refine ⟨r, ?_, .ic _ _ (.lit _ key.2)⟩
    rw [e1, e2, Sem.run_bind, key.1]
    rfl
theorem does_quo {P : Program} {s : St} (t : TypeId) (x y : Operand) (k : IntKind) (a b : Int) (hx : s.ev x = .ic (.lit (.int k a))) (hy : s.ev y = .ic (.lit (.int k b))) (hb : b ≠ 0) :
    Does P s (fun ρ => do pure (.value (← (do eqGuard .quo t x y (ρ x) (ρ y); binOp .quo t (ρ x) (ρ y) : Sem Value)))) (.ic (.lit (.int k (k.wrap (a.tdiv b))))) s.st :=
  .pure fun G g w act hrel => by
    have h1 := hrel.ev x
    have h2 := hrel.ev y
    rw [hx] at h1
    rw [hy] at h2
    refine ⟨_, ?_, .ic _ _ (.lit _ rfl)⟩
    rw [h1.lit_inv, h2.lit_inv]
    simp [eqGuard, binOp, Op.intDiv, hb]
theorem does_rem {P : Program} {s : St} (t : TypeId) (x y : Operand) (k : IntKind) (a b : Int) (hx : s.ev x = .ic (.lit (.int k a))) (hy : s.ev y = .ic (.lit (.int k b))) (hb : b ≠ 0) :
    Does P s (fun ρ => do pure (.value (← (do eqGuard .rem t x y (ρ x) (ρ y); binOp .rem t (ρ x) (ρ y) : Sem Value)))) (.ic (.lit (.int k (a.tmod b)))) s.st :=
  .pure fun G g w act hrel => by
    have h1 := hrel.ev x
    have h2 := hrel.ev y
    rw [hx] at h1
    rw [hy] at h2
    refine ⟨_, ?_, .ic _ _ (.lit _ rfl)⟩
    rw [h1.lit_inv, h2.lit_inv]
    simp [eqGuard, binOp, Op.intDiv, hb]
theorem does_concat {P : Program} {s : St} (t : TypeId) (x y : Operand) (a b : ByteArray) (hx : s.ev x = .ic (.lit (.string a))) (hy : s.ev y = .ic (.lit (.string b))) (hb : a.size + b.size ≤ 9223372036854775807) :
    Does P s (fun ρ => do pure (.value (← (do eqGuard .add t x y (ρ x) (ρ y); binOp .add t (ρ x) (ρ y) : Sem Value)))) (.ic (.lit (.string (a ++ b)))) s.st :=
  .pure fun G g w act hrel => by
    have h1 := hrel.ev x
    have h2 := hrel.ev y
    rw [hx] at h1
    rw [hy] at h2
    refine ⟨_, ?_, .ic _ _ (.lit _ rfl)⟩
    rw [h1.lit_inv, h2.lit_inv]
    have : ¬ (((a.size + b.size : Nat) : Int) > IntKind.i64.max) := by simp [IntKind.max, IntKind.signed, IntKind.bits]; omega
    simp [eqGuard, binOp, Op.stringOp]
    omega
theorem does_eqBool {P : Program} {s : St} (t : TypeId) (x y : Operand) (a b : Bool) (hk : (tyi P t).k = .bool) (hx : s.ev x = .ic (.lit (.bool a))) (hy : s.ev y = .ic (.lit (.bool b))) :
    Does P s (fun ρ => do pure (.value (← (do eqGuard .eql t x y (ρ x) (ρ y); binOp .eql t (ρ x) (ρ y) : Sem Value)))) (.ic (.lit (.bool (a == b)))) s.st :=
  .pure fun G g w act hrel => by
    have h1 := hrel.ev x
    have h2 := hrel.ev y
    rw [hx] at h1
    rw [hy] at h2
    refine ⟨_, ?_, .ic _ _ (.lit _ rfl)⟩
    rw [h1.lit_inv, h2.lit_inv]
    have := tk_bool hk
    simp [eqGuard, binOp, run_equal_bool _ _ _ _ this]
theorem does_neBool {P : Program} {s : St} (t : TypeId) (x y : Operand) (a b : Bool) (hk : (tyi P t).k = .bool) (hx : s.ev x = .ic (.lit (.bool a))) (hy : s.ev y = .ic (.lit (.bool b))) :
    Does P s (fun ρ => do pure (.value (← (do eqGuard .neq t x y (ρ x) (ρ y); binOp .neq t (ρ x) (ρ y) : Sem Value)))) (.ic (.lit (.bool (!(a == b))))) s.st :=
  .pure fun G g w act hrel => by
    have h1 := hrel.ev x
    have h2 := hrel.ev y
    rw [hx] at h1
    rw [hy] at h2
    refine ⟨_, ?_, .ic _ _ (.lit _ rfl)⟩
    rw [h1.lit_inv, h2.lit_inv]
    have := tk_bool hk
    simp [eqGuard, binOp, run_equal_bool _ _ _ _ this]
theorem does_not {P : Program} {s : St} (x : Operand) (a : Bool) (hx : s.ev x = .ic (.lit (.bool a))) : Does P s (fun ρ => do pure (.value (← Op.unary .not (ρ x)))) (.ic (.lit (.bool (!a)))) s.st :=
  .pure fun G g w act hrel => by
    have h1 := hrel.ev x
    rw [hx] at h1
    refine ⟨_, ?_, .ic _ _ (.lit _ rfl)⟩
    rw [h1.lit_inv]
    simp [Op.unary]
theorem does_neg {P : Program} {s : St} (x : Operand) (k : IntKind) (a : Int) (hx : s.ev x = .ic (.lit (.int k a))) : Does P s (fun ρ => do pure (.value (← Op.unary .neg (ρ x)))) (.ic (.lit (.int k (k.wrap (0 - a))))) s.st :=
  .pure fun G g w act hrel => by
    have h1 := hrel.ev x
    rw [hx] at h1
    refine ⟨_, ?_, .ic _ _ (.lit _ rfl)⟩
    rw [h1.lit_inv]
    simp [Op.unary, Op.intArith]
theorem does_convInt {P : Program} {s : St} (src dst : TypeId) (x : Operand) (k k' : IntKind) (n : Int) (h1 : (tyi P src).there = true) (h2 : (tyi P dst).k = .int k) (hx : s.ev x = .ic (.lit (.int k' n))) :
    Does P s (fun ρ => do pure (.value (← convert src dst (ρ x)))) (.ic (.lit (.int k (k.wrap n)))) s.st :=
  .pure fun G g w act hrel => by
    have h := hrel.ev x
    rw [hx] at h
    refine ⟨_, ?_, .ic _ _ (.lit _ rfl)⟩
    rw [h.lit_inv]
    obtain ⟨d, hd, hrun⟩ := run_und (there_0 h1) w
    simp [convert, hrun, run_underlying (tk_int h2), Conv.intToInt]
theorem does_convStr {P : Program} {s : St} (src dst : TypeId) (x : Operand) (b : ByteArray) (h1 : (tyi P src).there = true) (h2 : (tyi P dst).k = .string) (hx : s.ev x = .ic (.lit (.string b))) :
    Does P s (fun ρ => do pure (.value (← convert src dst (ρ x)))) (.ic (.lit (.string b))) s.st :=
  .pure fun G g w act hrel => by
    have h := hrel.ev x
    rw [hx] at h
    refine ⟨_, ?_, .ic _ _ (.lit _ rfl)⟩
    rw [h.lit_inv]
    obtain ⟨d, hd, hrun⟩ := run_und (there_0 h1) w
    simp [convert, hrun, run_underlying (tk_string h2)]
theorem does_makeFunc {P : Program} {s : St} (f : Fn) (first cap : Array Operand) : Does P s (fun ρ => do pure (.value (← Instr.makeFunc f (first.map ρ) (cap.map ρ)))) (.fn f (first.toList.map s.ev) (cap.toList.map s.ev)) s.st :=
  .pure fun G g w act hrel => by
    have key : ∀ (l : Array Operand) (k : Nat) (x : AV), (l.toList.map s.ev)[k]? = some x → AR G s.st g w x ((l.map act.eval).getD k undef) := fun l k x hk => by
      rw [List.getElem?_map] at hk
      simp only [Option.map_eq_some_iff] at hk
      obtain ⟨o, ho, rfl⟩ := hk
      rw [getD_toList, List.getD_eq_getElem?_getD, Array.toList_map, List.getElem?_map, ho]
      exact hrel.ev o
    exact ⟨_, by simp [Instr.makeFunc], .fn _ _ _ _ _ (by simp) (by simp) (key _) (key _)⟩
abbrev call1 (b : Builtin) (args : Array Operand) (ts : Array TypeId) : Call := { callee := .builtin b, args := args, argTypes := ts }
abbrev bcall (c : Call) (ty : TypeId) (ρ : Operand → Value) : Sem Next := do let d ← resolve ρ c ty; invoke d.target d.args
theorem does_lenSl {P : Program} {s : St} (t ty e : TypeId) (x : Operand) (sz : Nat) (ex : Bool) (xs : List (List IC)) (hk : (tyi P t).k = .slice e) (hx : s.ev x = .ic (.sl sz ex xs)) :
    Does P s (bcall (call1 .len #[x] #[t]) ty) (.ic (.lit (.int .i64 (xs.length : Int)))) s.st :=
  .pure fun G g w act hrel => by
    have h := hrel.ev x
    rw [hx] at h
    obtain ⟨A, c, e1, h1, h2, _⟩ := h.ic_inv.slice
    refine ⟨_, ?_, .ic _ _ (.lit _ rfl)⟩
    simp [bcall, resolve, invoke, builtin, Builtin.len_, e1, run_underlying (tk_slice hk), goInt]
theorem does_lenOwn {P : Program} {s : St} (t ty e : TypeId) (x : Operand) (i ver : Nat) (m : Bool) (e' sz : Nat) (xs : List (List IC)) (hk : (tyi P t).k = .slice e) (hx : s.ev x = .own i ver) (hs : s.st[i]? = some (.row m ver e' sz xs)) :
    Does P s (bcall (call1 .len #[x] #[t]) ty) (.ic (.lit (.int .i64 (xs.length : Int)))) s.st :=
  .pure fun G g w act hrel => by
    have h := hrel.ev x
    rw [hx] at h
    generalize hv : act.eval x = v at h
    cases h with
    | own i ver v hi hv' h1 =>
      obtain rfl := (hv' _ _ _ _ _ hs).2 rfl
      obtain ⟨cells, ho, _⟩ := hrel.sr.obj i _ hs
      refine ⟨_, ?_, .ic _ _ (.lit _ rfl)⟩
      rcases ho.2 with ⟨e1, e2⟩ | ⟨g0, cap, cur, e1, _⟩
      · simp [bcall, resolve, invoke, builtin, Builtin.len_, hv, e1, e2, run_underlying (tk_slice hk), goInt]
      · simp [bcall, resolve, invoke, builtin, Builtin.len_, hv, e1, run_underlying (tk_slice hk), goInt]
theorem does_lenStr {P : Program} {s : St} (t ty : TypeId) (x : Operand) (b : ByteArray) (hk : (tyi P t).k = .string) (hx : s.ev x = .ic (.lit (.string b))) :
    Does P s (bcall (call1 .len #[x] #[t]) ty) (.ic (.lit (.int .i64 (b.size : Int)))) s.st :=
  .pure fun G g w act hrel => by
    have h := hrel.ev x
    rw [hx] at h
    refine ⟨_, ?_, .ic _ _ (.lit _ rfl)⟩
    have := h.lit_inv
    simp [bcall, resolve, invoke, builtin, Builtin.len_, this, run_underlying (tk_string hk), goInt]
theorem does_elem {P : Program} {s : St} (t e : TypeId) (x y : Operand) (sz : Nat) (ex : Bool) (xs : List (List IC)) (k : IntKind) (n : Int) (r : List IC) (ht : (tyi P t).there = true) (hk : (tyi P t).k = .slice e) (hsz : (tyi P e).size = sz)
    (hx : s.ev x = .ic (.sl sz ex xs)) (hy : s.ev y = .ic (.lit (.int k n))) (h0 : 0 ≤ n) (hr : xs[n.toNat]? = some r) : Does P s (fun ρ => do pure (.value (← Instr.indexAt t (ρ x) (ρ y)))) (.at r) s.st :=
  .pure fun G g w act hrel => by
    have h := hrel.ev x
    rw [hx] at h
    have h2 := hrel.ev y
    rw [hy] at h2
    have hlt := (List.getElem?_eq_some_iff.1 hr).1
    have hu := tk_slice hk
    have hsize := run_size (there_elem ht hu) w
    have hz : P.cellsOf e = sz := hsz
    rw [hz] at hsize
    have e2 := h2.lit_inv
    generalize hv : act.eval x = v at h
    have h := h.ic_inv
    cases h with
    | nil => simp at hlt
    | sl _ _ _ b o c val hb hl hc hx' hok hs hcell hin =>
      refine ⟨.pointer (some ⟨b, o + n.toNat * sz, none⟩), ?_, .«at» r b (o + n.toNat * sz) (fun q => val n.toNat q) hb hok (fun q z hq => ?_) (fun q z hq => hin _ _ _ _ hr hq)⟩
      · have hn : n < (xs.length : Int) := by omega
        simp [Instr.indexAt, hv, e2, asIntOf, run_underlying hu, h0, hn, hsize, add_block]
      · have := hcell _ _ _ _ hr hq
        rw [add_block] at this
        rw [Nat.add_assoc]
        exact this
theorem does_elemOwn {P : Program} {s : St} (t e : TypeId) (x y : Operand) (i ver : Nat) (m : Bool) (sz : Nat) (xs : List (List IC)) (k : IntKind) (n : Int) (ht : (tyi P t).there = true) (hk : (tyi P t).k = .slice e) (hsz : (tyi P e).size = sz)
    (hx : s.ev x = .own i ver) (hs : s.st[i]? = some (.row m ver e sz xs)) (hy : s.ev y = .ic (.lit (.int k n))) (h0 : 0 ≤ n) (hr : n < (xs.length : Int)) : Does P s (fun ρ => do pure (.value (← Instr.indexAt t (ρ x) (ρ y)))) (.rat i ver n.toNat 0) s.st :=
  .pure fun G g w act hrel => by
    have h := hrel.ev x
    rw [hx] at h
    have h2 := hrel.ev y
    rw [hy] at h2
    have hu := tk_slice hk
    have hsize := run_size (there_elem ht hu) w
    have hz : P.cellsOf e = sz := hsz
    rw [hz] at hsize
    have e2 := h2.lit_inv
    generalize hv : act.eval x = v at h
    cases h with
    | own i ver v hi hv' h1 =>
      obtain rfl := (hv' _ _ _ _ _ hs).2 rfl
      obtain ⟨cells, ho, _⟩ := hrel.sr.obj i _ hs
      rcases ho.2 with ⟨e1, e2⟩ | ⟨g0, cap, cur, e1, _⟩
      · omega
      · refine ⟨.pointer (some ⟨g0, n.toNat * sz, none⟩), ?_, .rat _ _ _ _ _ hi (fun m' v' e' sz' xs' hs' => ?_) rfl⟩
        · simp [Instr.indexAt, hv, e1, e2, asIntOf, run_underlying hu, h0, hr, hsize, add_block]
        · rw [hs] at hs'
          simp only [Option.some.injEq, AObj.row.injEq] at hs'
          obtain ⟨_, rfl, _, rfl, _⟩ := hs'
          exact ⟨Nat.le_refl _, fun _ => ⟨g0, by rw [e1]; rfl, by simp⟩⟩
def sb (s : ByteArray) (i : Int) : Int := ((s.data.toList.getD i.toNat 0).toNat : Int)
theorem does_byte {P : Program} {s : St} (t : TypeId) (x y : Operand) (b : ByteArray) (k : IntKind) (n : Int) (hk : (tyi P t).k = .string) (hx : s.ev x = .ic (.lit (.string b))) (hy : s.ev y = .ic (.lit (.int k n))) (h0 : 0 ≤ n) (h1 : n < (b.size : Int)) :
    Does P s (fun ρ => do pure (.value (← Instr.index t (ρ x) (ρ y)))) (.ic (.lit (.int .u8 (sb b n)))) s.st :=
  .pure fun G g w act hrel => by
    have h := hrel.ev x
    rw [hx] at h
    have h2 := hrel.ev y
    rw [hy] at h2
    have e1 := h.lit_inv
    have e2 := h2.lit_inv
    have hlt : n.toNat < b.size := by omega
    refine ⟨.int .u8 ((b[n.toNat]'hlt).toNat : Int), ?_, ?_⟩
    · simp [Instr.index, e1, e2, asIntOf, run_underlying (tk_string hk), h0, hlt]
    · have : ((b[n.toNat]'hlt).toNat : Int) = sb b n := by
        unfold sb
        have hl : n.toNat < b.data.toList.length := by simpa using hlt
        rw [List.getD_eq_getElem?_getD, List.getElem?_eq_getElem hl]
        rfl
      rw [this]
      exact .ic _ _ (.lit _ rfl)
end Go.Proofs.Ytkkjlmcnfoncdaa.Aw

namespace Go.Proofs.Ytkkjlmcnfoncdaa.Aw
open Go Go.RowKit
abbrev FW (r : Option Nat) : Fence := { Fence.wide with round := r }
theorem callsIn_FW {r : Option Nat} {P : Program} {f : FuncId} {args : Array Value} {w : World} {R : Ending → World → Prop} (n : Nat) : CallsIn (FW r) n P f args w R ↔ Calls P f args w R := callsIn_wide (n := n)
def Spares (ops : Array Oper) (l : List Nat) (t : Nat) : Prop := ∀ i ∈ l, ∀ o, ops[i]? = some o → o.dst ≠ some t
def Fr (ops : Array Oper) (l : List Nat) (a a' : Act) : Prop := ∀ t, Spares ops l t → a'.tmps.getD t undef = a.tmps.getD t undef
theorem Fr.put {ops : Array Oper} {i : Nat} {o : Oper} (ho : ops[i]? = some o) (a : Act) (v : Value) (t : Nat) (h : o.dst ≠ some t) : (a.put o.dst v).tmps.getD t undef = a.tmps.getD t undef := by
  cases hd : o.dst with
  | none => rfl
  | some d =>
    rw [hd] at h
    have hne : d ≠ t := fun e => h (by rw [e])
    show (a.tmps.setIfInBounds d v).getD t undef = _
    simp only [Array.getD_eq_getD_getElem?]
    rw [Array.getElem?_setIfInBounds_ne hne]
theorem Fr.cons {ops : Array Oper} {i : Nat} {rest : List Nat} {o : Oper} (ho : ops[i]? = some o) {a a' : Act} {v : Value} (h : Fr ops rest (a.put o.dst v) a') : Fr ops (i :: rest) a a' := fun t ht =>
  (h t fun j hj => ht j (List.mem_cons_of_mem _ hj)).trans (Fr.put ho a v t (ht i List.mem_cons_self o ho))
def AOL (r : Option Nat) (P : Program) (ops : Array Oper) (l : List Nat) (s : St) (Q : St → Prop) : Prop :=
  ∀ G g w a QQ, Rel G s g w a → (∀ s' g' w' a', Q s' → Rel G s' g' w' a' → Evo s.st g w s'.st g' w' → a'.defers = a.defers → Fr ops l a a' → QQ Exit.normal a' w') → wpOpsIn (FW r) 0 P ops QQ l a w
theorem AOL.nil {r : Option Nat} {P : Program} {ops : Array Oper} {s : St} {Q : St → Prop} (h : Q s) : AOL r P ops [] s Q := fun G g w a QQ hr k => k s g w a h hr (.refl _ _ _) rfl (fun _ _ => rfl)
theorem AOL.mono {r : Option Nat} {P : Program} {ops : Array Oper} {l : List Nat} {s : St} {Q Q' : St → Prop} (h : AOL r P ops l s Q) (hq : ∀ s, Q s → Q' s) : AOL r P ops l s Q' :=
  fun G g w a QQ hr k => h G g w a QQ hr fun s' g' w' a' q => k s' g' w' a' (hq _ q)
def gd (ops : Array Oper) (s : St) : Option (Nat × Bool) → Option Bool
  | none => some true
  | some (j, want) => match ops[j]? with
    | some o => match o.dst with
      | some d => match s.get d with
        | .ic (.lit (.bool b)) => some (b == want)
        | .tup _ => some false
        | _ => none
      | none => none
    | none => none
theorem gd_wanted {G : Nat → Prop} {s : St} {g : Ghost} {w : World} {a : Act} (hr : Rel G s g w a) {ops : Array Oper} {o : Oper} {t : Bool} (h : gd ops s o.guard = some t) : Region.wanted o (yielded ops a.tmps) = t := by
  unfold Region.wanted
  cases hg : o.guard with
  | none => rw [hg] at h; simpa [gd] using h
  | some q =>
    obtain ⟨j, want⟩ := q
    rw [hg] at h
    simp only [gd] at h
    cases ho : ops[j]? with
    | none => simp [ho] at h
    | some p =>
      simp only [ho] at h
      cases hd : p.dst with
      | none => simp [hd] at h
      | some d =>
        simp only [hd] at h
        have hs := hr.slots d
        split at h
        · rename_i b hb
          rw [hb] at hs
          have e := hs.lit_inv
          have : a.tmps[d]? = some (.bool b) := by
            cases ht : a.tmps[d]? with
            | none => simp [Array.getD_eq_getD_getElem?, ht, undef] at e
            | some v => simpa [Array.getD_eq_getD_getElem?, ht] using e
          simp only [yielded, ho, hd, Option.bind_some, this]
          simpa using h
        · rename_i xs hb
          rw [hb] at hs
          obtain ⟨vs, e, _, _⟩ := hs.tup_inv
          simp only [Option.some.injEq] at h
          subst h
          simp only [yielded, ho, hd, Option.bind_some]
          cases ht : a.tmps[d]? with
          | none => rfl
          | some v =>
            have : v = .tuple vs := by simpa [Array.getD_eq_getD_getElem?, ht] using e
            rw [this]
            rfl
        · simp at h
def dstOk (s : St) : Option Tmp → Bool
  | some d => Nat.blt d s.nt
  | none => true
def putS (s : St) (d : Option Tmp) (x : AV) (st : List AObj) : St := match d with
  | some d => { s with env := (d, x) :: s.env, st := st }
  | none => { s with st := st }
def notDefer : Op → Bool
  | .defer _ => false
  | _ => true
theorem Rel.putS {G : Nat → Prop} {s : St} {g g' : Ghost} {w w' : World} {a : Act} {st' : List AObj} {x : AV} {v : Value} (h : Rel G s g w a) (d : Option Tmp) (hd : dstOk s d = true) (k : Evo s.st g w st' g' w') (hs : SR G st' g' w')
    (hx : AR G st' g' w' x v) : Rel G (Aw.putS s d x st') g' w' (a.put d v) := by
  cases d with
  | none => exact h.nop k hs
  | some d => exact h.put d (Nat.le_of_ble_eq_true hd) k hs hx
theorem putS_st (s : St) (d : Option Tmp) (x : AV) (st : List AObj) : (putS s d x st).st = st := by cases d <;> rfl
theorem put_defers (a : Act) (d : Option Tmp) (v : Value) : (a.put d v).defers = a.defers := by cases d <;> rfl
theorem semAt_of {r : Option Nat} {ρ : Operand → Value} {o : Oper} (h : notDefer o.op = true) : o.semAt r ρ = execOp ρ o :=
  Oper.semAt_eq r ρ o fun c e => by rw [e] at h; simp [notDefer] at h
theorem AOL.step {r : Option Nat} {P : Program} {ops : Array Oper} {i : Nat} {rest : List Nat} {s : St} {Q : St → Prop} {o : Oper} {x : AV} {st' : List AObj} (ho : ops[i]? = some o) (hg : gd ops s o.guard = some true) (hd : dstOk s o.dst = true)
    (hn : notDefer o.op = true) (h : Does P s (fun ρ => execOp ρ o) x st') (k : AOL r P ops rest (putS s o.dst x st') Q) : AOL r P ops (i :: rest) s Q := fun G g w a QQ hr kk => by
  obtain ⟨n, v, g', w', hrun, hv, hevo, hsr, hx⟩ := h G g w a hr
  simp only [wpOpsIn, ho, gd_wanted hr hg, if_true]
  refine ⟨fun _ _ => trivial, ?_⟩
  rw [semAt_of hn, hrun]
  have hrel := hr.putS o.dst hd hevo hsr hx
  have := k G g' w' _ QQ hrel fun s' g2 w2 a2 q hr2 he hdf hfr => kk s' g2 w2 a2 q hr2 (hevo.trans (by rw [putS_st] at he; exact he)) (hdf.trans (put_defers _ _ _)) (Fr.cons ho hfr)
  rcases hv with rfl | ⟨rfl, rfl⟩
  · exact this
  · exact this
theorem AOL.skip {r : Option Nat} {P : Program} {ops : Array Oper} {i : Nat} {rest : List Nat} {s : St} {Q : St → Prop} {o : Oper} (ho : ops[i]? = some o) (hg : gd ops s o.guard = some false) (hd : dstOk s o.dst = true)
    (k : AOL r P ops rest (putS s o.dst (.tup []) s.st) Q) : AOL r P ops (i :: rest) s Q := fun G g w a QQ hr kk => by
  simp only [wpOpsIn, ho, gd_wanted hr hg]
  refine ⟨fun _ _ => trivial, ?_⟩
  have hrel := hr.putS o.dst hd (.refl _ _ _) hr.sr (.tup [] (#[] : Array Value) rfl (by simp))
  exact k G g w _ QQ hrel fun s' g2 w2 a2 q hr2 he hdf hfr => kk s' g2 w2 a2 q hr2 (by rw [putS_st] at he; exact he) (hdf.trans (put_defers _ _ _)) (Fr.cons ho hfr)
inductive PV where
  | c (x : IC)
  | agg (xs : List IC)
  | tup (xs : List PV)
  deriving Inhabited
inductive PR (w : World) (ok : Nat → Prop) : PV → Value → Prop where
  | c (x : IC) (v : Value) (h : IR w ok x v) : PR w ok (.c x) v
  | agg (xs : List IC) (vs : Array Value) (h1 : vs.size = xs.length) (h2 : ∀ (k : Nat) (x : IC), xs[k]? = some x → IR w ok x (vs.getD k undef)) : PR w ok (.agg xs) (.agg vs)
  | tup (xs : List PV) (vs : Array Value) (h1 : vs.size = xs.length) (h2 : ∀ (k : Nat) (x : PV), xs[k]? = some x → PR w ok x (vs.getD k undef)) : PR w ok (.tup xs) (.tuple vs)
mutual
def PV.av : PV → AV
  | .c x => .ic x
  | .agg xs => .agg (xs.map .ic)
  | .tup xs => .tup (PV.avs xs)
def PV.avs : List PV → List AV
  | [] => []
  | x :: r => x.av :: PV.avs r
end
theorem PV.avs_eq (l : List PV) : PV.avs l = l.map PV.av := by
  induction l with
  | nil => rfl
  | cons x r ih => simp [PV.avs, ih]
theorem PR.ar {G : Nat → Prop} {s : List AObj} {g : Ghost} {w : World} {x : PV} {v : Value} (h : PR w (Good G s g) x v) : AR G s g w x.av v := by
  induction h with
  | c x v h => exact .ic x v h
  | agg xs vs h1 h2 =>
    refine .agg _ _ (by simpa using h1) (fun k x hk => ?_) (fun u hu => ?_)
    · rw [List.getElem?_map] at hk
      simp only [Option.map_eq_some_iff] at hk
      obtain ⟨y, hy, rfl⟩ := hk
      exact .ic _ _ (h2 k y hy)
    · obtain ⟨i, hi, e⟩ := Array.mem_iff_getElem.1 hu
      have := h2 i _ (List.getElem?_eq_getElem (by omega))
      simp only [Array.getD, hi, dif_pos] at this
      rw [← e]
      exact this.one
  | tup xs vs h1 h2 ih =>
    rw [PV.av, PV.avs_eq]
    refine .tup _ _ (by simpa using h1) (fun k x hk => ?_)
    rw [List.getElem?_map] at hk
    simp only [Option.map_eq_some_iff] at hk
    obtain ⟨y, hy, rfl⟩ := hk
    exact ih k y hy
theorem PR.mono {w w' : World} {ok ok' : Nat → Prop} {x : PV} {v : Value} (h : PR w ok x v) (h1 : ∀ x v, IR w ok x v → IR w' ok' x v) : PR w' ok' x v := by
  induction h with
  | c x v h => exact .c x v (h1 _ _ h)
  | agg xs vs e h2 => exact .agg xs vs e fun k x hk => h1 _ _ (h2 k x hk)
  | tup xs vs e h2 ih => exact .tup xs vs e ih
def noSlI : IC → Bool
  | .lit _ => true
  | .sl _ _ _ => false
  | .mp _ => false
mutual
def noSl : PV → Bool
  | .c x => noSlI x
  | .agg xs => xs.all noSlI
  | .tup xs => noSls xs
def noSls : List PV → Bool
  | [] => true
  | x :: r => noSl x && noSls r
end
theorem noSls_mem {l : List PV} (h : noSls l = true) : ∀ x ∈ l, noSl x = true := by
  induction l with
  | nil => simp
  | cons y r ih =>
    simp only [noSls, Bool.and_eq_true] at h
    intro x hx
    rcases List.mem_cons.1 hx with rfl | hx
    · exact h.1
    · exact ih h.2 x hx
theorem IR.any {w w' : World} {ok ok' : Nat → Prop} {x : IC} {v : Value} (h : IR w ok x v) (hn : noSlI x = true) : IR w' ok' x v := by
  cases x with
  | lit u => cases h with | lit v h => exact .lit v h
  | sl => simp [noSlI] at hn
  | mp => simp [noSlI] at hn
theorem PR.any {w w' : World} {ok ok' : Nat → Prop} {x : PV} {v : Value} (h : PR w ok x v) (hn : noSl x = true) : PR w' ok' x v := by
  induction h with
  | c x v h => exact .c x v (h.any hn)
  | agg xs vs e h2 =>
    simp only [noSl, List.all_eq_true] at hn
    exact .agg xs vs e fun k x hk => (h2 k x hk).any (hn x (List.mem_of_getElem? hk))
  | tup xs vs e h2 ih =>
    simp only [noSl] at hn
    exact .tup xs vs e fun k x hk => ih k x hk (noSls_mem hn x (List.mem_of_getElem? hk))
def entersB (P : Program) (f : FuncId) : Bool := match P.funcs[f]? with
  | some fn => !(fn.name == "runtime.NumGoroutine") && fn.body.isSome
  | none => false
def PureCalls (P : Program) (f : FuncId) (pvs : List PV) (r : PV) : Prop :=
  entersB P f = true ∧ ∀ (ok : Nat → Prop) (w : World) (vals : Array Value), vals.size = pvs.length → (∀ (k : Nat) (x : PV), pvs[k]? = some x → PR w ok x (vals.getD k undef)) →
    Calls P f vals w fun e w' => ∃ v, e = .returned v ∧ PR w' (fun b => ok b ∨ w.heap.size ≤ b) r v ∧ Below w.heap.size w w'
def ACalls (P : Program) (f : FuncId) (xs : List AV) (st : List AObj) (R : AV → List AObj → Prop) : Prop :=
  entersB P f = true ∧ ∀ (G : Nat → Prop) (g : Ghost) (w : World) (vals : Array Value), vals.size = xs.length → SR G st g w → (∀ (k : Nat) (x : AV), xs[k]? = some x → AR G st g w x (vals.getD k undef)) →
    Calls P f vals w fun e w' => ∃ v x st' g', e = .returned v ∧ R x st' ∧ AR G st' g' w' x v ∧ SR G st' g' w' ∧ Evo st g w st' g' w'
theorem Evo.below {s : List AObj} {g : Ghost} {w w' : World} (h : Below w.heap.size w w') : Evo s g w s g w' :=
  ⟨h.os, h.tape, h.output, h.size, fun b hb _ => h.block b hb, fun _ _ h => h, Nat.le_refl _, fun i m t cs _ h => ⟨⟨m, cs, h⟩, rfl⟩, fun i m ver e sz xs _ h => ⟨m, ver, xs, h, Nat.le_refl _, fun _ => rfl⟩, fun i c _ h => ⟨⟨c, h⟩, rfl⟩, fun i c _ h => ⟨⟨c, h⟩, rfl⟩⟩
theorem SR.below {G : Nat → Prop} {s : List AObj} {g : Ghost} {w w' : World} (h : SR G s g w) (hb : Below w.heap.size w w') : SR G s g w' where
  obj := fun i o hi => by
    by_cases hl : o.live = true
    · exact (h.obj i o hi).evo (.below hb) rfl fun b hg => hb.block b ((h.obj i o hi).lt hl hg)
    · cases o <;> simp_all [AObj.live]
      trivial
  inj := h.inj
  new := fun b hq => h.new b (Nat.le_trans hb.size hq)
def toIC (own : Bool) (st : List AObj) : AV → Option IC
  | .ic (.sl sz _ xs) => some (.sl sz false xs)
  | .ic x => some x
  | .own i ver => match st[i]? with
    | some (.row m ver' _ sz xs) => bif Nat.beq ver ver' && (own || !m) then some (.sl sz false xs) else none
    | _ => none
  | .fn (.func f) [] [] => some (.lit (.func (.func f) #[] #[]))
  | _ => none
def toICs (own : Bool) (st : List AObj) : List AV → Option (List IC)
  | [] => some []
  | x :: r => match toIC own st x with
    | some y => match toICs own st r with
      | some z => some (y :: z)
      | none => none
    | none => none
def toPV (own : Bool) (st : List AObj) : AV → Option PV
  | .agg xs => match toICs own st xs with
    | some ys => some (.agg ys)
    | none => none
  | x => match toIC own st x with
    | some y => some (.c y)
    | none => none
def toPVs (own : Bool) (st : List AObj) : List AV → Option (List PV)
  | [] => some []
  | x :: r => match toPV own st x with
    | some y => match toPVs own st r with
      | some z => some (y :: z)
      | none => none
    | none => none
def okOf (own : Bool) (G : Nat → Prop) (s : List AObj) (g : Ghost) : Nat → Prop := fun b => G b ∧ (own = true ∨ ¬ Own s g b)
theorem okOf_false (G : Nat → Prop) (s : List AObj) (g : Ghost) (b : Nat) : okOf false G s g b ↔ Good G s g b := by simp [okOf, Good]
theorem IR.okOf {own : Bool} {G : Nat → Prop} {s : List AObj} {g : Ghost} {w : World} {x : IC} {v : Value} (h : IR w (Good G s g) x v) : IR w (okOf own G s g) x v :=
  h.mono (fun _ _ _ => rfl) (fun b _ hb => ⟨hb.1, .inr hb.2⟩) (Nat.le_refl _)
theorem row_ir {G : Nat → Prop} {s : List AObj} {g : Ghost} {w : World} {i : Nat} {m : Bool} {ver e sz : Nat} {xs : List (List IC)} (hs : s[i]? = some (.row m ver e sz xs)) (hr : SR G s g w) (ok : Nat → Prop) (h1 : ∀ b, Good G s g b → ok b)
    (h2 : ∀ b, gb (g i) = some b → G b → ok b) : IR w ok (.sl sz false xs) (g i) := by
  obtain ⟨cells, ho, hG, hf⟩ := hr.obj i _ hs
  have hf' : Flat w ok sz xs cells := hf.mono fun x v h => h.mono (fun _ _ _ => rfl) (fun b _ hb => h1 b hb) (Nat.le_refl _)
  rcases ho.2 with ⟨e1, e2⟩ | ⟨g0, cap, cur, e1, _, e3, e4, e5, e6, e7⟩
  · rw [e1]
    have : xs = [] := List.length_eq_zero_iff.1 e2
    subst this
    exact .nil _ _ _ _ (by simp) (by simp [maxLen])
  · rw [e1]
    refine hf'.ir false g0 0 cap (Array.getElem?_eq_some_iff.1 e3).1 (h2 g0 (by rw [e1]; rfl) (hG g0 (by rw [e1]; rfl))) e4 e5 (by simp) (fun j u hj => ?_)
    simp only [World.cell?, e3, Nat.zero_add]
    rw [← e7, List.getElem?_take] at hj
    split at hj
    · simpa using hj
    · simp at hj
theorem toIC_ir {own : Bool} {G : Nat → Prop} {s : List AObj} {g : Ghost} {w : World} {x : AV} {v : Value} {y : IC} (h : AR G s g w x v) (hr : SR G s g w) (hy : toIC own s x = some y) : IR w (okOf own G s g) y v := by
  cases x with
  | ic x =>
    cases x with
    | lit u =>
      obtain rfl : IC.lit u = y := by simpa [toIC] using hy
      exact h.ic_inv.okOf
    | sl sz ex xs =>
      obtain rfl : IC.sl sz false xs = y := by simpa [toIC] using hy
      exact h.ic_inv.inexact.okOf
    | mp es =>
      obtain rfl : IC.mp es = y := by simpa [toIC] using hy
      exact h.ic_inv.okOf
  | own i ver =>
    simp only [toIC] at hy
    split at hy
    · rename_i m ver' e sz xs hs
      cases hb : (Nat.beq ver ver' && (own || !m)) with
      | false => rw [hb] at hy; simp at hy
      | true =>
        rw [hb] at hy
        obtain rfl : IC.sl sz false xs = y := by simpa using hy
        simp only [Bool.and_eq_true, Bool.or_eq_true, Bool.not_eq_true'] at hb
        have e := Nat.eq_of_beq_eq_true hb.1
        subst e
        cases h with
        | own i ver v hi hv h1 =>
          obtain rfl := (hv _ _ _ _ _ hs).2 rfl
          refine row_ir hs hr _ (fun b hb => ⟨hb.1, .inr hb.2⟩) (fun b hgb hG => ⟨hG, ?_⟩)
          rcases hb.2 with hb | hb
          · exact .inl hb
          · refine .inr fun ⟨j, o, hj, hm, hgj⟩ => ?_
            have := hr.inj i j _ o b hs hj rfl (by cases o <;> simp_all [AObj.mu, AObj.live]) hgb hgj
            subst this
            rw [hs] at hj
            simp only [Option.some.injEq] at hj
            subst hj
            simp [AObj.mu, hb] at hm
    · simp at hy
  | fn f a b =>
    cases f with
    | func f =>
      cases a with
      | cons => simp [toIC] at hy
      | nil =>
        cases b with
        | cons => simp [toIC] at hy
        | nil =>
          obtain ⟨vf, vc, rfl, h1, h2, _⟩ := h.fn_inv
          obtain rfl : IC.lit (.func (.func f) #[] #[]) = y := by simpa [toIC] using hy
          have e1 : vf = #[] := by apply Array.eq_empty_of_size_eq_zero; simpa using h1
          have e2 : vc = #[] := by apply Array.eq_empty_of_size_eq_zero; simpa using h2
          subst e1 e2
          exact .lit _ rfl
    | _ => simp [toIC] at hy
  | _ => simp [toIC] at hy
theorem toICs_get {own : Bool} {s : List AObj} {xs : List AV} {ys : List IC} (h : toICs own s xs = some ys) : xs.length = ys.length ∧ ∀ (k : Nat) (x : AV) (y : IC), xs[k]? = some x → ys[k]? = some y → toIC own s x = some y := by
  induction xs generalizing ys with
  | nil =>
    obtain rfl : [] = ys := by simpa [toICs] using h
    simp
  | cons x r ih =>
    simp only [toICs] at h
    cases hx : toIC own s x with
    | none => simp [hx] at h
    | some y =>
      cases hr : toICs own s r with
      | none => simp [hx, hr] at h
      | some z =>
        obtain rfl : y :: z = ys := by simpa [hx, hr] using h
        obtain ⟨h1, h2⟩ := ih hr
        refine ⟨by simp [h1], fun k a b ha hb => ?_⟩
        cases k with
        | zero => simp at ha hb; subst ha hb; exact hx
        | succ k => simp at ha hb; exact h2 k a b ha hb
theorem toPV_pr {own : Bool} {G : Nat → Prop} {s : List AObj} {g : Ghost} {w : World} {x : AV} {v : Value} {y : PV} (h : AR G s g w x v) (hr : SR G s g w) (hy : toPV own s x = some y) : PR w (okOf own G s g) y v := by
  have single : (∀ z, toIC own s x = some z → y = .c z) → (∃ z, toIC own s x = some z) → PR w (okOf own G s g) y v := by
    rintro h1 ⟨z, hz⟩
    rw [h1 z hz]
    exact .c _ _ (toIC_ir h hr hz)
  cases x with
  | agg xs =>
    simp only [toPV] at hy
    cases hx : toICs own s xs with
    | none => simp [hx] at hy
    | some ys =>
      obtain rfl : PV.agg ys = y := by simpa [hx] using hy
      obtain ⟨vs, rfl, h1, h2, h3⟩ := h.agg_inv
      obtain ⟨l, hg⟩ := toICs_get hx
      refine .agg ys vs (by omega) fun k z hk => ?_
      have hlt := (List.getElem?_eq_some_iff.1 hk).1
      have := hg k _ z (List.getElem?_eq_getElem (by omega)) hk
      exact toIC_ir (h2 k _ (List.getElem?_eq_getElem (by omega))) hr this
  | _ =>
    refine single (fun z hz => ?_) ?_ <;> simp only [toPV] at hy <;> split at hy <;> simp_all
theorem toPVs_get {own : Bool} {s : List AObj} {xs : List AV} {ys : List PV} (h : toPVs own s xs = some ys) : xs.length = ys.length ∧ ∀ (k : Nat) (x : AV) (y : PV), xs[k]? = some x → ys[k]? = some y → toPV own s x = some y := by
  induction xs generalizing ys with
  | nil =>
    obtain rfl : [] = ys := by simpa [toPVs] using h
    simp
  | cons x r ih =>
    simp only [toPVs] at h
    cases hx : toPV own s x with
    | none => simp [hx] at h
    | some y =>
      cases hr : toPVs own s r with
      | none => simp [hx, hr] at h
      | some z =>
        obtain rfl : y :: z = ys := by simpa [hx, hr] using h
        obtain ⟨h1, h2⟩ := ih hr
        refine ⟨by simp [h1], fun k a b ha hb => ?_⟩
        cases k with
        | zero => simp at ha hb; subst ha hb; exact hx
        | succ k => simp at ha hb; exact h2 k a b ha hb
theorem call_run {P : Program} {f : FuncId} (he : entersB P f = true) {G : Nat → Prop} {s : St} {g : Ghost} {w : World} {a : Act} (hr : Rel G s g w a) {x : Operand} {args : Array Operand} {ts : Array TypeId} {ty : TypeId} {first cap : List AV}
    (hf : s.ev x = .fn (.func f) first cap) : ∃ vals : Array Value, (bcall { callee := .value x, args := args, argTypes := ts } ty a.eval).run P w = .ok (.enter f vals) w ∧ vals.size = (first ++ args.toList.map s.ev ++ cap).length ∧
      ∀ (k : Nat) (y : AV), (first ++ args.toList.map s.ev ++ cap)[k]? = some y → AR G s.st g w y (vals.getD k undef) := by
  have h := hr.ev x
  rw [hf] at h
  obtain ⟨vf, vc, e, h1, h2, h3, h4⟩ := h.fn_inv
  unfold entersB at he
  cases hfn : P.funcs[f]? with
  | none => simp [hfn] at he
  | some fn =>
    simp only [hfn, Bool.and_eq_true, Bool.not_eq_true'] at he
    have hb : fn.body.isNone = false := by cases hb : fn.body <;> simp_all
    refine ⟨vf ++ args.map a.eval ++ vc, ?_, by simp [h1, h2], fun k y hk => ?_⟩
    · have hn : (fn.name == "runtime.NumGoroutine") = false := he.1
      simp only [beq_eq_false_iff_ne, ne_eq] at hn
      simp [bcall, resolve, Deferred.ofValue, e, invoke, callFunc, hfn, hn]
      intro hnone
      simp [hnone] at he
    · rw [getD_toList, List.getD_eq_getElem?_getD]
      simp only [Array.toList_append, Array.toList_map]
      by_cases k1 : k < first.length
      · rw [List.append_assoc, List.getElem?_append_left k1] at hk
        have := h3 k y hk
        rw [getD_toList, List.getD_eq_getElem?_getD] at this
        rw [List.append_assoc, List.getElem?_append_left (by simp; omega)]
        exact this
      · by_cases k2 : k < first.length + args.size
        · rw [List.append_assoc, List.getElem?_append_right (by omega), List.getElem?_append_left (by simp; omega), List.getElem?_map] at hk
          simp only [Option.map_eq_some_iff] at hk
          obtain ⟨o, ho, rfl⟩ := hk
          rw [List.append_assoc, List.getElem?_append_right (by simp; omega), List.getElem?_append_left (by simp; omega), List.getElem?_map]
          simp only [Array.length_toList, h1, ho]
          exact hr.ev o
        · rw [List.getElem?_append_right (by simp; omega)] at hk
          have := h4 _ y hk
          rw [getD_toList, List.getD_eq_getElem?_getD] at this
          rw [List.getElem?_append_right (by simp; omega)]
          simp only [List.length_append, List.length_map, Array.length_toList, h1] at this ⊢
          exact this
theorem AOL.acall {r : Option Nat} {P : Program} {ops : Array Oper} {i : Nat} {rest : List Nat} {s : St} {Q : St → Prop} {o : Oper} {x : Operand} {args : Array Operand} {ts : Array TypeId} {f : FuncId} {first cap : List AV} {R : AV → List AObj → Prop}
    (ho : ops[i]? = some o) (hop : o.op = .call { callee := .value x, args := args, argTypes := ts }) (hg : gd ops s o.guard = some true) (hd : dstOk s o.dst = true) (hf : s.ev x = .fn (.func f) first cap)
    (hc : ACalls P f (first ++ args.toList.map s.ev ++ cap) s.st R) (k : ∀ y st', R y st' → AOL r P ops rest (putS s o.dst y st') Q) : AOL r P ops (i :: rest) s Q := fun G g w a QQ hr kk => by
  obtain ⟨vals, hrun, hsz, hval⟩ := call_run hc.1 hr (args := args) (ts := ts) (ty := o.type) hf
  simp only [wpOpsIn, ho, gd_wanted hr hg, if_true]
  refine ⟨fun _ _ => trivial, ?_⟩
  have hn : notDefer o.op = true := by rw [hop]; rfl
  have hrun' : (execOp a.eval o).run P w = .ok (.enter f vals) w := by unfold execOp; rw [hop]; exact hrun
  rw [semAt_of hn, hrun']
  refine ⟨by simp [Fence.wide], (callsIn_FW _).2 ((hc.2 G g w vals hsz hr.sr hval).mono ?_)⟩
  rintro e w' ⟨v, y, st', g', rfl, hR, hx, hsr, hevo⟩
  exact k y st' hR G g' w' _ QQ (hr.putS o.dst hd hevo hsr hx) fun s' g2 w2 a2 q hr2 he hdf hfr => kk s' g2 w2 a2 q hr2 (hevo.trans (by rw [putS_st] at he; exact he)) (hdf.trans (put_defers _ _ _)) (Fr.cons ho hfr)
theorem PureCalls.acalls {P : Program} {f : FuncId} {xs : List AV} {st : List AObj} {pvs : List PV} {r : PV} {own : Bool} (h : PureCalls P f pvs r) (hx : toPVs own st xs = some pvs) (hn : (!own || noSl r) = true) : ACalls P f xs st fun y st' => y = r.av ∧ st' = st := by
  refine ⟨h.1, fun G g w vals hsz hr hval => ?_⟩
  obtain ⟨hl, hg⟩ := toPVs_get hx
  refine (h.2 (okOf own G st g) w vals (by omega) (fun k y hk => ?_)).mono ?_
  · have hlt := (List.getElem?_eq_some_iff.1 hk).1
    exact toPV_pr (hval k _ (List.getElem?_eq_getElem (by omega))) hr (hg k _ y (List.getElem?_eq_getElem (by omega)) hk)
  · rintro e w' ⟨v, rfl, hp, hb⟩
    refine ⟨v, _, st, g, rfl, ⟨rfl, rfl⟩, ?_, hr.below hb, .below hb⟩
    cases own with
    | true => exact (PR.any (ok' := Good G st g) (w' := w') hp (by simpa using hn)).ar
    | false =>
      refine (hp.mono fun x v h => h.mono (fun _ _ _ => rfl) (fun b hbs hb' => ?_) (Nat.le_refl _)).ar
      rcases hb' with hb' | hb'
      · exact (okOf_false _ _ _ _).1 hb'
      · exact ⟨hr.new b hb', fun ho => by have := Own.lt hr ho; omega⟩
theorem AOL.pcall {r : Option Nat} {P : Program} {ops : Array Oper} {i : Nat} {rest : List Nat} {s : St} {Q : St → Prop} {o : Oper} {x : Operand} {args : Array Operand} {ts : Array TypeId} {f : FuncId} {first cap : List AV} {pvs : List PV} {y : PV} (own : Bool)
    (ho : ops[i]? = some o) (hop : o.op = .call { callee := .value x, args := args, argTypes := ts }) (hg : gd ops s o.guard = some true) (hd : dstOk s o.dst = true) (hf : s.ev x = .fn (.func f) first cap)
    (hx : toPVs own s.st (first ++ args.toList.map s.ev ++ cap) = some pvs) (hc : PureCalls P f pvs y) (hn : (!own || noSl y) = true) (k : AOL r P ops rest (putS s o.dst y.av s.st) Q) : AOL r P ops (i :: rest) s Q :=
  AOL.acall ho hop hg hd hf (hc.acalls hx hn) (by rintro y st' ⟨rfl, rfl⟩; exact k)
end Go.Proofs.Ytkkjlmcnfoncdaa.Aw

namespace Go.Proofs.Ytkkjlmcnfoncdaa.Aw
open Go Go.RowKit
def DM (B : Nat) (w : World) (ds : List Deferred) : Prop := ∃ qs : List Nat, ds = qs.map (fun q => { target := .collected q, args := #[] }) ∧ qs.Nodup ∧ ∀ q ∈ qs, B ≤ q ∧ w.heap[q]? = some (.deferred (some []))
theorem not_own {G : Nat → Prop} {s : List AObj} {g : Ghost} {w : World} (h : SR G s g w) {q : Nat} {o : Obj} (hq : w.heap[q]? = some o) (hc : ∀ c e f, o ≠ .cells c e f) (hlp : ∀ r, o ≠ .loop r) (hmp : ∀ e c, o ≠ .map e c) : ¬ Own s g q := by
  rintro ⟨i, p, hi, hm, hg⟩
  have := h.obj i p hi
  cases p with
  | dead => simp [AObj.mu] at hm
  | var m t cs =>
    obtain ⟨b, vs, h1, h2, h3, _⟩ := this
    rw [h1] at hg
    obtain rfl : b = q := by simpa [gb] using hg
    rw [h3] at hq
    exact hc _ _ _ (Option.some.inj hq).symm
  | row m ver e sz xs =>
    obtain ⟨cells, ⟨hl, h1⟩, _⟩ := this
    rcases h1 with ⟨h1, _⟩ | ⟨g0, cap, cur, e1, e2, e3, r⟩
    · rw [h1] at hg; simp [gb] at hg
    · rw [e1] at hg
      obtain rfl : g0 = q := by simpa [gb] using hg
      rw [e3] at hq
      exact hc _ _ _ (Option.some.inj hq).symm
  | lp c =>
    obtain ⟨b, r, h1, h2, h3, _⟩ := this
    rw [h1] at hg
    obtain rfl : b = q := by simpa [gb] using hg
    rw [h3] at hq
    exact hlp _ (Option.some.inj hq).symm
  | mpo es =>
    obtain ⟨b, ents, clk, h1, h2, h3, _⟩ := this
    rw [h1] at hg
    obtain rfl : b = q := by simpa [gb] using hg
    rw [h3] at hq
    exact hmp _ _ (Option.some.inj hq).symm
theorem DM.evo {B : Nat} {G : Nat → Prop} {s s' : List AObj} {g g' : Ghost} {w w' : World} {ds : List Deferred} (h : DM B w ds) (hr : SR G s g w) (k : Evo s g w s' g' w') : DM B w' ds := by
  obtain ⟨qs, e, hn, hq⟩ := h
  exact ⟨qs, e, hn, fun q hqs => ⟨(hq q hqs).1, (k.heap q (Array.getElem?_eq_some_iff.1 (hq q hqs).2).1 (not_own hr (hq q hqs).2 (by simp) (by simp) (by simp))).trans (hq q hqs).2⟩⟩
def AWp (r : Option Nat) (P : Program) (c : Code) (s : St) (Q : Exit → St → Prop) : Prop :=
  ∀ G g w a B QQ, Rel G s g w a → B ≤ w.heap.size → DM B w a.defers →
    (∀ e s' g' w' a', Q e s' → Rel G s' g' w' a' → Evo s.st g w s'.st g' w' → DM B w' a'.defers → QQ e a' w') → c.wpIn (FW r) 0 P QQ a w
section rules
variable {r : Option Nat} {P : Program} {s : St} {Q : Exit → St → Prop}
theorem AWp.mono {c : Code} {Q' : Exit → St → Prop} (h : AWp r P c s Q) (hq : ∀ e s, Q e s → Q' e s) : AWp r P c s Q' := fun G g w a B QQ hr hB hd k => h G g w a B QQ hr hB hd fun e s' g' w' a' q => k e s' g' w' a' (hq _ _ q)
theorem AWp.skip (h : Q .normal s) : AWp r P .skip s Q := fun G g w a B QQ hr hB hd k => wpIn_skip (k _ s g w a h hr (.refl _ _ _) hd)
theorem AWp.ret (h : Q .ret s) : AWp r P .ret s Q := fun G g w a B QQ hr hB hd k => wpIn_ret (k _ s g w a h hr (.refl _ _ _) hd)
theorem AWp.exit {id : Nat} (h : Q (.exit id) s) : AWp r P (.exit id) s Q := fun G g w a B QQ hr hB hd k => wpIn_exit (k _ s g w a h hr (.refl _ _ _) hd)
def Thn (Q1 : St → Prop) (Q : Exit → St → Prop) : Exit → St → Prop
  | .normal, s => Q1 s
  | e, s => Q e s
theorem AWp.seq {x y : Code} (h : AWp r P x s (Thn (fun s' => AWp r P y s' Q) Q)) : AWp r P (.seq x y) s Q := fun G g w a B QQ hr hB hd k => by
  refine wpIn_seq (h G g w a B _ hr hB hd fun e s' g' w' a' q hr' he hd' => ?_)
  cases e with
  | normal => exact q G g' w' a' B QQ hr' (Nat.le_trans hB he.size) hd' fun e2 s2 g2 w2 a2 q2 hr2 he2 hd2 => k e2 s2 g2 w2 a2 q2 hr2 (he.trans he2) hd2
  | _ => exact k _ s' g' w' a' q hr' he hd'
theorem AWp.cond {c : Operand} {x y : Code} {b : Bool} (hc : s.ev c = .ic (.lit (.bool b))) (ht : b = true → AWp r P x s Q) (hf : b = false → AWp r P y s Q) : AWp r P (.cond c x y) s Q := fun G g w a B QQ hr hB hd k => by
  have h := hr.ev c
  rw [hc] at h
  refine wpIn_cond h.lit_inv ?_
  cases b with
  | true => exact ht rfl G g w a B QQ hr hB hd k
  | false => exact hf rfl G g w a B QQ hr hB hd k
theorem AWp.cond_t {c : Operand} {x y : Code} (hc : s.ev c = .ic (.lit (.bool true))) (h : AWp r P x s Q) : AWp r P (.cond c x y) s Q := .cond hc (fun _ => h) (by simp)
theorem AWp.cond_f {c : Operand} {x y : Code} (hc : s.ev c = .ic (.lit (.bool false))) (h : AWp r P y s Q) : AWp r P (.cond c x y) s Q := .cond hc (by simp) (fun _ => h)
def Blk (id : Nat) (Q : Exit → St → Prop) : Exit → St → Prop
  | .exit id', s => if id' = id then Q .normal s else Q (.exit id') s
  | e, s => Q e s
theorem AWp.block {id : Nat} {c : Code} (h : AWp r P c s (Blk id Q)) : AWp r P (.block id c) s Q := fun G g w a B QQ hr hB hd k => by
  refine wpIn_block (h G g w a B _ hr hB hd fun e s' g' w' a' q hr' he hd' => ?_)
  cases e with
  | exit id' =>
    simp only [Exit.inBlock]
    simp only [Blk] at q
    split
    · rename_i e; rw [if_pos e] at q; exact k _ s' g' w' a' q hr' he hd'
    · rename_i e; rw [if_neg e] at q; exact k _ s' g' w' a' q hr' he hd'
  | _ => exact k _ s' g' w' a' q hr' he hd'
theorem AWp.loop {c : Code} (I : Nat → St → Prop) (n : Nat) (h0 : I n s) (round : ∀ n s, I n s → AWp r P c s (Thn (fun s' => ∃ m, m < n ∧ I m s') Q)) : AWp r P (.loop c) s Q := fun G g w a B QQ hr hB hd k => by
  let J : Nat → Act → World → Prop := fun m a' w' => ∃ s' g', I m s' ∧ Rel G s' g' w' a' ∧ Evo s.st g w s'.st g' w' ∧ DM B w' a'.defers
  have hJ : ∀ a' w', (∃ m, J m a' w') → ∃ m, J m a' w' ∧ ∀ k, J k a' w' → m ≤ k := fun a' w' ⟨m, hm⟩ => by
    induction m using Nat.strongRecOn with
    | _ m ih =>
      by_cases h : ∃ k, k < m ∧ J k a' w'
      · obtain ⟨k, hk, hj⟩ := h
        exact ih k hk hj
      · exact ⟨m, hm, fun k hk => by
          rcases Nat.lt_or_ge k m with hlt | hge
          · exact absurd ⟨k, hlt, hk⟩ h
          · exact hge⟩
  let μ : Act → World → Nat := fun a' w' => Classical.epsilon fun m => J m a' w' ∧ ∀ k, J k a' w' → m ≤ k
  have hμ : ∀ a' w', (∃ m, J m a' w') → J (μ a' w') a' w' ∧ ∀ k, J k a' w' → μ a' w' ≤ k := fun a' w' h => Classical.epsilon_spec (hJ a' w' h)
  refine wpIn_loop (fun a' w' => ∃ m, J m a' w') μ ⟨n, s, g, h0, hr, .refl _ _ _, hd⟩ fun a1 w1 h1 => ?_
  obtain ⟨⟨s1, g1, i1, r1, e1, d1⟩, hmin⟩ := hμ a1 w1 h1
  refine round _ s1 i1 G g1 w1 a1 B _ r1 (Nat.le_trans hB e1.size) d1 fun e s2 g2 w2 a2 q r2 e2 d2 => ?_
  cases e with
  | normal =>
    obtain ⟨m, hlt, hm⟩ := q
    have hj : J m a2 w2 := ⟨s2, g2, hm, r2, e1.trans e2, d2⟩
    exact ⟨⟨m, hj⟩, Nat.lt_of_le_of_lt ((hμ a2 w2 ⟨m, hj⟩).2 m hj) hlt⟩
  | _ => exact k _ s2 g2 w2 a2 q r2 (e1.trans e2) d2
def Sub (s' s : St) : Prop := s'.nt = s.nt ∧ s'.st = s.st ∧ ∀ p ∈ s'.env, s.get p.1 = p.2
theorem look_mem (env : List (Nat × AV)) (t : Nat) : look env t = .any ∨ ∃ p ∈ env, p.1 = t ∧ p.2 = look env t := by
  induction env with
  | nil => exact .inl rfl
  | cons p r ih =>
    obtain ⟨k, x⟩ := p
    simp only [look]
    cases h : Nat.beq k t with
    | true => exact .inr ⟨(k, x), List.mem_cons_self, Nat.eq_of_beq_eq_true h, by simp⟩
    | false =>
      simp only [cond_false]
      rcases ih with h' | ⟨p, hp, e1, e2⟩
      · exact .inl h'
      · exact .inr ⟨p, List.mem_cons_of_mem _ hp, e1, e2⟩
theorem Rel.sub {G : Nat → Prop} {s s' : St} {g : Ghost} {w : World} {a : Act} (h : Rel G s g w a) (hs : Sub s' s) : Rel G s' g w a := by
  obtain ⟨h1, h2, h3⟩ := hs
  refine ⟨fun t => ?_, by rw [h1]; exact h.size, by rw [h2]; exact h.sr⟩
  rw [h2]
  rcases look_mem s'.env t with e | ⟨p, hp, e1, e2⟩
  · show AR G s.st g w (look s'.env t) _
    rw [e]
    exact .any _
  · show AR G s.st g w (look s'.env t) _
    rw [← e2, ← h3 p hp, e1]
    exact h.slots t
theorem AWp.sub {c : Code} {s' : St} (hs : Sub s' s) (h : AWp r P c s' Q) : AWp r P c s Q := fun G g w a B QQ hr hB hd k =>
  h G g w a B QQ (hr.sub hs) hB hd fun e s2 g2 w2 a2 q r2 e2 d2 => k e s2 g2 w2 a2 q r2 (by rw [← hs.2.1]; exact e2) d2
theorem AWp.region {id : Nat} {ops : Array Oper} (h : AOL r P ops (List.range ops.size) s (Q .normal)) : AWp r P (.region id ops false) s Q := fun G g w a B QQ hr hB hd k =>
  wpIn_region (h G g w a QQ hr fun s' g' w' a' q hr' he hdf _ => k _ s' g' w' a' q hr' he (by rw [hdf]; exact hd.evo hr.sr he))
end rules
def restr (T : St) (ts : List Nat) : St := { T with env := ts.map fun t => (t, T.get t) }
theorem look_restr (T : St) (ts : List Nat) (t : Nat) : look (ts.map fun t => (t, T.get t)) t = if t ∈ ts then T.get t else .any := by
  induction ts with
  | nil => rfl
  | cons k r ih =>
    simp only [List.map_cons, look]
    cases h : Nat.beq k t with
    | true =>
      have := Nat.eq_of_beq_eq_true h
      subst this
      simp
    | false =>
      have hne : ¬ t = k := fun e => by subst e; simp [Nat.beq_refl] at h
      simp only [cond_false, ih, List.mem_cons, hne, false_or]
def bindsE (e : Edge) : Bool := Region.binds .any e
def aheadB (ops : Array Oper) : Nat → Nat → Nat → Bool
  | 0, _, _ => false
  | n + 1, i, j => match ops[i]? with
    | some o => o.after.any fun e => bindsE e && (Nat.beq e.on j || aheadB ops n e.on j)
    | none => false
def dstOf (ops : Array Oper) (j : Nat) : Option Nat := (ops[j]?).bind (·.dst)
def drawB (ops : Array Oper) (q : Nat) : Bool :=
  Nat.ble q ops.size &&
  (List.range ops.size).all (fun i => match ops[i]? with
    | some o => o.after.all (fun e => !bindsE e || Nat.blt e.on i) &&
      (bif Nat.blt i q then
        (match o.dst with | some d => (List.range ops.size).all (fun j => Nat.beq i j || !(dstOf ops j == some d)) | none => false) &&
        (o.looksAt ops).all (fun t => (List.range ops.size).all (fun j => !(dstOf ops j == some t) || (Nat.ble q j || o.after.any (fun e => bindsE e && Nat.beq e.on j))))
      else (List.range i).all (fun j => aheadB ops ops.size i j))
    | none => false)
theorem wpOpIn_of {F : Fence} {n : Nat} {P : Program} {ops : Array Oper} {Q : Exit → Act → World → Prop} {K : Act → World → Prop} {i : Nat} {a : Act} {w : World}
    (h : wpOpIn F n P ops (fun e a w => match e with | .normal => K a w | e => Q e a w) i K a w) : wpOpIn F n P ops Q i K a w := by
  unfold wpOpIn at *
  split
  · rename_i ho; simpa [ho] using h
  · rename_i o ho
    simp only [ho] at h
    split
    · rename_i hw
      simp only [hw, if_true] at h
      unfold Oper.wpIn at *
      refine ⟨h.1, ?_⟩
      have hh := h.2
      generalize (o.semAt F.round a.eval).run P w = r at *
      cases r with
      | ok x w' =>
        cases x <;> simp only [Oper.uponIn] at hh ⊢ <;>
          first
            | exact hh
            | exact ⟨hh.1, CallsIn.mono hh.2 (fun e w'' he => by cases e <;> exact he)⟩
            | exact ⟨hh.1, RowsIn.mono hh.2 (fun _ _ he => he)⟩
            | exact ⟨hh.1, RoundIn.mono hh.2 (fun e w'' he => by cases e <;> exact he)⟩
      | halt x w' => cases x <;> simp only [Oper.uponIn] at hh ⊢ <;> exact hh
    · rename_i hw
      simp only [hw] at h
      exact h
section draw
variable {r : Option Nat} {P : Program} {ops : Array Oper}
theorem mem_ready {md : Region.Mode} {listed : Array Bool} {i : Nat} (h : i ∈ Region.ready md ops listed) : i < ops.size ∧ listed.getD i true = false ∧ ∃ o, ops[i]? = some o ∧ ∀ e ∈ o.after, Region.binds md e = true → listed.getD e.on false = true := by
  unfold Region.ready at h
  rw [List.mem_filter, List.mem_range] at h
  obtain ⟨h1, h2⟩ := h
  simp only [Bool.and_eq_true, Bool.not_eq_true'] at h2
  obtain ⟨h2, h3⟩ := h2
  cases ho : ops[i]? with
  | none => simp [ho] at h3
  | some o =>
    refine ⟨h1, h2, o, rfl, fun e he hb => ?_⟩
    simp only [ho, Option.map_some, Option.getD_some, Array.all_eq_true_iff_forall_mem] at h3
    have := h3 e he
    simpa [hb] using this
def Closed (ops : Array Oper) (listed : Array Bool) : Prop := ∀ i o, listed.getD i false = true → ops[i]? = some o → ∀ e ∈ o.after, bindsE e = true → listed.getD e.on false = true
theorem ahead_listed {listed : Array Bool} (hc : Closed ops listed) : ∀ (n i j : Nat), aheadB ops n i j = true → ∀ o, ops[i]? = some o → (∀ e ∈ o.after, bindsE e = true → listed.getD e.on false = true) → listed.getD j false = true
  | 0, i, j, h, o, ho, he => by simp [aheadB] at h
  | n + 1, i, j, h, o, ho, he => by
    simp only [aheadB, ho, Array.any_eq_true] at h
    obtain ⟨k, hk, h⟩ := h
    simp only [Bool.and_eq_true, Bool.or_eq_true] at h
    obtain ⟨hb, h⟩ := h
    have hl := he _ (Array.getElem_mem hk) hb
    rcases h with h | h
    · rw [Nat.eq_of_beq_eq_true h] at hl
      exact hl
    · cases ho' : ops[(o.after[k]).on]? with
      | none =>
        cases n with
        | zero => simp [aheadB] at h
        | succ n => simp [aheadB, ho'] at h
      | some o' => exact ahead_listed hc n _ j h o' ho' (hc _ o' hl ho')
theorem getD_setB (l : Array Bool) (i j : Nat) (d : Bool) (h : i < l.size) : (l.setIfInBounds i true).getD j d = if i = j then true else l.getD j d := by
  by_cases e : i = j
  · subst e
    simp [Array.getD, h]
  · rw [if_neg e]
    simp only [Array.getD_eq_getD_getElem?]
    rw [Array.getElem?_setIfInBounds_ne e]
theorem closed_set {listed : Array Bool} {i : Nat} {o : Oper} (hc : Closed ops listed) (ho : ops[i]? = some o) (hi : i < listed.size) (he : ∀ e ∈ o.after, bindsE e = true → listed.getD e.on false = true) : Closed ops (listed.setIfInBounds i true) := by
  intro j p hj hp e hem hb
  rw [getD_setB _ _ _ _ hi] at hj ⊢
  split
  · rfl
  · by_cases e' : i = j
    · subst e'
      rw [ho] at hp
      obtain rfl := Option.some.inj hp
      exact he e hem hb
    · rw [if_neg e'] at hj
      exact hc j p hj hp e hem hb
theorem ready_of {listed : Array Bool} {i : Nat} {o : Oper} (ho : ops[i]? = some o) (hl : listed.getD i true = false) (he : ∀ e ∈ o.after, bindsE e = true → listed.getD e.on false = true) : i ∈ Region.ready .any ops listed := by
  unfold Region.ready
  rw [List.mem_filter, List.mem_range]
  refine ⟨(Array.getElem?_eq_some_iff.1 ho).1, ?_⟩
  simp only [hl, Bool.not_false, Bool.true_and, ho, Option.map_some, Option.getD_some, Array.all_eq_true_iff_forall_mem]
  intro e hem
  cases hb : Region.binds .any e with
  | false => rfl
  | true => simpa using he e hem hb
theorem getD_tf {l : Array Bool} {j : Nat} (h : j < l.size) (a b : Bool) : l.getD j a = l.getD j b := by simp [Array.getD, h]
theorem tail_any {QQ : Exit → Act → World → Prop} (hE : ∀ i o, ops[i]? = some o → ∀ e ∈ o.after, bindsE e = true → e.on < i) :
    ∀ (fuel i : Nat) (listed : Array Bool) (a : Act) (w : World), listed.size = ops.size → i + fuel = ops.size → (∀ j, j < i → listed.getD j true = true) → (∀ j, i ≤ j → j < ops.size → listed.getD j true = false) → Closed ops listed →
      (∀ j o, i ≤ j → ops[j]? = some o → ∀ k, i ≤ k → k < j → aheadB ops ops.size j k = true) → wpOpsIn (FW r) 0 P ops QQ ((List.range fuel).map (i + ·)) a w → wpAnyIn (FW r) 0 P .any ops QQ fuel listed a w
  | 0, i, listed, a, w, hs, hf, h1, h2, hc, ha, h => by
    refine ⟨?_, h⟩
    rw [List.eq_nil_iff_forall_not_mem]
    intro j hj
    obtain ⟨hj1, hj2, _⟩ := mem_ready hj
    have := h1 j (by omega)
    rw [this] at hj2
    simp at hj2
  | fuel + 1, i, listed, a, w, hs, hf, h1, h2, hc, ha, h => by
    have hrange : (List.range (fuel + 1)).map (i + ·) = i :: (List.range fuel).map ((i + 1) + ·) := by
      rw [List.range_succ_eq_map, List.map_cons, List.map_map]
      congr 1
      apply List.map_congr_left
      intro x _
      show i + (x + 1) = i + 1 + x
      omega
    rw [hrange, wpOpsIn_cons] at h
    have hil : i < ops.size := by omega
    have only : ∀ j ∈ Region.ready .any ops listed, j = i := fun j hj => by
      obtain ⟨hj1, hj2, o, ho, he⟩ := mem_ready hj
      rcases Nat.lt_trichotomy j i with hlt | e | hgt
      · rw [h1 j hlt] at hj2; simp at hj2
      · exact e
      · have := ahead_listed hc _ j i (ha j o (by omega) ho i (Nat.le_refl _) hgt) o ho he
        rw [getD_tf (by omega) false true, h2 i (Nat.le_refl _) hil] at this
        simp at this
    refine ⟨fun hnil => ?_, fun j hj => ?_⟩
    · exfalso
      have ho := Array.getElem?_eq_getElem hil
      have hmem := ready_of ho (h2 i (Nat.le_refl _) hil) (fun e hem hb => by
        have := hE i _ ho e hem hb
        rw [getD_tf (by omega) false true]
        exact h1 _ this)
      rw [hnil] at hmem
      exact List.not_mem_nil hmem
    · obtain ⟨hj1, hj2, o, ho, he⟩ := mem_ready hj
      obtain rfl := only j hj
      refine wpOpIn_mono (fun a' w' hw => ?_) h
      refine tail_any hE fuel (j + 1) _ a' w' (by simp [hs]) (by omega) (fun k hk => ?_) (fun k hk hk2 => ?_) (closed_set hc ho (by omega) he) (fun k o hk ho' k2 h1 h2 => ha k o (by omega) ho' k2 (by omega) h2) hw
      · rw [getD_setB _ _ _ _ (by omega)]
        split
        · rfl
        · exact h1 k (by omega)
      · rw [getD_setB _ _ _ _ (by omega), if_neg (by omega)]
        exact h2 k (by omega) hk2
def left (listed : Array Bool) (q : Nat) : Nat := ((List.range q).filter fun j => !listed.getD j true).length
theorem left_set_list (listed : Array Bool) (i : Nat) (hi : i < listed.size) (h : listed.getD i true = false) : ∀ (xs : List Nat), xs.Nodup → (xs.filter fun j => !listed.getD j true).length = (xs.filter fun j => !(listed.setIfInBounds i true).getD j true).length + if i ∈ xs then 1 else 0
  | [], _ => by simp
  | x :: r, hn => by
    have ih := left_set_list listed i hi h r (List.nodup_cons.1 hn).2
    simp only [List.filter_cons, getD_setB _ _ _ _ hi]
    simp only [getD_setB _ _ _ _ hi] at ih
    by_cases e : i = x
    · subst e
      have : ¬ i ∈ r := (List.nodup_cons.1 hn).1
      simp only [h, Bool.not_false, if_true, List.length_cons, Bool.not_true, List.mem_cons, true_or]
      rw [if_neg this] at ih
      simp only [Bool.false_eq_true, if_false]
      omega
    · have hx : (i ∈ x :: r) ↔ i ∈ r := by simp [e]
      simp only [if_neg e, hx]
      split
      · simp only [List.length_cons]; omega
      · exact ih
theorem left_set {listed : Array Bool} {i q : Nat} (hi : i < listed.size) (hq : i < q) (h : listed.getD i true = false) : left listed q = left (listed.setIfInBounds i true) q + 1 := by
  have := left_set_list listed i hi h (List.range q) List.nodup_range
  rw [if_pos (List.mem_range.2 hq)] at this
  exact this
theorem quiet_any {G : Nat → Prop} {s0 T : St} {g0 : Ghost} {w0 : World} {a0 : Act} {QQ : Exit → Act → World → Prop} {Q : St → Prop} {q : Nat} (hq : q ≤ ops.size)
    (hE : ∀ i o, ops[i]? = some o → ∀ e ∈ o.after, bindsE e = true → e.on < i)
    (hT : ∀ i o, q ≤ i → ops[i]? = some o → ∀ j, j < i → aheadB ops ops.size i j = true)
    (hD : ∀ i o, i < q → ops[i]? = some o → ∃ d, o.dst = some d ∧ ∀ j, j < ops.size → dstOf ops j = some d → j = i)
    (hL : ∀ i o, i < q → ops[i]? = some o → ∀ t ∈ o.looksAt ops, ∀ j, j < q → dstOf ops j = some t → ∃ e ∈ o.after, bindsE e = true ∧ e.on = j)
    (hops : ∀ i o d, i < q → ops[i]? = some o → o.dst = some d → AOL r P ops [i] (restr T (o.looksAt ops)) (fun s' => s'.get d = T.get d ∧ s'.st = T.st ∧ s'.nt = T.nt))
    (hst : T.st = s0.st) (htail : AOL r P ops ((List.range (ops.size - q)).map (q + ·)) T Q)
    (kk : ∀ s' g' w' a', Q s' → Rel G s' g' w' a' → Evo s0.st g0 w0 s'.st g' w' → a'.defers = a0.defers → QQ Exit.normal a' w') :
    ∀ (fuel : Nat) (listed : Array Bool) (a : Act) (g : Ghost) (w : World), listed.size = ops.size → left listed q + (ops.size - q) = fuel → (∀ j, q ≤ j → j < ops.size → listed.getD j true = false) → Closed ops listed →
      a.tmps.size = T.nt → SR G T.st g w → (∀ t, (∀ j, j < ops.size → dstOf ops j = some t → j < q → listed.getD j true = true) → AR G T.st g w (T.get t) (a.tmps.getD t undef)) →
      Evo s0.st g0 w0 T.st g w → a.defers = a0.defers → wpAnyIn (FW r) 0 P .any ops QQ fuel listed a w := by
  have finish : ∀ (listed : Array Bool) (a : Act) (g : Ghost) (w : World), listed.size = ops.size → (∀ j, j < q → listed.getD j true = true) → (∀ j, q ≤ j → j < ops.size → listed.getD j true = false) → Closed ops listed →
      a.tmps.size = T.nt → SR G T.st g w → (∀ t, (∀ j, j < ops.size → dstOf ops j = some t → j < q → listed.getD j true = true) → AR G T.st g w (T.get t) (a.tmps.getD t undef)) →
      Evo s0.st g0 w0 T.st g w → a.defers = a0.defers → wpAnyIn (FW r) 0 P .any ops QQ (ops.size - q) listed a w := by
    intro listed a g w hs h1 h2 hc hsz hsr hsl hev hdf
    have hrel : Rel G T g w a := ⟨fun t => hsl t fun j _ _ hj => h1 j hj, hsz, hsr⟩
    refine tail_any hE (ops.size - q) q listed a w hs (by omega) h1 h2 hc (fun j o hj ho k _ hk => hT j o hj ho k hk) ?_
    exact htail G g w a QQ hrel fun s' g' w' a' qs hr' he hd' _ => kk s' g' w' a' qs hr' (hev.trans he) (hd'.trans hdf)
  intro fuel
  induction fuel with
  | zero =>
    intro listed a g w hs hl h2 hc hsz hsr hsl hev hdf
    have h1 : ∀ j, j < q → listed.getD j true = true := fun j hj => by
      have : left listed q = 0 := by omega
      unfold left at this
      rw [List.length_eq_zero_iff, List.filter_eq_nil_iff] at this
      have := this j (List.mem_range.2 hj)
      simpa using this
    have := finish listed a g w hs h1 h2 hc hsz hsr hsl hev hdf
    rwa [show ops.size - q = 0 by omega] at this
  | succ fuel ih =>
    intro listed a g w hs hl h2 hc hsz hsr hsl hev hdf
    by_cases hall : ∀ j, j < q → listed.getD j true = true
    · have hz : left listed q = 0 := by
        unfold left
        rw [List.length_eq_zero_iff, List.filter_eq_nil_iff]
        intro j hj
        simp [hall j (List.mem_range.1 hj)]
      have := finish listed a g w hs hall h2 hc hsz hsr hsl hev hdf
      rwa [show ops.size - q = fuel + 1 by omega] at this
    · have hex : ∃ j, j < q ∧ listed.getD j true = false := by
        by_cases he : ∃ j, j < q ∧ listed.getD j true = false
        · exact he
        · exact absurd (fun j hj => by
            cases hb : listed.getD j true with
            | true => rfl
            | false => exact absurd ⟨j, hj, hb⟩ he) hall
      refine ⟨fun hnil => ?_, fun i hi => ?_⟩
      · exfalso
        -- the least one that has not come is ready
        have least : ∀ n j, j ≤ n → j < q → listed.getD j true = false → ∃ i, i < q ∧ listed.getD i true = false ∧ ∀ k, k < i → listed.getD k true = true := by
          intro n
          induction n with
          | zero =>
            intro j hj hjq hjl
            exact ⟨j, hjq, hjl, fun k hk => by omega⟩
          | succ n ihn =>
            intro j hj hjq hjl
            by_cases hk : ∃ k, k < j ∧ listed.getD k true = false
            · obtain ⟨k, hk1, hk2⟩ := hk
              exact ihn k (by omega) (by omega) hk2
            · refine ⟨j, hjq, hjl, fun k hk' => ?_⟩
              cases hb : listed.getD k true with
              | true => rfl
              | false => exact absurd ⟨k, hk', hb⟩ hk
        obtain ⟨j, hj1, hj2⟩ := hex
        obtain ⟨i, hi1, hi2, hi3⟩ := least j j (Nat.le_refl _) hj1 hj2
        have ho := Array.getElem?_eq_getElem (show i < ops.size by omega)
        have hmem := ready_of ho hi2 (fun e hem hb => by
          have := hE i _ ho e hem hb
          rw [getD_tf (by omega) false true]
          exact hi3 _ this)
        rw [hnil] at hmem
        exact List.not_mem_nil hmem
      · obtain ⟨hi1, hi2, o, ho, he⟩ := mem_ready hi
        have hiq : i < q := by
          rcases Nat.lt_or_ge i q with h | h
          · exact h
          · exfalso
            obtain ⟨j, hj1, hj2⟩ := hex
            have := ahead_listed hc _ i j (hT i o h ho j (by omega)) o ho he
            rw [getD_tf (by omega) false true, hj2] at this
            simp at this
        obtain ⟨d, hd, huniq⟩ := hD i o hiq ho
        have hrel : Rel G (restr T (o.looksAt ops)) g w a := by
          refine ⟨fun t => ?_, hsz, hsr⟩
          show AR G T.st g w (look ((o.looksAt ops).map fun t => (t, T.get t)) t) _
          rw [look_restr]
          split
          · rename_i hm
            refine hsl t fun j hj1 hj2 hj3 => ?_
            obtain ⟨e, hem, hb, rfl⟩ := hL i o hiq ho t hm j hj3 hj2
            rw [getD_tf (by omega) true false]
            exact he e hem hb
          · exact .any _
        have h := hops i o d hiq ho hd G g w a (fun e a' w' => match e with | .normal => wpAnyIn (FW r) 0 P .any ops QQ fuel (listed.setIfInBounds i true) a' w' | e => QQ e a' w') hrel ?_
        · exact wpOpIn_of h
        · rintro s' g' w' a' ⟨hget, hst', hnt'⟩ hr' hev' hdf' hfr
          have hev' : Evo T.st g w T.st g' w' := by rw [hst'] at hev'; exact hev'
          have hsr' : SR G T.st g' w' := by rw [← hst']; exact hr'.sr
          have hnt : a'.tmps.size = T.nt := hr'.size.trans hnt'
          refine ih _ a' g' w' (by simp [hs]) ?_ (fun j hj1 hj2 => ?_) (closed_set hc ho (by omega) he) hnt hsr' (fun t ht => ?_) (hev.trans hev') (hdf'.trans hdf)
          · have := left_set (listed := listed) (by omega) hiq hi2
            omega
          · rw [getD_setB _ _ _ _ (by omega), if_neg (by omega)]
            exact h2 j hj1 hj2
          · by_cases e : t = d
            · subst e
              have := hr'.slots t
              rw [hget, hst'] at this
              exact this
            · have : a'.tmps.getD t undef = a.tmps.getD t undef := hfr t fun j hj p hp => by
                obtain rfl := List.mem_singleton.1 hj
                rw [ho] at hp
                obtain rfl := Option.some.inj hp
                rw [hd]
                intro e2
                exact e (Option.some.inj e2).symm
              rw [this]
              refine (hsl t fun j hj1 hj2 hj3 => ?_).evo hev'
              have := ht j hj1 hj2 hj3
              rw [getD_setB _ _ _ _ (by omega)] at this
              split at this
              · rename_i e2
                subst e2
                simp only [dstOf, ho, Option.bind_some, hd, Option.some.injEq] at hj2
                exact absurd hj2.symm e
              · exact this
theorem AWp.draw {id : Nat} {s : St} {Q : Exit → St → Prop} (q : Nat) (env : List (Nat × AV)) (hm : P.follows .mixedOrders = true) (hb : drawB ops q = true) (he : ∀ p ∈ env, ∃ i, i < q ∧ dstOf ops i = some p.1)
    (hops : ∀ i o d, i < q → ops[i]? = some o → o.dst = some d → AOL r P ops [i] (restr ⟨s.nt, env ++ s.env, s.st⟩ (o.looksAt ops)) (fun s' => s'.get d = look (env ++ s.env) d ∧ s'.st = s.st ∧ s'.nt = s.nt))
    (htail : AOL r P ops ((List.range (ops.size - q)).map (q + ·)) ⟨s.nt, env ++ s.env, s.st⟩ (Q .normal)) : AWp r P (.region id ops true) s Q := fun G g w a B QQ hr hB hd k => by
  simp only [drawB, Bool.and_eq_true, List.all_eq_true, List.mem_range] at hb
  obtain ⟨hq, hb⟩ := hb
  have hq := Nat.le_of_ble_eq_true hq
  have hE : ∀ i o, ops[i]? = some o → ∀ e ∈ o.after, bindsE e = true → e.on < i := fun i o ho e hem hbe => by
    have := hb i (Array.getElem?_eq_some_iff.1 ho).1
    simp only [ho, Bool.and_eq_true, Array.all_eq_true_iff_forall_mem] at this
    have := this.1 e hem
    rw [hbe] at this
    simp only [Bool.not_true, Bool.false_or] at this
    exact Nat.le_of_ble_eq_true this
  have hT : ∀ i o, q ≤ i → ops[i]? = some o → ∀ j, j < i → aheadB ops ops.size i j = true := fun i o hi ho j hj => by
    have := hb i (Array.getElem?_eq_some_iff.1 ho).1
    simp only [ho, Bool.and_eq_true] at this
    have h2 := this.2
    have hf : Nat.blt i q = false := by
      cases h : Nat.blt i q with
      | false => rfl
      | true => have := Nat.le_of_ble_eq_true h; omega
    rw [hf] at h2
    simp only [cond_false, List.all_eq_true, List.mem_range] at h2
    exact h2 j hj
  have hquiet : ∀ i o, i < q → ops[i]? = some o → (match o.dst with | some d => (List.range ops.size).all (fun j => Nat.beq i j || !(dstOf ops j == some d)) | none => false) = true ∧
      (o.looksAt ops).all (fun t => (List.range ops.size).all (fun j => !(dstOf ops j == some t) || (Nat.ble q j || o.after.any (fun e => bindsE e && Nat.beq e.on j)))) = true := fun i o hi ho => by
    have := hb i (Array.getElem?_eq_some_iff.1 ho).1
    simp only [ho, Bool.and_eq_true] at this
    have h2 := this.2
    have hf : Nat.blt i q = true := Nat.ble_eq_true_of_le hi
    rw [hf] at h2
    simp only [cond_true, Bool.and_eq_true] at h2
    exact h2
  have hD : ∀ i o, i < q → ops[i]? = some o → ∃ d, o.dst = some d ∧ ∀ j, j < ops.size → dstOf ops j = some d → j = i := fun i o hi ho => by
    have h1 := (hquiet i o hi ho).1
    cases hd : o.dst with
    | none => simp [hd] at h1
    | some d =>
      refine ⟨d, rfl, fun j hj hjd => ?_⟩
      simp only [hd, List.all_eq_true, List.mem_range] at h1
      have := h1 j hj
      simp only [hjd, beq_self_eq_true, Bool.not_true, Bool.or_false] at this
      exact (Nat.eq_of_beq_eq_true this).symm
  have hL : ∀ i o, i < q → ops[i]? = some o → ∀ t ∈ o.looksAt ops, ∀ j, j < q → dstOf ops j = some t → ∃ e ∈ o.after, bindsE e = true ∧ e.on = j := fun i o hi ho t ht j hj hjt => by
    have h2 := (hquiet i o hi ho).2
    simp only [List.all_eq_true, List.mem_range] at h2
    have := h2 t ht j (by omega)
    have hbl : Nat.ble q j = false := by
      cases hq' : Nat.ble q j with
      | false => rfl
      | true => have := Nat.le_of_ble_eq_true hq'; omega
    simp only [hjt, hbl, beq_self_eq_true, Bool.not_true, Bool.false_or, Bool.and_eq_true, Array.any_eq_true] at this
    obtain ⟨x, hx, e1, e2⟩ := this
    exact ⟨_, Array.getElem_mem hx, e1, Nat.eq_of_beq_eq_true e2⟩
  have hlook : ∀ t, (∀ i, i < q → dstOf ops i ≠ some t) → look (env ++ s.env) t = s.get t := fun t ht => by
    have : ∀ (l : List (Nat × AV)), (∀ p ∈ l, ∃ i, i < q ∧ dstOf ops i = some p.1) → look (l ++ s.env) t = look s.env t := by
      intro l
      induction l with
      | nil => intro _; rfl
      | cons p r ih =>
        intro hl
        obtain ⟨k, x⟩ := p
        simp only [List.cons_append, look]
        cases hbk : Nat.beq k t with
        | true =>
          obtain ⟨i, hi, hd⟩ := hl (k, x) List.mem_cons_self
          have := Nat.eq_of_beq_eq_true hbk
          subst this
          exact absurd hd (ht i hi)
        | false => exact ih fun p hp => hl p (List.mem_cons_of_mem _ hp)
    exact this env he
  have ev0 : Evo s.st g w s.st g { w with drawn := w.drawn + 1 } := .below ⟨rfl, rfl, rfl, Nat.le_refl _, fun _ _ => rfl⟩
  have sr0 : SR G s.st g { w with drawn := w.drawn + 1 } := hr.sr.below (w := w) (w' := { w with drawn := w.drawn + 1 }) ⟨rfl, rfl, rfl, Nat.le_refl _, fun _ _ => rfl⟩
  refine wpIn_region_any hm ?_
  refine quiet_any (G := G) (s0 := s) (T := ⟨s.nt, env ++ s.env, s.st⟩) (g0 := g) (w0 := w) (a0 := a) (q := q) (Q := Q .normal) hq hE hT hD hL hops rfl htail
    (fun s' g' w' a' qs hr' he' hd' => k _ s' g' w' a' qs hr' he' (by rw [hd']; exact hd.evo hr.sr he')) ops.size _ a g _ (by simp) ?_ ?_ ?_ hr.size sr0 ?_ ev0 rfl
  · unfold left
    have : (List.range q).filter (fun j => !(Array.replicate ops.size false).getD j true) = List.range q := by
      rw [List.filter_eq_self]
      intro j hj
      have := List.mem_range.1 hj
      simp [show j < ops.size by omega]
    rw [this, List.length_range]
    omega
  · intro j _ hj
    simp [hj]
  · intro i o hi ho e hem hbe
    exfalso
    have := (Array.getElem?_eq_some_iff.1 ho).1
    simp [this] at hi
  · intro t ht
    have hnone : ∀ i, i < q → dstOf ops i ≠ some t := fun i hi hd => by
      have := ht i (by omega) hd hi
      simp [show i < ops.size by omega] at this
    show AR G s.st g _ (look (env ++ s.env) t) _
    rw [hlook t hnone]
    exact (hr.slots t).evo ev0
end draw
end Go.Proofs.Ytkkjlmcnfoncdaa.Aw

namespace Go.Proofs.Ytkkjlmcnfoncdaa.Aw
open Go Go.RowKit
structure SameCells (w w' : World) : Prop where
  size : w.heap.size ≤ w'.heap.size
  same : ∀ (b : Nat) (o : Obj), w.heap[b]? = some o → (∀ d, o ≠ .deferred d) → w'.heap[b]? = some o
theorem SameCells.cells {w w' : World} (h : SameCells w w') (b : Nat) (c : Array Value) (e : TypeId) (f : Nat × Nat) (hc : w.heap[b]? = some (Obj.cells c e f)) : w'.heap[b]? = some (Obj.cells c e f) := h.same b _ hc (by simp)
theorem SameCells.cell {w w' : World} (h : SameCells w w') {a : Addr} {v : Value} (hc : w.cell? a = some v) : w'.cell? a = some v := by
  unfold World.cell? at hc ⊢
  cases hb : w.heap[a.block]? with
  | none => simp [hb] at hc
  | some o =>
    cases o with
    | cells c e f => rw [h.cells _ _ _ _ hb]; rw [hb] at hc; exact hc
    | _ => simp [hb] at hc
theorem IR.same {w w' : World} (h : SameCells w w') {ok : Nat → Prop} {x : IC} {v : Value} (hr : IR w ok x v) : IR w' ok x v := by
  induction hr with
  | lit v h => exact .lit v h
  | nil sz ex A c hx hc => exact .nil sz ex A c hx hc
  | sl sz ex xs b o c val hb hl hc hx hok hsz hcell hin ih => exact .sl sz ex xs b o c val (Nat.lt_of_lt_of_le hb h.size) hl hc hx hok hsz (fun j r i x hj hi => h.cell (hcell j r i x hj hi)) ih
  | mp es b ents clk hb hok hh he => exact .mp es b ents clk (Nat.lt_of_lt_of_le hb h.size) hok (h.same _ _ hh (by simp)) he
theorem AR.same {w w' : World} (h : SameCells w w') {G : Nat → Prop} {s : List AObj} {g : Ghost} {x : AV} {v : Value} (hr : AR G s g w x v) : AR G s g w' x v := by
  induction hr with
  | any v => exact .any v
  | ic x v hi => exact .ic x v (hi.same h)
  | own i ver v hi hv h1 => exact .own i ver v hi hv h1
  | ptr i off v hi hv h1 => exact .ptr i off v hi hv h1
  | «at» cs b o val hb hok hcell hin => exact .«at» cs b o val (Nat.lt_of_lt_of_le hb h.size) hok (fun j x hj => h.cell (hcell j x hj)) (fun j x hj => (hin j x hj).same h)
  | rat i ver j off v hi hv h1 => exact .rat i ver j off v hi hv h1
  | fn f first cap vf vc h1 h2 h3 h4 ih3 ih4 => exact .fn f first cap vf vc h1 h2 ih3 ih4
  | agg xs vs h1 h2 h3 ih => exact .agg xs vs h1 ih h3
  | tup xs vs h1 h2 ih => exact .tup xs vs h1 ih
  | yl i v hi hv h1 => exact .yl i v hi hv h1
  | mo i v hi hv h1 => exact .mo i v hi hv h1
theorem OR.same {w w' : World} (h : SameCells w w') {G : Nat → Prop} {s : List AObj} {g : Ghost} {i : Nat} {o : AObj} (hr : OR G s g w i o) : OR G s g w' i o := by
  cases o with
  | dead => trivial
  | var m t cs =>
    obtain ⟨b, vs, h1, h2, h3, h4, h5, h6⟩ := hr
    exact ⟨b, vs, h1, h2, h.cells _ _ _ _ h3, h4, h5, fun j x hj => (h6 j x hj).same h⟩
  | row m ver e sz xs =>
    obtain ⟨cells, ⟨hl, h1⟩, h2, h3⟩ := hr
    refine ⟨cells, ⟨hl, ?_⟩, h2, h3.mono fun x v hr => hr.same h⟩
    rcases h1 with h1 | ⟨g0, cap, cur, e1, e2, e3, r⟩
    · exact .inl h1
    · exact .inr ⟨g0, cap, cur, e1, e2, h.cells _ _ _ _ e3, r⟩
  | lp c =>
    obtain ⟨b, r, h1, h2, h3, e1, e2, e3, e4, e5, e6, h4⟩ := hr
    exact ⟨b, r, h1, h2, h.same _ _ h3 (by simp), e1, e2, e3, e4, e5, e6, fun t => (h4 t).same h⟩
  | mpo es =>
    obtain ⟨b, ents, clk, h1, h2, h3, h4⟩ := hr
    exact ⟨b, ents, clk, h1, h2, h.same _ _ h3 (by simp), h4⟩
theorem SR.same {w w' : World} (h : SameCells w w') {G : Nat → Prop} {s : List AObj} {g : Ghost} (hr : SR G s g w) : SR G s g w' :=
  ⟨fun i o hi => (hr.obj i o hi).same h, hr.inj, fun b hb => hr.new b (Nat.le_trans h.size hb)⟩
theorem Rel.same {w w' : World} (h : SameCells w w') {G : Nat → Prop} {s : St} {g : Ghost} {a : Act} (hr : Rel G s g w a) : Rel G s g w' a :=
  ⟨fun t => (hr.slots t).same h, hr.size, hr.sr.same h⟩
def resRun (tmps : Array Value) : ResultVar → Sem Value
  | .tmp t => pure (tmps.getD t undef)
  | .cell a t => do loadVar t (← asAddr (tmps.getD a undef))
def Res1 (P : Program) (s : St) (rv : ResultVar) (x : AV) : Prop := ∀ G g w a, Rel G s g w a → ∃ v, (resRun a.tmps rv).run P w = .ok v w ∧ AR G s.st g w x v
def RetOk (P : Program) (fn : Func) (s : St) (x : AV) : Prop := ∀ G g w a, Rel G s g w a → ∃ v, (results fn a.tmps).run P w = .ok v w ∧ AR G s.st g w x v
theorem Res1.tmp {P : Program} {s : St} (t : Tmp) : Res1 P s (.tmp t) (s.get t) := fun G g w a hr => ⟨_, rfl, hr.slots t⟩
theorem Res1.cell {P : Program} {s : St} (p : Tmp) (t : TypeId) (i o : Nat) (m : Bool) (t' : TypeId) (cs : List AV) (r : AV) (ht : (tyi P t).there = true) (hx : s.get p = .ptr i o) (hs : s.st[i]? = some (.var m t' cs))
    (hr : bif (tyi P t).agg then Nat.ble (o + (tyi P t).size) cs.length = true ∧ r = .agg ((cs.drop o).take (tyi P t).size) else cs[o]? = some r) : Res1 P s (.cell p t) r := fun G g w a hrel => by
  have h := hrel.slots p
  rw [hx] at h
  obtain ⟨b, u, e, hl, hu⟩ := ptr_load t i o m t' cs r ht h hs hrel.sr hr
  exact ⟨u, by simp only [resRun, asAddr, e, Sem.run_bind, Sem.run_pure, Result.andThen_ok, hl], hu⟩
theorem results_eq (fn : Func) (tmps : Array Value) : results fn tmps = (do let vs ← fn.results.mapM (resRun tmps); pure (if h : vs.size = 1 then vs[0] else .tuple vs)) := by
  unfold results
  congr 2
theorem RetOk.one {P : Program} {fn : Func} {s : St} {r1 : ResultVar} {x : AV} (hr : fn.results = #[r1]) (h : Res1 P s r1 x) : RetOk P fn s x := fun G g w a hrel => by
  obtain ⟨v, h1, h2⟩ := h G g w a hrel
  refine ⟨v, ?_, h2⟩
  rw [results_eq, hr]
  simp [h1]
theorem RetOk.two {P : Program} {fn : Func} {s : St} {r1 r2 : ResultVar} {x y : AV} (hr : fn.results = #[r1, r2]) (h : Res1 P s r1 x) (k : Res1 P s r2 y) : RetOk P fn s (.tup [x, y]) := fun G g w a hrel => by
  obtain ⟨v, h1, h2⟩ := h G g w a hrel
  obtain ⟨u, k1, k2⟩ := k G g w a hrel
  refine ⟨.tuple #[v, u], ?_, .tup _ _ rfl fun q z hq => ?_⟩
  · rw [results_eq, hr]
    simp [h1, k1]
  · match q, hq with
    | 0, hq => simp at hq; subst hq; exact h2
    | 1, hq => simp at hq; subst hq; exact k2
    | q + 2, hq => simp at hq
theorem RetOk.three {P : Program} {fn : Func} {s : St} {r1 r2 r3 : ResultVar} {x y z : AV} (hr : fn.results = #[r1, r2, r3]) (h : Res1 P s r1 x) (k : Res1 P s r2 y) (l : Res1 P s r3 z) : RetOk P fn s (.tup [x, y, z]) := fun G g w a hrel => by
  obtain ⟨v, h1, h2⟩ := h G g w a hrel
  obtain ⟨u, k1, k2⟩ := k G g w a hrel
  obtain ⟨t, l1, l2⟩ := l G g w a hrel
  refine ⟨.tuple #[v, u, t], ?_, .tup _ _ rfl fun q z hq => ?_⟩
  · rw [results_eq, hr]
    simp [h1, k1, l1]
  · match q, hq with
    | 0, hq => simp at hq; subst hq; exact h2
    | 1, hq => simp at hq; subst hq; exact k2
    | 2, hq => simp at hq; subst hq; exact l2
    | q + 3, hq => simp at hq
theorem RetOk.none {P : Program} {fn : Func} {s : St} (hr : fn.results = #[]) : RetOk P fn s (.tup []) := fun G g w a hrel =>
  ⟨.tuple #[], by rw [results_eq, hr]; simp, .tup _ _ rfl (by simp)⟩
def enumE : Nat → List AV → List (Nat × AV)
  | _, [] => []
  | n, x :: r => (n, x) :: enumE (n + 1) r
def entry (nt : Nat) (xs : List AV) (st : List AObj) : St := ⟨nt, enumE 0 xs, st⟩
theorem look_enumE (xs : List AV) (n t : Nat) : look (enumE n xs) t = if n ≤ t then (xs[t - n]?).getD .any else .any := by
  induction xs generalizing n with
  | nil => simp [enumE, look]
  | cons x r ih =>
    simp only [enumE, look]
    cases h : Nat.beq n t with
    | true =>
      have := Nat.eq_of_beq_eq_true h
      subst this
      simp
    | false =>
      have hne : n ≠ t := fun e => by subst e; simp [Nat.beq_refl] at h
      simp only [cond_false, ih]
      by_cases h1 : n + 1 ≤ t
      · rw [if_pos h1, if_pos (by omega), show t - n = (t - (n + 1)) + 1 by omega]
        simp
      · rw [if_neg h1]
        split
        · omega
        · rfl
def RetQ (P : Program) (fn : Func) (R : AV → List AObj → Prop) : Exit → St → Prop := fun e s => (e = .normal ∨ e = .ret) ∧ ∃ x, RetOk P fn s x ∧ R x s.st
theorem take_marks {P : Program} {fn : Func} {tmps : Array Value} {R : Ending → World → Prop} {B : Nat} : ∀ (qs : List Nat) (w : World), qs.Nodup → (∀ q ∈ qs, B ≤ q ∧ w.heap[q]? = some (.deferred (some []))) →
    (∀ w', SameCells w w' → (∀ b, b < B → w'.heap[b]? = w.heap[b]?) → w'.os = w.os → w'.tape = w.tape → w'.output = w.output → ∃ v, (results fn tmps).run P w' = .ok v w' ∧ R (.returned v) w') →
    LeavesInM (FW none) 0 P fn tmps R (qs.map fun q => { target := .collected q, args := #[] }) .returning w
  | [], w, _, _, k => k w ⟨Nat.le_refl _, fun _ _ h _ => h⟩ (fun _ _ => rfl) rfl rfl rfl
  | q :: qs, w, hn, hq, k => by
    obtain ⟨hB, hh⟩ := hq q List.mem_cons_self
    have hlt := (Array.getElem?_eq_some_iff.1 hh).1
    refine ⟨by simp, .inl ⟨q, w.putObj q (.deferred none), rfl, run_takeDeferred hh, ?_⟩⟩
    have hne : ∀ p ∈ qs, p ≠ q := fun p hp e => (List.nodup_cons.1 hn).1 (e ▸ hp)
    refine take_marks qs _ (List.nodup_cons.1 hn).2 (fun p hp => ⟨(hq p (List.mem_cons_of_mem _ hp)).1, by rw [World.putObj_heap_other (hne p hp)]; exact (hq p (List.mem_cons_of_mem _ hp)).2⟩) fun w' hs hb h1 h2 h3 => ?_
    refine k w' ⟨Nat.le_trans (by simp [World.putObj]) hs.size, fun b o hc hnd => hs.same _ _ ?_ hnd⟩ (fun b hb' => (hb b hb').trans (World.putObj_heap_other (by omega))) h1 h2 h3
    rw [World.putObj_heap_other (fun e' => by subst e'; rw [hh] at hc; exact hnd _ (Option.some.inj hc).symm)]
    exact hc
theorem ACalls.of {P : Program} {f : FuncId} {fn : Func} {c : Code} {xs : List AV} {st : List AObj} {R : AV → List AObj → Prop} (hf : P.funcs[f]? = some fn) (hb : fn.body = some c) (he : entersB P f = true) (hn : Nat.ble xs.length fn.ntmps = true)
    (h : AWp none P c (entry fn.ntmps xs st) (RetQ P fn R)) : ACalls P f xs st R := by
  refine ⟨he, fun G g w vals hsz hr hval => (callsIn_wide (n := 0)).1 ?_⟩
  have hn := Nat.le_of_ble_eq_true hn
  refine callsIn_of_wp_marks (F := FW none) hf hb trivial ?_ rfl
  have hrel : Rel G (entry fn.ntmps xs st) g w { tmps := vals ++ Array.replicate (fn.ntmps - vals.size) undef, defers := [] } := by
    refine ⟨fun t => ?_, by simp [entry]; omega, hr⟩
    show AR G st g w (look (enumE 0 xs) t) _
    rw [look_enumE, if_pos (Nat.zero_le _), Nat.sub_zero]
    cases hx : xs[t]? with
    | none => exact .any _
    | some x =>
      have hlt := (List.getElem?_eq_some_iff.1 hx).1
      have := hval t x hx
      have e : (vals ++ Array.replicate (fn.ntmps - vals.size) undef).getD t undef = vals.getD t undef := by
        simp only [Array.getD_eq_getD_getElem?]
        rw [Array.getElem?_append_left (by omega)]
      rw [Option.getD_some, e]
      exact this
  refine h G g w _ w.heap.size _ hrel (Nat.le_refl _) ⟨[], rfl, by simp, by simp⟩ ?_
  rintro e s' g' w' a' ⟨he', x, hret, hR⟩ hr' hev hdm
  have key : LeavesInM (FW none) 0 P fn a'.tmps (fun e w'' => ∃ v x st' g', e = .returned v ∧ R x st' ∧ AR G st' g' w'' x v ∧ SR G st' g' w'' ∧ Evo st g w st' g' w'') a'.defers .returning w' := by
    obtain ⟨qs, hds, hnd, hq⟩ := hdm
    rw [hds]
    refine take_marks qs w' hnd hq fun w'' hs hb h1 h2 h3 => ?_
    obtain ⟨v, hv, hx⟩ := hret G g' w'' a' (hr'.same hs)
    exact ⟨v, hv, v, x, s'.st, g', rfl, hR, hx, hr'.sr.same hs, ⟨h1.trans hev.os, h2.trans hev.tape, h3.trans hev.output, Nat.le_trans hev.size hs.size, fun b hbl ho => (hb b hbl).trans (hev.heap b hbl ho), hev.own, hev.len, hev.var, hev.row, hev.lp, hev.mpo⟩⟩
  rcases he' with rfl | rfl
  · exact key
  · exact key
def rIC (st : List AObj) : AV → Option IC
  | .ic x => some x
  | x => toIC true st x
def rICs (st : List AObj) : List AV → Option (List IC)
  | [] => some []
  | x :: r => match rIC st x with
    | some y => match rICs st r with
      | some z => some (y :: z)
      | none => none
    | none => none
mutual
def rPV (st : List AObj) : AV → Option PV
  | .agg xs => match rICs st xs with
    | some ys => some (.agg ys)
    | none => none
  | .tup xs => match rPVs st xs with
    | some ys => some (.tup ys)
    | none => none
  | x => match rIC st x with
    | some y => some (.c y)
    | none => none
def rPVs (st : List AObj) : List AV → Option (List PV)
  | [] => some []
  | x :: r => match rPV st x with
    | some y => match rPVs st r with
      | some z => some (y :: z)
      | none => none
    | none => none
end
theorem rIC_ir {G : Nat → Prop} {s : List AObj} {g : Ghost} {w : World} {x : AV} {v : Value} {y : IC} (h : AR G s g w x v) (hr : SR G s g w) (hy : rIC s x = some y) : IR w (okOf true G s g) y v := by
  cases x with
  | ic x =>
    obtain rfl : x = y := by simpa [rIC] using hy
    exact h.ic_inv.okOf
  | _ => exact toIC_ir h hr (by simpa [rIC] using hy)
theorem rICs_get {s : List AObj} {xs : List AV} {ys : List IC} (h : rICs s xs = some ys) : xs.length = ys.length ∧ ∀ (k : Nat) (x : AV) (y : IC), xs[k]? = some x → ys[k]? = some y → rIC s x = some y := by
  induction xs generalizing ys with
  | nil =>
    obtain rfl : [] = ys := by simpa [rICs] using h
    simp
  | cons x r ih =>
    simp only [rICs] at h
    cases hx : rIC s x with
    | none => simp [hx] at h
    | some y =>
      cases hr : rICs s r with
      | none => simp [hx, hr] at h
      | some z =>
        obtain rfl : y :: z = ys := by simpa [hx, hr] using h
        obtain ⟨h1, h2⟩ := ih hr
        refine ⟨by simp [h1], fun k a b ha hb => ?_⟩
        cases k with
        | zero => simp at ha hb; subst ha hb; exact hx
        | succ k => simp at ha hb; exact h2 k a b ha hb
theorem rPVs_get {s : List AObj} {xs : List AV} {ys : List PV} (h : rPVs s xs = some ys) : xs.length = ys.length ∧ ∀ (k : Nat) (x : AV) (y : PV), xs[k]? = some x → ys[k]? = some y → rPV s x = some y := by
  induction xs generalizing ys with
  | nil =>
    obtain rfl : [] = ys := by simpa [rPVs] using h
    simp
  | cons x r ih =>
    simp only [rPVs] at h
    cases hx : rPV s x with
    | none => simp [hx] at h
    | some y =>
      cases hr : rPVs s r with
      | none => simp [hx, hr] at h
      | some z =>
        obtain rfl : y :: z = ys := by simpa [hx, hr] using h
        obtain ⟨h1, h2⟩ := ih hr
        refine ⟨by simp [h1], fun k a b ha hb => ?_⟩
        cases k with
        | zero => simp at ha hb; subst ha hb; exact hx
        | succ k => simp at ha hb; exact h2 k a b ha hb
theorem rPV_pr {G : Nat → Prop} {s : List AObj} {g : Ghost} {w : World} {x : AV} {v : Value} {y : PV} (h : AR G s g w x v) (hr : SR G s g w) (hy : rPV s x = some y) : PR w (okOf true G s g) y v := by
  induction h generalizing y with
  | agg xs vs h1 h2 h3 =>
    simp only [rPV] at hy
    cases hx : rICs s xs with
    | none => simp [hx] at hy
    | some ys =>
      obtain rfl : PV.agg ys = y := by simpa [hx] using hy
      obtain ⟨l, hg⟩ := rICs_get hx
      refine .agg ys vs (by omega) fun k z hk => ?_
      have hlt := (List.getElem?_eq_some_iff.1 hk).1
      exact rIC_ir (h2 k _ (List.getElem?_eq_getElem (by omega))) hr (hg k _ z (List.getElem?_eq_getElem (by omega)) hk)
  | tup xs vs h1 h2 ih =>
    simp only [rPV] at hy
    cases hx : rPVs s xs with
    | none => simp [hx] at hy
    | some ys =>
      obtain rfl : PV.tup ys = y := by simpa [hx] using hy
      obtain ⟨l, hg⟩ := rPVs_get hx
      refine .tup ys vs (by omega) fun k z hk => ?_
      have hlt := (List.getElem?_eq_some_iff.1 hk).1
      exact ih k _ (List.getElem?_eq_getElem (by omega)) (hg k _ z (List.getElem?_eq_getElem (by omega)) hk)
  | any v => simp [rPV, rIC, toIC] at hy
  | ic x v h =>
    obtain rfl : PV.c x = y := by simpa [rPV, rIC] using hy
    exact .c _ _ h.okOf
  | own i ver v hi hv h1 =>
    simp only [rPV] at hy
    split at hy
    · rename_i z hz
      obtain rfl : PV.c z = y := by simpa using hy
      exact .c _ _ (rIC_ir (.own i ver v hi hv h1) hr hz)
    · simp at hy
  | ptr i off v hi hv h1 => simp [rPV, rIC, toIC] at hy
  | yl i v hi hv h1 => simp [rPV, rIC, toIC] at hy
  | mo i v hi hv h1 => simp [rPV, rIC, toIC] at hy
  | «at» cs b o val hb hok hcell hin => simp [rPV, rIC, toIC] at hy
  | rat i ver j off v hi hv h1 => simp [rPV, rIC, toIC] at hy
  | fn f first cap vf vc h1 h2 h3 h4 =>
    simp only [rPV] at hy
    split at hy
    · rename_i z hz
      obtain rfl : PV.c z = y := by simpa using hy
      exact .c _ _ (rIC_ir (.fn f first cap vf vc h1 h2 h3 h4) hr hz)
    · simp at hy
theorem ACalls.pure {P : Program} {f : FuncId} {pvs : List PV} {r : PV} (h : ACalls P f (pvs.map PV.av) [] (fun x st => rPV st x = some r)) : PureCalls P f pvs r := by
  refine ⟨h.1, fun ok w vals hsz hval => ?_⟩
  have hno : ∀ b, ¬ Own [] (fun _ => undef) b := fun b ⟨i, o, hi, _⟩ => by simp at hi
  refine (h.2 (fun b => ok b ∨ w.heap.size ≤ b) (fun _ => undef) w vals (by simpa using hsz) ⟨by simp, by simp, fun b hb => .inr hb⟩ fun k x hk => ?_).mono ?_
  · rw [List.getElem?_map] at hk
    simp only [Option.map_eq_some_iff] at hk
    obtain ⟨y, hy, rfl⟩ := hk
    exact ((hval k y hy).mono fun x v hi => hi.mono (fun _ _ _ => rfl) (fun b _ hb => ⟨.inl hb, hno b⟩) (Nat.le_refl _)).ar
  · rintro e w' ⟨v, x, st', g', rfl, hR, hx, hsr, hev⟩
    refine ⟨v, rfl, (rPV_pr hx hsr hR).mono fun x v hi => hi.mono (fun _ _ _ => rfl) (fun b _ hb => hb.1) (Nat.le_refl _), hev.os, hev.tape, hev.output, hev.size, fun b hb => hev.heap b hb (hno b)⟩
theorem PureCalls.of {P : Program} {f : FuncId} {fn : Func} {c : Code} {pvs : List PV} {r : PV} (hf : P.funcs[f]? = some fn) (hb : fn.body = some c) (he : entersB P f = true) (hn : Nat.ble pvs.length fn.ntmps = true)
    (h : AWp none P c (entry fn.ntmps (pvs.map PV.av) []) (RetQ P fn fun x st => rPV st x = some r)) : PureCalls P f pvs r :=
  (ACalls.of hf hb he (by simpa using hn) h).pure
end Go.Proofs.Ytkkjlmcnfoncdaa.Aw

namespace Go.Proofs.Ytkkjlmcnfoncdaa.Aw
open Go Go.RowKit
theorem IR.cut {w : World} {ok : Nat → Prop} {sz : Nat} {ex : Bool} {xs : List (List IC)} {v : Value} (h : IR w ok (.sl sz ex xs) v) :
    ∃ A c, v = .slice A xs.length c ∧ xs.length ≤ c ∧ c ≤ maxLen ∧ ∀ (l hh m : Nat) (ex' : Bool), l ≤ hh → hh ≤ xs.length → hh ≤ m → m ≤ c → (ex' = true → m = hh) → IR w ok (.sl sz ex' ((xs.take hh).drop l)) (sliced A l hh m sz) := by
  obtain ⟨A, c, cs, rfl, h1, h2, h3, hf, hc⟩ := h.flat
  refine ⟨A, c, rfl, h1, h2, fun l hh m ex' hl hlen hm hmc hx => ?_⟩
  have hlen' : ((xs.take hh).drop l).length = hh - l := by simp; omega
  unfold sliced
  by_cases e : hh = l
  · have : (xs.take hh).drop l = [] := List.length_eq_zero_iff.1 (by omega)
    rw [this, show hh - l = 0 by omega]
    exact .nil _ _ _ _ (fun hx' => by have := hx hx'; omega) (by omega)
  · rw [if_neg (by omega)]
    cases h with
    | nil => simp at hlen; omega
    | sl _ _ _ b o c val hb hl' hc' hx' hok hsz hcell hin =>
      rw [Option.map_some, add_block, ← hlen']
      have hget : ∀ (j : Nat) (r : List IC), ((xs.take hh).drop l)[j]? = some r → xs[l + j]? = some r := fun j r hj => by
        rw [List.getElem?_drop, List.getElem?_take] at hj
        split at hj
        · exact hj
        · simp at hj
      refine .sl sz ex' _ b (o + l * sz) (m - l) (fun j i => val (l + j) i) hb (by omega) (by omega) (fun hx1 => by have := hx hx1; omega) hok (fun j r hj => hsz _ r (hget j r hj)) (fun j r i x hj hi => ?_) (fun j r i x hj hi => hin _ r i x (hget j r hj) hi)
      have := hcell _ r i x (hget j r hj) hi
      rw [add_block] at this ⊢
      rw [← this]
      congr 2
      rw [Nat.add_mul]
      omega
section cuts
variable {P : Program} {s : St} (t e : TypeId) (x : Operand) (sz : Nat) (ex : Bool) (xs : List (List IC))
theorem elem_of (hk : (tyi P t).k = .slice e) : P.elem t = e := by simp [Program.elem, tk_slice hk]
theorem does_cut (ht : (tyi P t).there = true) (hk : (tyi P t).k = .slice e) (hsz : (tyi P e).size = sz) (hx : s.ev x = .ic (.sl sz ex xs)) (lo hi mx : Option Operand) (l h : Nat) (m : Option Nat) (ex' : Bool) (hlh : l ≤ h) (hlen : h ≤ xs.length) (hm : ∀ q, m = some q → q = h) (hex : ex' = true → m = some h)
    (hb : ∀ (w : World) (a : Act) G g c, Rel G s g w a → xs.length ≤ c → (Instr.sliceBounds true xs.length c (lo.map a.eval) (hi.map a.eval) (mx.map a.eval)).run P w = .ok (l, h, m.getD c) w) :
    Does P s (fun ρ => do pure (.value (← Instr.sliceAt t (ρ x) (lo.map ρ) (hi.map ρ) (mx.map ρ)))) (.ic (.sl sz ex' ((xs.take h).drop l))) s.st :=
  .pure fun G g w a hrel => by
    have hr := hrel.ev x
    rw [hx] at hr
    obtain ⟨A, c, ev, h1, h2, hcut⟩ := hr.ic_inv.cut
    have hu : P.underlying t = some (.slice (P.elem t)) := by rw [elem_of t e hk]; exact tk_slice hk
    have hs := run_size (there_elem ht (tk_slice hk)) w
    have hz : P.cellsOf e = sz := hsz
    rw [hz] at hs
    have hmc : h ≤ m.getD c ∧ m.getD c ≤ c := by
      cases m with
      | none => exact ⟨by simp; omega, Nat.le_refl _⟩
      | some q => have := hm q rfl; subst this; exact ⟨Nat.le_refl _, by simp; omega⟩
    refine ⟨sliced A l h (m.getD c) sz, ?_, .ic _ _ (hcut l h (m.getD c) ex' hlh hlen hmc.1 hmc.2 (fun hx' => by rw [hex hx']; rfl))⟩
    simp only [Sem.run_bind, ev, run_sliceAt_slice w t _ _ _ _ hu, run_slice_any w t _ _ _ hu, hb w a G g c hrel h1, Result.andThen_ok, elem_of t e hk, hs, Sem.run_pure]
theorem bound_run {y : Operand} {k : IntKind} {n : Int} {G : Nat → Prop} {g : Ghost} {w : World} {a : Act} (hr : Rel G s g w a) (hy : s.ev y = .ic (.lit (.int k n))) : a.eval y = .int k n := by
  have h := hr.ev y
  rw [hy] at h
  exact h.lit_inv
theorem does_cut_lh {y z : Operand} {k k' : IntKind} {l h : Int} (ht : (tyi P t).there = true) (hk : (tyi P t).k = .slice e) (hsz : (tyi P e).size = sz) (hx : s.ev x = .ic (.sl sz ex xs)) (hy : s.ev y = .ic (.lit (.int k l))) (hz : s.ev z = .ic (.lit (.int k' h)))
    (h0 : 0 ≤ l) (h1 : l ≤ h) (h2 : h ≤ (xs.length : Int)) : Does P s (fun ρ => do pure (.value (← Instr.sliceAt t (ρ x) ((some y).map ρ) ((some z).map ρ) ((none : Option Operand).map ρ)))) (.ic (.sl sz false ((xs.take h.toNat).drop l.toNat))) s.st :=
  does_cut t e x sz ex xs ht hk hsz hx (some y) (some z) none l.toNat h.toNat none false (by omega) (by omega) (by simp) (by simp) fun w a G g c hr hc => by
    have e1 : (h.toNat : Int) = h := Int.toNat_of_nonneg (by omega)
    simp [bound_run hr hy, bound_run hr hz, Instr.sliceBounds, run_sliceBound, h0, h1, e1, (by omega : 0 ≤ h), (by omega : h ≤ (c : Int))]
theorem does_cut_h {z : Operand} {k' : IntKind} {h : Int} (ht : (tyi P t).there = true) (hk : (tyi P t).k = .slice e) (hsz : (tyi P e).size = sz) (hx : s.ev x = .ic (.sl sz ex xs)) (hz : s.ev z = .ic (.lit (.int k' h)))
    (h0 : 0 ≤ h) (h2 : h ≤ (xs.length : Int)) : Does P s (fun ρ => do pure (.value (← Instr.sliceAt t (ρ x) ((none : Option Operand).map ρ) ((some z).map ρ) ((none : Option Operand).map ρ)))) (.ic (.sl sz false (xs.take h.toNat))) s.st := by
  have := does_cut (P := P) (s := s) t e x sz ex xs ht hk hsz hx none (some z) none 0 h.toNat none false (by omega) (by omega) (by simp) (by simp) fun w a G g c hr hc => by
    simp [bound_run hr hz, Instr.sliceBounds, run_sliceBound, h0, (by omega : h ≤ (c : Int))]
  simpa using this
theorem does_cut_l {y : Operand} {k : IntKind} {l : Int} (ht : (tyi P t).there = true) (hk : (tyi P t).k = .slice e) (hsz : (tyi P e).size = sz) (hx : s.ev x = .ic (.sl sz ex xs)) (hy : s.ev y = .ic (.lit (.int k l)))
    (h0 : 0 ≤ l) (h2 : l ≤ (xs.length : Int)) : Does P s (fun ρ => do pure (.value (← Instr.sliceAt t (ρ x) ((some y).map ρ) ((none : Option Operand).map ρ) ((none : Option Operand).map ρ)))) (.ic (.sl sz false (xs.drop l.toNat))) s.st := by
  have := does_cut (P := P) (s := s) t e x sz ex xs ht hk hsz hx (some y) none none l.toNat xs.length none false (by omega) (by omega) (by simp) (by simp) fun w a G g c hr hc => by
    simp [bound_run hr hy, Instr.sliceBounds, run_sliceBound, h0, h2]
  simpa using this
theorem does_clip {y z : Operand} {k k' : IntKind} (ht : (tyi P t).there = true) (hk : (tyi P t).k = .slice e) (hsz : (tyi P e).size = sz) (hx : s.ev x = .ic (.sl sz ex xs)) (hy : s.ev y = .ic (.lit (.int k (xs.length : Int)))) (hz : s.ev z = .ic (.lit (.int k' (xs.length : Int)))) :
    Does P s (fun ρ => do pure (.value (← Instr.sliceAt t (ρ x) ((none : Option Operand).map ρ) ((some y).map ρ) ((some z).map ρ)))) (.ic (.sl sz true xs)) s.st := by
  have := does_cut (P := P) (s := s) t e x sz ex xs ht hk hsz hx none (some y) (some z) 0 xs.length (some xs.length) true (by omega) (by omega) (by simp) (by simp) fun w a G g c hr hc => by
    simp [bound_run hr hy, bound_run hr hz, Instr.sliceBounds, run_sliceBound, hc]
  simpa using this
end cuts
theorem src_of {P : Program} {G : Nat → Prop} {s : List AObj} {g : Ghost} {w : World} {v : Value} {sz : Nat} {ex : Bool} {ys : List (List IC)} {tx e : TypeId} (hk : P.underlying tx = some (.slice e)) (h : IR w G (.sl sz ex ys) v) :
    ∃ ds, Src P sz tx v ys.length ds w ∧ Flat w G sz ys ds := by
  obtain ⟨A, c, cs, rfl, h1, h2, h3, hf, hc⟩ := h.flat
  refine ⟨cs, ?_, hf⟩
  cases A with
  | some a =>
    by_cases hz : cs = []
    · subst hz
      have := hf.len
      simp only [List.length_nil] at this
      exact Src.ofSlice (P := P) w hk a ys.length c [] (by simpa using this) (by simp) (by simp)
    · obtain ⟨u, r, rfl⟩ := List.exists_cons_of_ne_nil hz
      obtain ⟨b, o, ha, _⟩ := hc 0 u rfl
      obtain rfl : a = ⟨b, o, none⟩ := by simpa using ha
      refine Src.ofSlice (P := P) w hk ⟨b, o, none⟩ ys.length c _ hf.len (fun j q hj => ?_) hf.one
      obtain ⟨b', o', ha', hq⟩ := hc j q hj
      simp only [Option.some.injEq, Addr.mk.injEq, and_true] at ha'
      obtain ⟨rfl, rfl⟩ := ha'
      rw [add_block]
      exact hq
  | none =>
    have : cs = [] := by
      cases cs with
      | nil => rfl
      | cons u r => obtain ⟨b, o, ha, _⟩ := hc 0 u rfl; simp at ha
    subst this
    by_cases hy : ys = []
    · subst hy
      exact Src.ofNil (P := P) w hk c
    · cases h with
      | nil => simp at hy
theorem fresh_ir {w' : World} {G : Nat → Prop} {sz : Nat} {zs : List (List IC)} {cs : List Value} (hf : Flat w' G sz zs cs) {b c : Nat} {arr : Array Value} {e : TypeId} (hb : w'.heap[b]? = some (.cells arr e (0, 0))) (hG : G b) (hl : zs.length ≤ c) (hc : c ≤ maxLen) (hp : arr.toList.take cs.length = cs) (ex : Bool) (hx : ex = true → c = zs.length) :
    IR w' G (.sl sz ex zs) (.slice (some ⟨b, 0, none⟩) zs.length c) := by
  refine hf.ir ex b 0 c (Array.getElem?_eq_some_iff.1 hb).1 hG hl hc hx fun j u hj => ?_
  simp only [World.cell?, hb, Nat.zero_add]
  rw [← hp, List.getElem?_take] at hj
  split at hj
  · simpa using hj
  · simp at hj
theorem IR.nil_sz {w : World} {ok : Nat → Prop} {sz sz' : Nat} {ex : Bool} {v : Value} (h : IR w ok (.sl sz' ex []) v) : IR w ok (.sl sz ex []) v := by
  obtain ⟨A, c, rfl, h1, h2, h3⟩ := h.slice
  exact .nil _ _ _ _ h3 h2
theorem does_appendX {P : Program} {s : St} (t ty e : TypeId) (x y : Operand) (sz sz' : Nat) (ex : Bool) (xs ys : List (List IC)) (ht : (tyi P t).there = true) (hk : (tyi P t).k = .slice e) (hsz : (tyi P e).size = sz) (hz : (tyi P e).zero.isSome = true)
    (hx : s.ev x = .ic (.sl sz' true xs)) (hs' : sz' = sz ∨ xs = []) (hy : s.ev y = .ic (.sl sz ex ys)) (hn : (xs.length + ys.length) * (tyi P e).bytes ≤ 140737488355328) (hm : xs.length + ys.length ≤ maxLen) :
    Does P s (bcall (call1 .append #[x, y] #[t, t]) ty) (.ic (.sl sz false (xs ++ ys))) s.st := fun G g w a hrel => by
  have h1 := hrel.ev x
  rw [hx] at h1
  have h2 := hrel.ev y
  rw [hy] at h2
  have hu := tk_slice hk
  have hthere := there_elem ht hu
  obtain ⟨i0, hi0⟩ := info_there hthere
  have hsize : i0.size = sz := by have : P.cellsOf e = sz := hsz; simpa [Program.cellsOf, hi0] using this
  obtain ⟨z, hz0⟩ : ∃ z, i0.zero = some z := by
    simp only [tyi, hi0, Option.bind_some, Option.isSome_map] at hz
    exact Option.isSome_iff_exists.1 hz
  have hb : (tyi P e).bytes = i0.bytes := by simp [tyi, Program.bytesOf, hi0]
  rw [hb] at hn
  have i1 : IR w (Good G s.st g) (.sl sz true xs) (a.eval x) := by
    rcases hs' with rfl | rfl
    · exact h1.ic_inv
    · exact h1.ic_inv.nil_sz
  obtain ⟨A, c, cs, ev, hlc, hcm, hcx, hf, hcell⟩ := i1.flat
  obtain ⟨ds, hsrc, hfd⟩ := src_of (s := s.st) (g := g) hu h2.ic_inv
  obtain rfl := hcx rfl
  by_cases hys : ys.length = 0
  · -- nothing is added
    have hyn : ys = [] := List.length_eq_zero_iff.1 hys
    subst hyn
    have hds : ds = [] := by have := hfd.len; simp at this; exact this
    subst hds
    refine ⟨.value (.slice A xs.length xs.length), _, g, w, ?_, .inl rfl, .refl _ _ _, hrel.sr, ?_⟩
    · have hcells := hsrc.cells
      simp only [List.length_nil] at hcells
      cases A with
      | none => simp [bcall, resolve, invoke, builtin, ev, Builtin.append_, run_underlying hu, sizeOf, typeInfo, hi0, hsrc.len, hsize, hcells]
      | some ad => simp [bcall, resolve, invoke, builtin, ev, Builtin.append_, run_underlying hu, sizeOf, typeInfo, hi0, hsrc.len, hsize, hcells, storeCells]
    · rw [List.append_nil, ← ev]
      exact .ic _ _ i1.inexact
  · have hg : xs.length < xs.length + ys.length := by omega
    have hold : (Builtin.firstCells i0.size xs.length (.slice A xs.length xs.length)).run P w.drew = .ok cs.toArray w.drew := by
      rw [hsize]
      cases A with
      | none =>
        have : cs = [] := by
          cases cs with
          | nil => rfl
          | cons u r => obtain ⟨b, o, ha, _⟩ := hcell 0 u rfl; simp at ha
        subst this
        exact run_firstCells_none _ _ _ _ _
      | some ad =>
        refine run_firstCells_some _ _ _ _ _ _ _ hf.len fun j u hj => ?_
        obtain ⟨b, o, ha, hq⟩ := hcell j u hj
        obtain rfl : ad = ⟨b, o, none⟩ := by simpa using ha
        rw [add_block]
        exact hq
    subst hsize
    have hrun := run_append_grow_src (P := P) w t t ty e i0 z hu hi0 hz0 A xs.length xs.length cs hold (a.eval y) ys.length ds hsrc hg (by simp only [maxLen] at hm; omega) (growslice_fits hg hn)
    have hevo : Evo s.st g w s.st g (w.drew.alloc (.cells ((cs ++ ds).toArray ++ Builtin.zeroCells z.cells (grownCap w (xs.length + ys.length) xs.length e - (xs.length + ys.length))) e)) := .below ⟨rfl, rfl, rfl, by simp, fun k hk => Below.heap_alloc w.drew _ k hk⟩
    refine ⟨.value (.slice (some ⟨w.heap.size, 0, none⟩) (xs.length + ys.length) (grownCap w (xs.length + ys.length) xs.length e)), .slice (some ⟨w.heap.size, 0, none⟩) (xs.length + ys.length) (grownCap w (xs.length + ys.length) xs.length e), g, _, ?_, .inl rfl, hevo, hrel.sr.below ⟨rfl, rfl, rfl, by simp, fun k hk => Below.heap_alloc w.drew _ k hk⟩, .ic _ _ ?_⟩
    · simp only [bcall, resolve, List.map_toArray, List.map_cons, List.map_nil, ev, Sem.run_bind, Sem.run_pure, Result.andThen_ok, invoke, builtin, hrun]
    · have hflat := (hf.append hfd).mono fun x v h => IR.evo h hevo
      have hl : (xs ++ ys).length = xs.length + ys.length := by simp
      have := fresh_ir (c := grownCap w (xs.length + ys.length) xs.length e) hflat (heap_alloc_new w.drew _) ⟨hrel.sr.new _ (Nat.le_refl _), fun ho => by have := Own.lt hrel.sr ho; exact Nat.lt_irrefl _ this⟩
        (by rw [hl]; exact grownCap_ge _ _ _ _) (grownCap_le_maxLen _ _ _ _ hm) (by simp only [Array.toList_append]; exact List.take_left) false (by simp)
      rw [hl] at this
      exact this
end Go.Proofs.Ytkkjlmcnfoncdaa.Aw

namespace Go.Proofs.Ytkkjlmcnfoncdaa.Aw
open Go Go.RowKit
def zIC (v : Value) : IC := match v with
  | .slice none n c => bif Nat.beq n 0 && Nat.beq c 0 then .sl 0 true [] else .lit v
  | _ => .lit v
theorem zIC_ir {w : World} {ok : Nat → Prop} {v : Value} (h : v.oneCell' = true) : IR w ok (zIC v) v := by
  unfold zIC
  split
  · rename_i n c
    cases hn : (Nat.beq n 0 && Nat.beq c 0) with
    | false => exact .lit _ h
    | true =>
      simp only [Bool.and_eq_true] at hn
      obtain rfl := Nat.eq_of_beq_eq_true hn.1
      obtain rfl := Nat.eq_of_beq_eq_true hn.2
      exact .nil 0 true none 0 (fun _ => rfl) (by simp [maxLen])
  · exact .lit _ h
theorem SR.newRow {G : Nat → Prop} {s : St} {g : Ghost} {w w' : World} {a : Act} (hr : Rel G s g w a) (e sz : Nat) (xs : List (List IC)) (v : Value) (cells : List Value) (hg : w.grownBy w' none) (hv : ∀ b, gb v = some b → w.heap.size ≤ b) (ho : w'.ownsRow 0 e sz v xs.length cells)
    (hf : ∀ ok, Flat w' ok sz xs cells) :
    ∃ g', Evo s.st g w (s.st ++ [.row true 0 e sz xs]) g' w' ∧ SR G (s.st ++ [.row true 0 e sz xs]) g' w' ∧ AR G (s.st ++ [.row true 0 e sz xs]) g' w' (.own s.st.length 0) v := by
  have h5 : ∀ b, b < w.heap.size → w'.heap[b]? = w.heap[b]? := fun b hb => hg.block b hb (by simp)
  have k : Evo s.st g w (s.st ++ [.row true 0 e sz xs]) (gput g s.st.length v) w' := .push _ _ hg.os hg.tape hg.output hg.size h5 hv
  have h1 : v.oneCell' = true := by
    rcases ho.2 with ⟨e1, _⟩ | ⟨g0, cap, cur, e1, _⟩ <;> rw [e1] <;> rfl
  refine ⟨_, k, hr.sr.push _ _ k h5 hv ⟨cells, ?_, fun b hb => ?_, hf _⟩, .own _ _ _ (by simp) (fun m v' e' sz' xs' hs => ?_) h1⟩
  · rw [gput_new]; exact ho
  · rw [gput_new] at hb; exact hr.sr.new b (hv b hb)
  · rw [List.getElem?_append_right (Nat.le_refl _)] at hs
    simp only [Nat.sub_self, List.getElem?_cons_zero, Option.some.injEq, AObj.row.injEq] at hs
    obtain ⟨_, rfl, _⟩ := hs
    exact ⟨Nat.le_refl _, fun _ => (gput_new _ _ _).symm⟩
theorem does_make {P : Program} {s : St} (t e : TypeId) (x y : Operand) (sz : Nat) (z : List Value) (kl kc : IntKind) (n : Int) (ht : (tyi P t).there = true) (hk : (tyi P t).k = .slice e) (hsz : (tyi P e).size = sz) (hz : (tyi P e).zero = some z) (hzl : Nat.beq z.length sz = true) (hz1 : z.all (·.oneCell') = true)
    (hx : s.ev x = .ic (.lit (.int kl n))) (hy : s.ev y = .ic (.lit (.int kc n))) (h0 : 0 ≤ n) (hb : (tyi P e).bytes * n.toNat ≤ 281474976710656) (hm : n.toNat ≤ maxLen) :
    Does P s (fun ρ => do pure (.value (← Instr.makeSlice t (ρ x) (ρ y)))) (.own s.st.length 0) (s.st ++ [.row true 0 e sz (List.replicate n.toNat (z.map zIC))]) := fun G g w a hrel => by
  have hu := tk_slice hk
  obtain ⟨i0, hi0⟩ := info_there (there_elem ht hu)
  have hsize : i0.size = sz := by have : P.cellsOf e = sz := hsz; simpa [Program.cellsOf, hi0] using this
  have hzz : ∃ z0, i0.zero = some z0 ∧ z0.cells.toList = z := by
    simp only [tyi, hi0, Option.bind_some, Option.map_eq_some_iff] at hz
    exact hz
  obtain ⟨z0, hz0, rfl⟩ := hzz
  have hbb : (tyi P e).bytes = i0.bytes := by simp [tyi, Program.bytesOf, hi0]
  rw [hbb] at hb
  have hzl := Nat.eq_of_beq_eq_true hzl
  simp only [Array.length_toList] at hzl
  obtain ⟨w', hrun, hown, hg⟩ := run_make_full (P := P) w 0 t e i0 z0 sz hu hi0 hz0 hsize kl kc n.toNat hb hm (Nat.zero_le _)
  have en : (n.toNat : Int) = n := Int.toNat_of_nonneg h0
  rw [en] at hrun
  have hlen : (List.replicate n.toNat (z0.cells.toList.map zIC)).length = n.toNat := by simp
  obtain ⟨g', hev, hsr, har⟩ := SR.newRow hrel e sz (List.replicate n.toNat (z0.cells.toList.map zIC)) (.slice (some ⟨w.heap.size, 0, none⟩) n.toNat n.toNat) _ hg (fun b hb => by simp [gb] at hb; omega) (by rw [hlen]; exact hown) (fun ok => by
    refine ⟨by simp [madeCells], fun j r hj => ?_, fun j r k x hj hk => ?_, fun u hu => ?_⟩
    · have := List.eq_of_mem_replicate (List.mem_of_getElem? hj)
      rw [this]; simp [hzl]
    · have hr := List.eq_of_mem_replicate (List.mem_of_getElem? hj)
      have hjl := (List.getElem?_eq_some_iff.1 hj).1
      simp only [List.length_replicate] at hjl
      subst hr
      rw [List.getElem?_map] at hk
      simp only [Option.map_eq_some_iff] at hk
      obtain ⟨u, hu, rfl⟩ := hk
      have hkl := (List.getElem?_eq_some_iff.1 hu).1
      simp only [Array.length_toList] at hkl
      refine ⟨u, ?_, zIC_ir (by rw [List.all_eq_true] at hz1; exact hz1 u (List.mem_of_getElem? hu))⟩
      have hp := place_lt hjl (show k < sz by omega)
      simp only [madeCells, Array.toList_map, Array.toList_range, List.getElem?_map, List.getElem?_range hp, Option.map_some]
      have hmod : (j * sz + k) % z0.cells.size = k := by rw [hzl, Nat.mul_comm, Nat.mul_add_mod, Nat.mod_eq_of_lt (by omega)]
      rw [hmod]
      have : z0.cells[k]? = some u := by simpa using hu
      simp [getElem!_def, this]
    · simp only [madeCells, Array.toList_map, Array.toList_range, List.mem_map, List.mem_range] at hu
      obtain ⟨q, hq, rfl⟩ := hu
      have hlt : q % z0.cells.size < z0.cells.size := by
        have := (div_lt hq).2.1
        rw [hzl]; exact this
      simp only [getElem!_def, Array.getElem?_eq_getElem hlt]
      rw [List.all_eq_true] at hz1
      exact hz1 _ (by simp))
  refine ⟨_, _, g', w', ?_, .inl rfl, hev, hsr, har⟩
  simp only [bound_run hrel hx, bound_run hrel hy, Sem.run_bind, hrun, Result.andThen_ok, Sem.run_pure]
def cellsAt (cells ys : List AV) (off : Nat) : List AV := cells.take off ++ ys ++ cells.drop (off + ys.length)
def fillA (place : Nat → Option (Nat × Nat)) (cells : List AV) : List (Nat × AV) → Option (List AV)
  | [] => some cells
  | (i, x) :: r => match place i with
    | some (off, n) => match cellsOk x with
      | some ys => bif Nat.beq ys.length n && Nat.ble (off + ys.length) cells.length then fillA place (cellsAt cells ys off) r else none
      | none => none
    | none => none
theorem foldl_set (vs : List Value) : ∀ (k off : Nat) (cs : Array Value), off + k + vs.length ≤ cs.size →
    ((vs.zipIdx k).foldl (fun cs (c, j) => cs.setIfInBounds (off + j) c) cs).toList = cs.toList.take (off + k) ++ vs ++ cs.toList.drop (off + k + vs.length) := by
  induction vs with
  | nil => intro k off cs h; simp
  | cons v r ih =>
    intro k off cs h
    simp only [List.zipIdx_cons, List.foldl_cons, List.length_cons] at h ⊢
    rw [ih (k + 1) off _ (by simp; omega)]
    have e := list_seg_step cs.toList (off + k) v r (by simp; omega)
    simpa [Array.toList_setIfInBounds, Nat.add_assoc] using e
theorem fill_rel {G : Nat → Prop} {s : List AObj} {g : Ghost} {w : World} {place : Nat → Option (Nat × Nat)} : ∀ (ps : List (Nat × AV)) (vs : List (Nat × Value)) (cells out : List AV) (cs : Array Value), ps.length = vs.length →
    (∀ (k : Nat) (p : Nat × AV) (v : Nat × Value), ps[k]? = some p → vs[k]? = some v → p.1 = v.1 ∧ AR G s g w p.2 v.2) → cs.size = cells.length → (∀ u ∈ cs, u.oneCell' = true) → (∀ (k : Nat) (x : AV), cells[k]? = some x → AR G s g w x (cs.getD k undef)) → fillA place cells ps = some out →
    ∃ cs', Instr.fill place cs vs = some cs' ∧ cs'.size = out.length ∧ out.length = cells.length ∧ (∀ u ∈ cs', u.oneCell' = true) ∧ ∀ (k : Nat) (x : AV), out[k]? = some x → AR G s g w x (cs'.getD k undef)
  | [], [], cells, out, cs, _, _, h1, h2, h3, h => by
    obtain rfl : cells = out := by simpa [fillA] using h
    exact ⟨cs, rfl, h1, rfl, h2, h3⟩
  | [], _ :: _, cells, out, cs, hl, _, _, _, _, _ => by simp at hl
  | _ :: _, [], cells, out, cs, hl, _, _, _, _, _ => by simp at hl
  | (i, x) :: ps, (i', v) :: vs, cells, out, cs, hl, hp, h1, h2, h3, h => by
    obtain ⟨e, hx⟩ := hp 0 _ _ rfl rfl
    simp only at e hx
    subst e
    simp only [fillA] at h
    cases hpl : place i with
    | none => simp [hpl] at h
    | some q =>
      obtain ⟨off, n⟩ := q
      simp only [hpl] at h
      cases hc : cellsOk x with
      | none => simp [hc] at h
      | some ys =>
        simp only [hc] at h
        cases hb : (Nat.beq ys.length n && Nat.ble (off + ys.length) cells.length) with
        | false => rw [hb] at h; simp at h
        | true =>
          rw [hb] at h
          simp only [cond_true] at h
          simp only [Bool.and_eq_true] at hb
          obtain rfl := Nat.eq_of_beq_eq_true hb.1
          have hle := Nat.le_of_ble_eq_true hb.2
          obtain ⟨c1, c3, c2⟩ := cells_of hx hc
          have hfold := foldl_set v.cells.toList 0 off cs (by simp; omega)
          simp only [Nat.add_zero] at hfold
          have hlen : v.cells.toList.length = ys.length := by simpa using c1
          have harr : (v.cells.zipIdx.foldl (fun cs (c, j) => cs.setIfInBounds (off + j) c) cs) = (cs.toList.take off ++ v.cells.toList ++ cs.toList.drop (off + v.cells.toList.length)).toArray := by
            rw [← hfold]
            rw [← Array.foldl_toList]
            simp [Array.toList_zipIdx]
          have hcl : cellsAt cells ys off = cells.take off ++ ys ++ cells.drop (off + ys.length) := rfl
          obtain ⟨cs', r1, r2, r3, r4, r5⟩ := fill_rel ps vs (cellsAt cells ys off) out (cs.toList.take off ++ v.cells.toList ++ cs.toList.drop (off + v.cells.toList.length)).toArray (by simpa using hl) (fun k p u hk hu => hp (k + 1) p u (by simpa using hk) (by simpa using hu)) (by simp [hcl]; omega) (fun u hu => by
              simp only [List.mem_toArray, List.mem_append] at hu
              rcases hu with (hu | hu) | hu
              · exact h2 u (by simpa using List.mem_of_mem_take hu)
              · exact c3 u (by simpa using hu)
              · exact h2 u (by simpa using List.mem_of_mem_drop hu)) (fun q z hz => by
              rw [hcl] at hz
              rw [getD_toList, List.getD_eq_getElem?_getD]
              simp only
              by_cases q1 : q < off
              · rw [List.append_assoc, List.getElem?_append_left (by simp; omega), List.getElem?_take, if_pos q1] at hz
                rw [List.append_assoc, List.getElem?_append_left (by simp; omega), List.getElem?_take, if_pos q1]
                have := h3 q z hz
                rwa [getD_toList, List.getD_eq_getElem?_getD] at this
              · by_cases q2 : q < off + ys.length
                · have l1 : (cells.take off).length = off := by simp; omega
                  have l2 : (cs.toList.take off).length = off := by simp; omega
                  rw [List.append_assoc, List.getElem?_append_right (by omega), l1, List.getElem?_append_left (by omega)] at hz
                  rw [List.append_assoc, List.getElem?_append_right (by omega), l2, List.getElem?_append_left (by omega)]
                  have := c2 _ z hz
                  rwa [getD_toList, List.getD_eq_getElem?_getD] at this
                · have l1 : (cells.take off ++ ys).length = off + ys.length := by simp; omega
                  have l2 : (cs.toList.take off ++ v.cells.toList).length = off + ys.length := by rw [List.length_append, hlen]; simp; omega
                  rw [List.getElem?_append_right (by omega), l1, List.getElem?_drop] at hz
                  rw [List.getElem?_append_right (by omega), l2, List.getElem?_drop, hlen]
                  have := h3 _ z hz
                  rwa [getD_toList, List.getD_eq_getElem?_getD] at this) h
          refine ⟨cs', ?_, r2, by rw [r3, hcl]; simp; omega, r4, r5⟩
          simp only [Instr.fill, hpl]
          rw [if_neg (by simp; omega), harr]
          exact r1
end Go.Proofs.Ytkkjlmcnfoncdaa.Aw

namespace Go.Proofs.Ytkkjlmcnfoncdaa.Aw
open Go Go.RowKit
theorem run_mapM_list {P : Program} {α β : Type} (f : α → Sem β) (h : α → β) (w : World) : ∀ (as : List α), (∀ a ∈ as, (f a).run P w = .ok (h a) w) → (as.mapM f).run P w = .ok (as.map h) w
  | [], _ => by simp
  | x :: r, hf => by
    have ih := run_mapM_list f h w r fun a ha => hf a (List.mem_cons_of_mem _ ha)
    simp [List.mapM_cons, hf x List.mem_cons_self, ih]
theorem run_mapM {P : Program} {α β : Type} (f : α → Sem β) (h : α → β) (w : World) (as : Array α) (hf : ∀ a ∈ as, (f a).run P w = .ok (h a) w) : (as.mapM f).run P w = .ok (as.map h) w := by
  have e : as.mapM f = List.toArray <$> as.toList.mapM f := by
    rw [Array.mapM_eq_mapM_toList]
  rw [e, Sem.run_map, run_mapM_list f h w as.toList (fun a ha => hf a (by simpa using ha))]
  have e2 : (List.map h as.toList).toArray = Array.map h as := by
    apply Array.ext'
    simp
  rw [Result.andThen_ok, e2]
theorem parts_rel {G : Nat → Prop} {s : St} {g : Ghost} {w : World} {a : Act} (hr : Rel G s g w a) (parts : Array (Nat × Operand)) : ∀ (k : Nat) (p : Nat × AV) (v : Nat × Value), (parts.toList.map fun q => (q.1, s.ev q.2))[k]? = some p → (parts.map fun q => (q.1, a.eval q.2)).toList[k]? = some v → p.1 = v.1 ∧ AR G s.st g w p.2 v.2 := fun k p v hp hv => by
  rw [List.getElem?_map] at hp
  rw [Array.toList_map, List.getElem?_map] at hv
  simp only [Option.map_eq_some_iff] at hp hv
  obtain ⟨q, hq, rfl⟩ := hp
  obtain ⟨q', hq', rfl⟩ := hv
  rw [hq] at hq'
  obtain rfl := Option.some.inj hq'
  exact ⟨rfl, hr.ev _⟩
theorem zero_rel {G : Nat → Prop} {s : List AObj} {g : Ghost} {w : World} (cs : Array Value) : ∀ (k : Nat) (x : AV), (cs.toList.map nilc)[k]? = some x → AR G s g w x (cs.getD k undef) := fun k x hk => by
  rw [List.getElem?_map] at hk
  simp only [Option.map_eq_some_iff] at hk
  obtain ⟨u, hu, rfl⟩ := hk
  rw [getD_toList, List.getD_eq_getElem?_getD, hu]
  exact .nilc u
theorem does_build {P : Program} {s : St} (t : TypeId) (parts : Array (Nat × Operand)) (fs : List (Nat × Nat × Bool)) (z : List Value) (out : List AV) (ht : (tyi P t).there = true) (hk : (tyi P t).k = .struct fs) (hz : (tyi P t).zero = some z) (hz1 : z.all (·.oneCell') = true)
    (hf : fillA (fun i => (fs[i]?).map fun q => (q.1, q.2.1)) (z.map nilc) (parts.toList.map fun q => (q.1, s.ev q.2)) = some out) :
    Does P s (fun ρ => do pure (.value (← Instr.build t (parts.map fun (i, x) => (i, ρ x))))) (.agg out) s.st :=
  .pure fun G g w a hrel => by
    obtain ⟨zv, hzr, rfl⟩ := run_zero hz w
    obtain ⟨d, hd, hrun⟩ := run_und (there_0 ht) w
    obtain ⟨fa, hu, rfl⟩ := tk_struct hk
    obtain rfl : d = .struct fa := by rw [hd] at hu; simpa using hu
    have hpl : (fa.mapM fun f => (do pure (f.offset, ← sizeOf f.type) : Sem (Nat × Nat))).run P w = .ok (fa.map fun f => (f.offset, P.cellsOf f.type)) w :=
      run_mapM _ _ w fa fun f hf => by
        obtain ⟨i, hi, e⟩ := Array.mem_iff_getElem.1 hf
        have := run_size (P := P) (there_field ht hu (f := i) (fl := f) (by rw [Array.getElem?_eq_getElem hi, e])) w
        simp [this]
    have hplace : (fun (i : Nat) => (List.map (fun f => (f.offset, P.cellsOf f.type, aggB P f.type)) fa.toList)[i]?.map fun (q : Nat × Nat × Bool) => (q.1, q.2.1)) = fun (i : Nat) => (fa.map fun f => (f.offset, P.cellsOf f.type))[i]? := by
      funext i
      rw [List.getElem?_map, Array.getElem?_map]
      simp only [Array.getElem?_toList, Option.map_map]
      rfl
    rw [hplace] at hf
    obtain ⟨cs', r1, r2, r3, r4, r5⟩ := fill_rel (G := G) (s := s.st) (g := g) (w := w) _ ((parts.map fun q => (q.1, a.eval q.2)).toList) _ out zv.cells (by simp) (parts_rel hrel parts) (by simp) (fun u hu => by
      rw [List.all_eq_true] at hz1
      exact hz1 u (by simpa using hu)) (zero_rel zv.cells) hf
    refine ⟨.agg cs', ?_, .agg _ _ r2 r5 r4⟩
    have e : (parts.map fun (x : Nat × Operand) => match x with | (i, x) => (i, a.eval x)) = parts.map fun q => (q.1, a.eval q.2) := rfl
    simp only [Instr.build, e, Sem.run_bind, hzr, Result.andThen_ok, hrun, hpl, r1, Sem.run_pure]
def allIC : List AV → Option (List IC)
  | [] => some []
  | .ic x :: r => match allIC r with
    | some z => some (x :: z)
    | none => none
  | _ :: _ => none
def chunk (sz : Nat) : Nat → List IC → List (List IC)
  | 0, _ => []
  | n + 1, l => l.take sz :: chunk sz n (l.drop sz)
theorem allIC_get {xs : List AV} {ys : List IC} (h : allIC xs = some ys) : xs = ys.map .ic := by
  induction xs generalizing ys with
  | nil =>
    obtain rfl : [] = ys := by simpa [allIC] using h
    rfl
  | cons x r ih =>
    cases x with
    | ic x =>
      simp only [allIC] at h
      cases hr : allIC r with
      | none => simp [hr] at h
      | some z =>
        obtain rfl : x :: z = ys := by simpa [hr] using h
        rw [ih hr]
        rfl
    | _ => simp [allIC] at h
theorem chunk_get (sz : Nat) : ∀ (n : Nat) (l : List IC) (j : Nat) (r : List IC), (chunk sz n l)[j]? = some r → j < n ∧ r = (l.drop (j * sz)).take sz
  | 0, l, j, r, h => by simp [chunk] at h
  | n + 1, l, 0, r, h => by simp [chunk] at h; subst h; simp
  | n + 1, l, j + 1, r, h => by
    simp only [chunk, List.getElem?_cons_succ] at h
    obtain ⟨h1, h2⟩ := chunk_get sz n _ j r h
    refine ⟨by omega, ?_⟩
    rw [h2, List.drop_drop]
    congr 2
    rw [Nat.succ_mul, Nat.add_comm]
theorem chunk_len (sz : Nat) : ∀ (n : Nat) (l : List IC), (chunk sz n l).length = n
  | 0, _ => rfl
  | n + 1, l => by simp [chunk, chunk_len sz n]
theorem does_lit {P : Program} {s : St} (t e : TypeId) (len : Nat) (parts : Array (Nat × Operand)) (sz : Nat) (z : List Value) (out : List AV) (flat : List IC) (ht : (tyi P t).there = true) (hk : (tyi P t).k = .slice e) (hsz : (tyi P e).size = sz) (hz : (tyi P e).zero = some z)
    (hz1 : z.all (·.oneCell') = true) (hzl : Nat.beq z.length sz = true) (hpos : Nat.blt 0 (len * sz) = true) (hle : Nat.ble (len * sz) 1000 = true)
    (hf : fillA (fun i => some (i * sz, sz)) ((List.range (len * sz)).map fun q => nilc (z.getD (q % sz) undef)) (parts.toList.map fun q => (q.1, s.ev q.2)) = some out) (ho : allIC out = some flat) :
    Does P s (fun ρ => do pure (.value (← Instr.buildSlice t len (parts.map fun (i, x) => (i, ρ x))))) (.ic (.sl sz true (chunk sz len flat))) s.st := fun G g w a hrel => by
  have hu := tk_slice hk
  obtain ⟨zv, hzr, rfl⟩ := run_zero hz w
  have hss := run_size (P := P) (there_elem ht hu) w
  have hz2 : P.cellsOf e = sz := hsz
  rw [hz2] at hss
  have hzl := Nat.eq_of_beq_eq_true hzl
  simp only [Array.length_toList] at hzl
  have hpos := Nat.le_of_ble_eq_true hpos
  have hle := Nat.le_of_ble_eq_true hle
  have hs0 : 0 < sz := by
    rcases Nat.eq_zero_or_pos sz with e | e
    · subst e; simp at hpos
    · exact e
  have hzs : ∀ q, q < len * sz → q % sz < zv.cells.size := fun q hq => by rw [hzl]; exact (div_lt hq).2.1
  obtain ⟨cs', r1, r2, r3, r4, r5⟩ := fill_rel (G := G) (s := s.st) (g := g) (w := w) _ ((parts.map fun q => (q.1, a.eval q.2)).toList) _ out ((Array.range (len * sz)).map (zv.cells[· % zv.cells.size]!)) (by simp) (parts_rel hrel parts) (by simp) (fun u hu => by
      simp only [Array.mem_map, Array.mem_range] at hu
      obtain ⟨q, hq, rfl⟩ := hu
      rw [hzl]
      simp only [getElem!_def, Array.getElem?_eq_getElem (hzs q hq)]
      rw [List.all_eq_true] at hz1
      exact hz1 _ (by simp)) (fun k x hk => by
      rw [List.getElem?_map] at hk
      simp only [Option.map_eq_some_iff] at hk
      obtain ⟨q, hq, rfl⟩ := hk
      have hql := List.getElem?_eq_some_iff.1 hq
      obtain ⟨h1, h2⟩ := hql
      simp at h1 h2
      subst h2
      have hkl := hzs k h1
      have e1 : ((Array.range (len * sz)).map (zv.cells[· % zv.cells.size]!)).getD k undef = zv.cells[k % sz] := by
        simp [h1, hzl, getElem!_def, Array.getElem?_eq_getElem hkl]
      have e2 : zv.cells.toList.getD (k % sz) undef = zv.cells[k % sz] := by
        rw [List.getD_eq_getElem?_getD, Array.getElem?_toList, Array.getElem?_eq_getElem hkl]
        rfl
      rw [e1, e2]
      exact .nilc _) hf
  have hout := allIC_get ho
  have hol : out.length = len * sz := by rw [r3]; simp
  have hfl : flat.length = len * sz := by rw [hout] at hol; simpa using hol
  have hlen : (chunk sz len flat).length = len := chunk_len _ _ _
  have hev : Evo s.st g w s.st g (w.alloc (.cells cs' e)) := .below ⟨rfl, rfl, rfl, by simp, fun k hk => Below.heap_alloc w _ k hk⟩
  have hmax : len ≤ maxLen := by
    have : len ≤ len * sz := Nat.le_mul_of_pos_right _ hs0
    simp only [maxLen]
    omega
  have hflat : Flat (w.alloc (.cells cs' e)) (Good G s.st g) sz (chunk sz len flat) cs'.toList := by
    refine ⟨by rw [hlen]; simp; omega, fun j r hj => ?_, fun j r k x hj hk => ?_, fun u hu => r4 u (by simpa using hu)⟩
    · obtain ⟨h1, rfl⟩ := chunk_get _ _ _ _ _ hj
      have := place_lt h1 hs0
      have h2 : j * sz + sz ≤ len * sz := by rw [← Nat.succ_mul]; exact Nat.mul_le_mul_right _ h1
      simp
      omega
    · obtain ⟨h1, rfl⟩ := chunk_get _ _ _ _ _ hj
      rw [List.getElem?_take] at hk
      split at hk
      · rename_i hks
        rw [List.getElem?_drop] at hk
        have hlt := place_lt h1 hks
        have := r5 (j * sz + k) (.ic x) (by rw [hout, List.getElem?_map, hk]; rfl)
        have hg : cs'.toList[j * sz + k]? = some (cs'.getD (j * sz + k) undef) := by
          rw [Array.getElem?_toList, Array.getElem?_eq_getElem (by omega)]
          simp [Array.getD, show j * sz + k < cs'.size by omega]
        exact ⟨_, hg, (this.evo hev).ic_inv⟩
      · simp at hk
  refine ⟨.value (.slice (some ⟨w.heap.size, 0, none⟩) len len), .slice (some ⟨w.heap.size, 0, none⟩) len len, g, _, ?_, .inl rfl, hev, hrel.sr.below ⟨rfl, rfl, rfl, by simp, fun k hk => Below.heap_alloc w _ k hk⟩, .ic _ _ ?_⟩
  · have e : (parts.map fun (x : Nat × Operand) => match x with | (i, x) => (i, a.eval x)) = parts.map fun q => (q.1, a.eval q.2) := rfl
    have h24 : ¬ (len * sz > 2 ^ 24) := by omega
    have h0 : ¬ (len * sz = 0) := by omega
    simp only [Instr.buildSlice, e, Sem.run_bind, run_underlying hu, Result.andThen_ok, hss, if_neg h24, if_neg h0, hzr, Sem.run_pure, r1, newRow, run_newObj]
    rfl
  · have := fresh_ir (c := len) hflat (heap_alloc_new w _) ⟨hrel.sr.new _ (Nat.le_refl _), fun ho => by have := Own.lt hrel.sr ho; exact Nat.lt_irrefl _ this⟩ (by omega) hmax (by rw [List.take_length]) true (fun _ => hlen.symm)
    rw [hlen] at this
    exact this
end Go.Proofs.Ytkkjlmcnfoncdaa.Aw

namespace Go.Proofs.Ytkkjlmcnfoncdaa.Aw
open Go Go.RowKit
def gset (g : Ghost) (i : Nat) (v : Value) : Ghost := fun j => if j = i then v else g j
theorem gset_same (g : Ghost) (i : Nat) (v : Value) : gset g i v i = v := by simp [gset]
theorem gset_ne (g : Ghost) (i j : Nat) (v : Value) (h : j ≠ i) : gset g i v j = g j := by simp [gset, h]
theorem SR.regrow {G : Nat → Prop} {s : List AObj} {g : Ghost} {w w' : World} (h : SR G s g w) (i : Nat) (ver ver' e sz : Nat) (xs xs' : List (List IC)) (v' : Value) (hi : s[i]? = some (.row true ver e sz xs)) (hg : w.grownBy w' (gb (g i)))
    (hv : gb v' = gb (g i) ∨ ∀ b, gb v' = some b → w.heap.size ≤ b) (hver : ver < ver' ∨ ver = ver' ∧ v' = g i)
    (ho : Evo s g w (s.set i (.row true ver' e sz xs')) (gset g i v') w' → OR G (s.set i (.row true ver' e sz xs')) (gset g i v') w' i (.row true ver' e sz xs')) :
    Evo s g w (s.set i (.row true ver' e sz xs')) (gset g i v') w' ∧ SR G (s.set i (.row true ver' e sz xs')) (gset g i v') w' := by
  have hil : i < s.length := (List.getElem?_eq_some_iff.1 hi).1
  have get : ∀ (j : Nat) (q : AObj), (s.set i (.row true ver' e sz xs'))[j]? = some q → (j = i ∧ q = .row true ver' e sz xs') ∨ (j ≠ i ∧ s[j]? = some q) := fun j q hj => by
    by_cases e' : j = i
    · subst e'
      rw [List.getElem?_set_self hil] at hj
      exact .inl ⟨rfl, by simpa using hj.symm⟩
    · rw [List.getElem?_set_ne (Ne.symm e')] at hj
      exact .inr ⟨e', hj⟩
  have hown : ∀ b, gb (g i) = some b → Own s g b := fun b hb => ⟨i, _, hi, rfl, hb⟩
  have k : Evo s g w (s.set i (.row true ver' e sz xs')) (gset g i v') w' := by
    refine ⟨hg.os, hg.tape, hg.output, hg.size, fun b hb hn => hg.block b hb (fun e => hn (hown b e.symm)), fun b hb ⟨j, p, hj, hpm, hpg⟩ => ?_, by simp, fun j m t cs hj hs => ?_, fun j m ver2 e2 sz2 xs2 hj hs => ?_, fun j c hj hs => ?_, fun j c hj hs => ?_⟩
    · rcases get j p hj with ⟨rfl, rfl⟩ | ⟨hne, hj⟩
      · rw [gset_same] at hpg
        rcases hv with hv | hv
        · rw [hv] at hpg; exact hown b hpg
        · have := hv b hpg; omega
      · rw [gset_ne _ _ _ _ hne] at hpg
        exact ⟨j, p, hj, hpm, hpg⟩
    · rcases get j _ hs with ⟨rfl, e⟩ | ⟨hne, hs⟩
      · cases e
      · exact ⟨⟨m, cs, hs⟩, gset_ne _ _ _ _ hne⟩
    · rcases get j _ hs with ⟨rfl, e'⟩ | ⟨hne, hs⟩
      · simp only [AObj.row.injEq] at e'
        obtain ⟨rfl, rfl, rfl, rfl, rfl⟩ := e'
        refine ⟨true, ver, xs, hi, by omega, fun ee => ?_⟩
        rcases hver with hlt | ⟨_, hve⟩
        · omega
        · rw [gset_same, hve]
      · exact ⟨m, ver2, xs2, hs, Nat.le_refl _, fun _ => gset_ne _ _ _ _ hne⟩
    · rcases get j _ hs with ⟨rfl, e'⟩ | ⟨hne, hs⟩
      · cases e'
      · exact ⟨⟨c, hs⟩, gset_ne _ _ _ _ hne⟩
    · rcases get j _ hs with ⟨rfl, e'⟩ | ⟨hne, hs⟩
      · cases e'
      · exact ⟨⟨c, hs⟩, gset_ne _ _ _ _ hne⟩
  refine ⟨k, fun j q hj => ?_, fun j1 j2 o1 o2 b' hj1 hj2 l1 l2 b1 b2 => ?_, fun q hq => h.new q (Nat.le_trans hg.size hq)⟩
  · rcases get j q hj with ⟨rfl, rfl⟩ | ⟨hne, hj⟩
    · exact ho k
    · by_cases hl : q.live = true
      · refine (h.obj j q hj).evo k (gset_ne _ _ _ _ hne) (fun b' hb' => hg.block b' ((h.obj j q hj).lt hl hb') (fun e => ?_))
        exact hne (h.inj j i q _ b' hj hi hl rfl hb' e.symm)
      · cases q <;> simp_all [AObj.live]
        trivial
  · have old : ∀ (j : Nat) (q : AObj), (s.set i (.row true ver' e sz xs'))[j]? = some q → q.live = true → gb (gset g i v' j) = some b' → (j = i ∧ gb v' = some b') ∨ (j ≠ i ∧ s[j]? = some q ∧ gb (g j) = some b' ∧ b' < w.heap.size) := by
      intro j q hj hl hb
      rcases get j q hj with ⟨rfl, rfl⟩ | ⟨hne, hj⟩
      · rw [gset_same] at hb; exact .inl ⟨rfl, hb⟩
      · rw [gset_ne _ _ _ _ hne] at hb; exact .inr ⟨hne, hj, hb, (h.obj j q hj).lt hl hb⟩
    have cross : ∀ (j : Nat) (q : AObj), gb v' = some b' → s[j]? = some q → q.live = true → gb (g j) = some b' → b' < w.heap.size → j = i := fun j q hvb hj hl hb hlt => by
      rcases hv with hv | hv
      · rw [hv] at hvb; exact h.inj j i q _ b' hj hi hl rfl hb hvb
      · have := hv b' hvb; omega
    rcases old j1 o1 hj1 l1 b1 with ⟨a1, a2⟩ | ⟨a1, a2, a3, a4⟩ <;> rcases old j2 o2 hj2 l2 b2 with ⟨c1, c2⟩ | ⟨c1, c2, c3, c4⟩
    · omega
    · have := cross j2 o2 a2 c2 l2 c3 c4; omega
    · have := cross j1 o1 c2 a2 l1 a3 a4; omega
    · exact h.inj j1 j2 o1 o2 b' a2 c2 l1 l2 a3 c3
theorem gb_ownBlock {v : Value} {A : Option Addr} {n c : Nat} (h : v = .slice A n c) : gb v = v.ownBlock := by
  subst h
  cases A <;> rfl
theorem does_appendOwn {P : Program} {s : St} (t ty e : TypeId) (x y : Operand) (i ver sz : Nat) (ex : Bool) (xs ys : List (List IC)) (ht : (tyi P t).there = true) (hk : (tyi P t).k = .slice e) (hsz : (tyi P e).size = sz) (hpos : Nat.blt 0 sz = true) (hz : (tyi P e).zero.map (·.length) = some sz)
    (hx : s.ev x = .own i ver) (hs : s.st[i]? = some (.row true ver e sz xs)) (hy : s.ev y = .ic (.sl sz ex ys)) (hn : (xs.length + ys.length) * (tyi P e).bytes ≤ 140737488355328) (hm : xs.length + ys.length ≤ maxLen) :
    Does P s (bcall (call1 .append #[x, y] #[t, t]) ty) (.own i (ver + 1)) (s.st.set i (.row true (ver + 1) e sz (xs ++ ys))) := fun G g w a hrel => by
  have h1 := hrel.ev x
  rw [hx] at h1
  have h2 := hrel.ev y
  rw [hy] at h2
  have hu := tk_slice hk
  have hthere := there_elem ht hu
  obtain ⟨i0, hi0⟩ := info_there hthere
  have hsize : i0.size = sz := by have : P.cellsOf e = sz := hsz; simpa [Program.cellsOf, hi0] using this
  have hzz : ∃ z, i0.zero = some z ∧ z.cells.size = sz := by
    simp only [tyi, hi0, Option.bind_some, Option.map_map, Option.map_eq_some_iff, Function.comp] at hz
    obtain ⟨z, hz0, hz1⟩ := hz
    exact ⟨z, hz0, by simpa using hz1⟩
  obtain ⟨z, hz0, hzs⟩ := hzz
  have hb : (tyi P e).bytes = i0.bytes := by simp [tyi, Program.bytesOf, hi0]
  rw [hb] at hn
  have hpos := Nat.le_of_ble_eq_true hpos
  obtain ⟨cells, hown, hG, hf⟩ := hrel.sr.obj i _ hs
  have hil : i < s.st.length := (List.getElem?_eq_some_iff.1 hs).1
  generalize hv : a.eval x = v at h1
  cases h1 with
  | own i ver v hi hv' hone =>
    obtain rfl := (hv' _ _ _ _ _ hs).2 rfl
    have hslice : ∃ A n c, g i = .slice A n c := by rcases hown.2 with ⟨e1, _⟩ | ⟨g0, cap, cur, e1, _⟩ <;> exact ⟨_, _, _, e1⟩
    obtain ⟨A0, n0, c0, hgi⟩ := hslice
    have arNew : ∀ g' w' v' (xs' : List (List IC)), v'.oneCell' = true → g' i = v' → AR G (s.st.set i (.row true (ver + 1) e sz xs')) g' w' (.own i (ver + 1)) v' := fun g' w' v' xs' h1 hgv => by
      refine .own _ _ _ (by simpa using hil) (fun m v2 e2 sz2 xs2 h => ?_) h1
      rw [List.getElem?_set_self hil] at h
      simp only [Option.some.injEq, AObj.row.injEq] at h
      obtain ⟨_, rfl, _⟩ := h
      exact ⟨Nat.le_refl _, fun _ => hgv.symm⟩
    by_cases hys : ys = []
    · subst hys
      obtain ⟨k, hsr⟩ := hrel.sr.regrow (w' := w) i ver (ver + 1) e sz xs (xs ++ []) (g i) hs ⟨rfl, rfl, rfl, Nat.le_refl _, fun _ _ _ => rfl⟩ (.inl rfl) (.inl (by omega)) (fun k => ⟨cells, by rw [gset_same, List.append_nil]; exact hown, fun b hb => hG b (by rw [gset_same] at hb; exact hb), by refine Flat.mono ?_ (fun x v h => IR.evo h k); rw [List.append_nil]; exact hf⟩)
      refine ⟨.value (g i), g i, _, w, ?_, .inl rfl, k, hsr, arNew _ _ _ _ hone (gset_same _ _ _)⟩
      obtain ⟨A, c, ev, hc1, hc2, _⟩ := h2.ic_inv.slice
      have hfc : (Builtin.firstCells sz 0 (.slice A 0 c)).run P w = .ok #[] w := by
        cases A with
        | none => exact run_firstCells_none _ _ _ _ _
        | some ad => exact run_firstCells_some (P := P) w sz 0 ad 0 c [] (by simp) (by simp)
      simp only [List.length_nil] at ev
      rcases hown.2 with ⟨e1, _⟩ | ⟨g0, cap, cur, e1, _, _, hle, _⟩
      · simp [bcall, resolve, invoke, builtin, hv, e1, ev, Builtin.append_, run_underlying hu, sizeOf, typeInfo, hi0, hsize, Builtin.lenOf, hfc]
      · simp [bcall, resolve, invoke, builtin, hv, e1, ev, Builtin.append_, run_underlying hu, sizeOf, typeInfo, hi0, hsize, Builtin.lenOf, hfc, hle, storeCells]
    · obtain ⟨A, c, ds, ev, hc1, hc2, _, hfd, hcell⟩ := h2.ic_inv.flat
      have hdl := hfd.len
      have hypos : 0 < ys.length := List.length_pos_iff.2 hys
      have hdpos : 0 < ds.length := by rw [hdl]; exact Nat.mul_pos hypos hpos
      obtain ⟨b, o, rfl, _⟩ := hcell 0 _ (List.getElem?_eq_getElem hdpos)
      obtain ⟨v', w', hrun, hown', hgrow, _, hblk⟩ := run_append_own_at (P := P) w 0 t ty e i0 z sz i0.bytes hu hi0 hz0 hsize rfl hzs hpos (g i) xs.length cells hown ⟨b, o, none⟩ ys.length c ds hdl
        (fun j u hj => by
          obtain ⟨b', o', he, hq⟩ := hcell j u hj
          simp only [Option.some.injEq, Addr.mk.injEq, and_true] at he
          obtain ⟨rfl, rfl⟩ := he
          rw [add_block]; exact hq) hfd.one hm hn (Nat.zero_le _)
      have hv'slice : ∃ A n c, v' = .slice A n c := by rcases hown'.2 with ⟨e1, _⟩ | ⟨g0, cap, cur, e1, _⟩ <;> exact ⟨_, _, _, e1⟩
      obtain ⟨A1, n1, c1, hv1⟩ := hv'slice
      have hb1 := gb_ownBlock hgi
      have hb2 := gb_ownBlock hv1
      obtain ⟨k, hsr⟩ := hrel.sr.regrow (w' := w') i ver (ver + 1) e sz xs (xs ++ ys) v' hs (by rw [hb1]; exact hgrow) (by
          rw [hb1, hb2]
          rcases hblk with h | h
          · exact .inl h
          · exact .inr fun b hb => by rw [h] at hb; simp at hb; omega) (.inl (by omega)) (fun k => ⟨cells ++ ds, by rw [gset_same, List.length_append]; exact hown', fun b hb => by
          rw [gset_same] at hb
          rw [hb2] at hb
          rcases hblk with h | h
          · exact hG b (by rw [hb1, ← h]; exact hb)
          · exact hrel.sr.new b (by rw [h] at hb; simp at hb; omega), (hf.append hfd).mono fun x v h => h.evo k⟩)
      refine ⟨.value v', v', _, w', ?_, .inl rfl, k, hsr, arNew _ _ _ _ (by rw [hv1]; rfl) (gset_same _ _ _)⟩
      simp only [bcall, resolve, List.map_toArray, List.map_cons, List.map_nil, hv, ev, Sem.run_bind, Sem.run_pure, Result.andThen_ok, invoke, builtin, hrun]
theorem does_takeOwn {P : Program} {s : St} (t e : TypeId) (x z : Operand) (i ver sz : Nat) (xs : List (List IC)) (k : IntKind) (n : Int) (ht : (tyi P t).there = true) (hk : (tyi P t).k = .slice e) (hsz : (tyi P e).size = sz)
    (hx : s.ev x = .own i ver) (hs : s.st[i]? = some (.row true ver e sz xs)) (hz : s.ev z = .ic (.lit (.int k n))) (h0 : 0 ≤ n) (h1 : n ≤ (xs.length : Int)) :
    Does P s (fun ρ => do pure (.value (← Instr.sliceAt t (ρ x) ((none : Option Operand).map ρ) ((some z).map ρ) ((none : Option Operand).map ρ)))) (.own i (ver + 1)) (s.st.set i (.row true (ver + 1) e sz (xs.take n.toNat))) := fun G g w a hrel => by
  have h2 := hrel.ev x
  rw [hx] at h2
  have hu : P.underlying t = some (.slice (P.elem t)) := by rw [elem_of t e hk]; exact tk_slice hk
  have hss := run_size (P := P) (there_elem ht (tk_slice hk)) w
  obtain ⟨cells, hown, hG, hf⟩ := hrel.sr.obj i _ hs
  have hil : i < s.st.length := (List.getElem?_eq_some_iff.1 hs).1
  generalize hv : a.eval x = v at h2
  cases h2 with
  | own i ver v hi hv' hone =>
    obtain rfl := (hv' _ _ _ _ _ hs).2 rfl
    have hflat : ∀ w' G', Flat w' G' sz xs cells → Flat w' G' sz (xs.take n.toNat) (cells.take (n.toNat * sz)) := fun w' G' hf => by
      have hl := hf.len
      refine ⟨?_, fun j r hj => ?_, fun j r q y hj hq => ?_, fun u hu => hf.one u (List.mem_of_mem_take hu)⟩
      · rw [List.length_take, List.length_take, hl, Nat.min_eq_left (Nat.mul_le_mul_right _ (show n.toNat ≤ xs.length by omega)), Nat.min_eq_left (show n.toNat ≤ xs.length by omega)]
      · rw [List.getElem?_take] at hj
        split at hj
        · exact hf.rows j r hj
        · simp at hj
      · rw [List.getElem?_take] at hj
        split at hj
        · rename_i hjn
          obtain ⟨u, hu, hr⟩ := hf.rel j r q y hj hq
          have hq' : q < sz := by have := (List.getElem?_eq_some_iff.1 hq).1; have := hf.rows j r hj; omega
          refine ⟨u, ?_, hr⟩
          rw [List.getElem?_take, if_pos (place_lt hjn hq')]
          exact hu
        · simp at hj
    have hlen : (xs.take n.toNat).length = n.toNat := by simp; omega
    rcases hown.2 with ⟨e1, e2⟩ | ⟨g0, cap, cur, e1, e3, e4, e5, e6, e7, e8⟩
    · have hn0 : n.toNat = 0 := by omega
      have hown' : w.ownsRow 0 e sz (.slice none 0 0) (xs.take n.toNat).length (cells.take (n.toNat * sz)) := by rw [hlen, hn0]; simp; exact World.ownsRow_nil _ _ _ _
      obtain ⟨kk, hsr⟩ := hrel.sr.regrow (w' := w) i ver (ver + 1) e sz xs (xs.take n.toNat) (.slice none 0 0) hs ⟨rfl, rfl, rfl, Nat.le_refl _, fun _ _ _ => rfl⟩ (.inl (by rw [e1])) (.inl (by omega)) (fun k => ⟨cells.take (n.toNat * sz), by rw [gset_same]; exact hown', fun b hb => by rw [gset_same] at hb; simp [gb] at hb, (hflat _ _ hf).mono fun x v h => h.evo k⟩)
      refine ⟨.value (.slice none 0 0), .slice none 0 0, _, w, ?_, .inl rfl, kk, hsr, .own _ _ _ (by simpa using hil) (fun m v2 e2 sz2 xs2 h => ?_) rfl⟩
      · have hnz : n = 0 := by omega
        subst hnz
        simp only [Option.map_none, Option.map_some, hv, e1, bound_run hrel hz, Sem.run_bind, run_sliceAt_slice w t _ _ _ _ hu, run_slice_h w t _ _ _ hu k 0 (by omega) (by simp), elem_of t e hk, hss, Result.andThen_ok, Sem.run_pure, sliced]
        simp
      · rw [List.getElem?_set_self hil] at h
        simp only [Option.some.injEq, AObj.row.injEq] at h
        obtain ⟨_, rfl, _⟩ := h
        exact ⟨Nat.le_refl _, fun _ => (gset_same _ _ _).symm⟩
    · have hown' : w.ownsRow 0 e sz (.slice (some ⟨g0, 0, none⟩) n.toNat cap) (xs.take n.toNat).length (cells.take (n.toNat * sz)) := by
        refine ⟨?_, .inr ⟨g0, cap, cur, by rw [hlen], Nat.zero_le _, e4, by rw [hlen]; omega, e6, e7, ?_⟩⟩
        · rw [hlen, List.length_take, hown.1, Nat.min_eq_left (Nat.mul_le_mul_right _ (by omega))]
        · rw [hlen, ← e8, List.take_take, Nat.min_eq_left (Nat.mul_le_mul_right _ (by omega))]
      obtain ⟨kk, hsr⟩ := hrel.sr.regrow (w' := w) i ver (ver + 1) e sz xs (xs.take n.toNat) (.slice (some ⟨g0, 0, none⟩) n.toNat cap) hs ⟨rfl, rfl, rfl, Nat.le_refl _, fun _ _ _ => rfl⟩ (.inl (by rw [e1]; rfl)) (.inl (by omega)) (fun k => ⟨cells.take (n.toNat * sz), by rw [gset_same]; exact hown', fun b hb => by rw [gset_same] at hb; exact hG b (by rw [e1]; exact hb), (hflat _ _ hf).mono fun x v h => h.evo k⟩)
      refine ⟨.value (.slice (some ⟨g0, 0, none⟩) n.toNat cap), .slice (some ⟨g0, 0, none⟩) n.toNat cap, _, w, ?_, .inl rfl, kk, hsr, .own _ _ _ (by simpa using hil) (fun m v2 e2 sz2 xs2 h => ?_) rfl⟩
      · simp only [Option.map_none, Option.map_some, hv, e1, bound_run hrel hz, Sem.run_bind, run_sliceAt_slice w t _ _ _ _ hu, run_slice_h w t (some ⟨g0, 0, none⟩) xs.length cap hu k n h0 (by omega), elem_of t e hk, hss, Result.andThen_ok, Sem.run_pure, sliced]
        simp [add_block]
      · rw [List.getElem?_set_self hil] at h
        simp only [Option.some.injEq, AObj.row.injEq] at h
        obtain ⟨_, rfl, _⟩ := h
        exact ⟨Nat.le_refl _, fun _ => (gset_same _ _ _).symm⟩
theorem row_block {G : Nat → Prop} {s : List AObj} {g : Ghost} {w : World} {i : Nat} {m : Bool} {ver e sz : Nat} {xs : List (List IC)} {v : Value} {j o : Nat} (h : AR G s g w (.rat i ver j o) v) (hs : s[i]? = some (.row m ver e sz xs)) (hr : SR G s g w) (hj : j < xs.length) :
    ∃ g0 cap cur cells, v = .pointer (some ⟨g0, j * sz + o, none⟩) ∧ g i = .slice (some ⟨g0, 0, none⟩) xs.length cap ∧ w.heap[g0]? = some (.cells cur e (0, 0)) ∧ xs.length ≤ cap ∧ cap ≤ maxLen ∧ cur.size = cap * sz ∧ cur.toList.take (xs.length * sz) = cells ∧ Flat w (Good G s g) sz xs cells ∧ G g0 := by
  cases h with
  | rat i ver j off v hi hv h1 =>
    obtain ⟨b, e1, e2⟩ := (hv _ _ _ _ _ hs).2 rfl
    obtain ⟨cells, hown, hG, hf⟩ := hr.obj i _ hs
    rcases hown.2 with ⟨f1, f2⟩ | ⟨g0, cap, cur, f1, f3, f4, f5, f6, f7, f8⟩
    · omega
    · rw [f1] at e1
      obtain rfl : g0 = b := by simpa [gb] using e1
      exact ⟨g0, cap, cur, cells, e2, f1, f4, f5, f6, f7, f8, hf, hG g0 (by rw [f1]; rfl)⟩
theorem does_loadRat {P : Program} {s : St} (t : TypeId) (x : Operand) (i ver j o e sz : Nat) (m : Bool) (xs : List (List IC)) (row : List IC) (r : AV) (ht : (tyi P t).there = true) (hx : s.ev x = .rat i ver j o) (hs : s.st[i]? = some (.row m ver e sz xs)) (hrow : xs[j]? = some row)
    (hr : bif (tyi P t).agg then Nat.ble (o + (tyi P t).size) row.length = true ∧ r = .agg (((row.drop o).take (tyi P t).size).map .ic) else row[o]?.map AV.ic = some r) : Does P s (fun ρ => do pure (.value (← Instr.loadAt t (ρ x)))) r s.st :=
  .pure fun G g w a hrel => by
    have h := hrel.ev x
    rw [hx] at h
    have hj := (List.getElem?_eq_some_iff.1 hrow).1
    obtain ⟨g0, cap, cur, cells, e1, e2, e3, e4, e5, e6, e7, hf, hG⟩ := row_block h hs hrel.sr hj
    have hcell : ∀ (k : Nat) (y : IC), row[k]? = some y → ∃ u, w.cell? ⟨g0, j * sz + k, none⟩ = some u ∧ IR w (Good G s.st g) y u := fun k y hk => by
      obtain ⟨u, hu, hir⟩ := hf.rel j row k y hrow hk
      refine ⟨u, ?_, hir⟩
      rw [← e7, List.getElem?_take] at hu
      split at hu
      · simpa [World.cell?, e3] using hu
      · simp at hu
    rw [agg_tyi] at hr
    have hsz : (tyi P t).size = P.cellsOf t := rfl
    rw [hsz] at hr
    cases hag : aggB P t with
    | true =>
      rw [hag] at hr
      obtain ⟨hle, rfl⟩ := hr
      have hle := Nat.le_of_ble_eq_true hle
      have hval : ∀ k, k < P.cellsOf t → ∃ u, w.cell? ⟨g0, j * sz + o + k, none⟩ = some u ∧ ∃ y, row[o + k]? = some y ∧ IR w (Good G s.st g) y u := fun k hk => by
        have hk' : o + k < row.length := by omega
        obtain ⟨u, hu, hir⟩ := hcell (o + k) _ (List.getElem?_eq_getElem hk')
        exact ⟨u, by rw [Nat.add_assoc]; exact hu, _, List.getElem?_eq_getElem hk', hir⟩
      let val : Nat → Value := fun k => (w.cell? ⟨g0, j * sz + o + k, none⟩).getD undef
      have hlen : ((List.range (P.cellsOf t)).map val).length = P.cellsOf t := by simp
      refine ⟨.agg ((List.range (P.cellsOf t)).map val).toArray, ?_, .agg _ _ (by simp; omega) (fun k y hk => ?_) (fun u hu => ?_)⟩
      · have := loadVar_agg (there_0 ht) hag w g0 (j * sz + o) ((List.range (P.cellsOf t)).map val) hlen (fun q v hq => by
          rw [List.getElem?_map] at hq
          simp only [Option.map_eq_some_iff] at hq
          obtain ⟨p, hp, rfl⟩ := hq
          obtain ⟨h1, h2⟩ := List.getElem?_eq_some_iff.1 hp
          simp at h1 h2
          subst h2
          obtain ⟨u, hu, _⟩ := hval q h1
          simp [val, hu])
        simp only [Instr.loadAt, e1, Instr.sureAddr, Sem.run_bind, Sem.run_pure, Result.andThen_ok, this]
      · rw [List.getElem?_map] at hk
        simp only [Option.map_eq_some_iff] at hk
        obtain ⟨c, hk, rfl⟩ := hk
        rw [List.getElem?_take] at hk
        split at hk
        · rename_i hlt
          rw [List.getElem?_drop] at hk
          obtain ⟨u, hu, y, hy, hir⟩ := hval k hlt
          rw [hk] at hy
          obtain rfl := Option.some.inj hy
          have e2 : ((List.range (P.cellsOf t)).map val).toArray.getD k undef = u := by simp [hlt, val, hu]
          rw [e2]
          exact .ic _ _ hir
        · simp at hk
      · obtain ⟨k, hk, hu⟩ := Array.mem_iff_getElem.1 hu
        simp at hk hu
        obtain ⟨u', hu', y, hy, hir⟩ := hval k hk
        rw [← hu]
        simp only [val, hu', Option.getD_some]
        exact hir.one
    | false =>
      rw [hag] at hr
      simp only [cond_false, Option.map_eq_some_iff] at hr
      obtain ⟨c, hc0, rfl⟩ := hr
      obtain ⟨u, hu, hir⟩ := hcell o c hc0
      have := loadVar_one (there_0 ht) hag w g0 (j * sz + o) u hu
      exact ⟨u, by simp only [Instr.loadAt, e1, Instr.sureAddr, Sem.run_bind, Sem.run_pure, Result.andThen_ok, this], .ic _ _ hir⟩
theorem row_store {G : Nat → Prop} {s : List AObj} {g : Ghost} {w : World} {i : Nat} {ver e sz : Nat} {xs : List (List IC)} (hs : s[i]? = some (.row true ver e sz xs)) (hr : SR G s g w) (g0 cap : Nat) (cur : Array Value) (hgi : g i = .slice (some ⟨g0, 0, none⟩) xs.length cap) (hb : w.heap[g0]? = some (.cells cur e (0, 0)))
    (h1 : xs.length ≤ cap) (h2 : cap ≤ maxLen) (h3 : cur.size = cap * sz) (hG : G g0) (xs' : List (List IC)) (cur' : Array Value) (hl : xs'.length = xs.length) (hsz : cur'.size = cur.size) (hf : ∀ w' s' g', Evo s g w s' g' w' → Flat w' (Good G s' g') sz xs' (cur'.toList.take (xs'.length * sz))) :
    Evo s g w (s.set i (.row true ver e sz xs')) g (w.setRow g0 cur') ∧ SR G (s.set i (.row true ver e sz xs')) g (w.setRow g0 cur') := by
  refine hr.turn i _ (.row true ver e sz xs') g0 hs rfl (by rw [hgi]; rfl) rfl (fun m t cs h => by cases h) (fun m v' e' sz' xs2 h => ?_) rfl rfl rfl (size_setRow _ _ _) (fun q hq => setRow_other _ _ _ _ hq) (fun k => ⟨_, ?_, fun b hb' => ?_, hf _ _ _ k⟩)
  · simp only [AObj.row.injEq] at h
    obtain ⟨_, rfl, rfl, rfl, _⟩ := h
    exact ⟨true, ver, xs, rfl, Nat.le_refl _⟩
  · refine ⟨?_, .inr ⟨g0, cap, cur', by rw [hgi, hl], Nat.zero_le _, setRow_heap _ _ _ _ _ _ hb, by omega, h2, by omega, rfl⟩⟩
    have hcl : cur'.toList.length = cap * sz := by rw [Array.length_toList]; omega
    rw [List.length_take, hcl]
    exact Nat.min_eq_left (Nat.mul_le_mul_right _ (by omega))
  · rw [hgi] at hb'
    obtain rfl : g0 = b := by simpa [gb] using hb'
    exact hG
theorem does_storeRat {P : Program} {s : St} (t : TypeId) (x y : Operand) (i ver j o e sz : Nat) (xs : List (List IC)) (row : List IC) (ys : List AV) (yc : List IC) (ht : (tyi P t).there = true) (hx : s.ev x = .rat i ver j o) (hs : s.st[i]? = some (.row true ver e sz xs)) (hrow : xs[j]? = some row)
    (hy : cellsOk (s.ev y) = some ys) (hyc : allIC ys = some yc) (hl : Nat.beq yc.length (tyi P t).size = true) (ho : o + yc.length ≤ row.length) :
    Does P s (fun ρ => do let _ ← Instr.storeAt t (ρ x) (ρ y); pure .skip) .any (s.st.set i (.row true ver e sz (xs.set j (row.take o ++ yc ++ row.drop (o + yc.length))))) := fun G g w a hrel => by
  have h := hrel.ev x
  rw [hx] at h
  have hj := (List.getElem?_eq_some_iff.1 hrow).1
  obtain ⟨g0, cap, cur, cells, e1, e2, e3, e4, e5, e6, e7, hf, hG⟩ := row_block h hs hrel.sr hj
  obtain ⟨c1, c3, c2⟩ := cells_of (hrel.ev y) hy
  have hl : yc.length = P.cellsOf t := Nat.eq_of_beq_eq_true hl
  have hyi := allIC_get hyc
  have hyl : (a.eval y).cells.toList.length = yc.length := by rw [hyi] at c1; simpa using c1
  have hrl := hf.rows j row hrow
  have hin : j * sz + sz ≤ cap * sz := by rw [← Nat.succ_mul]; exact Nat.mul_le_mul_right _ (by omega)
  have hrun := run_storeCells_at (P := P) g0 (j * sz + o) e (a.eval y).cells.toList 0 cur w e3 (by omega) (fun u hu => c3 u (by simpa using hu))
  simp only [Nat.add_zero] at hrun
  have hsz := run_size (P := P) (there_0 ht) w
  have hnl : (row.take o ++ yc ++ row.drop (o + yc.length)).length = sz := by simp; omega
  obtain ⟨k, hsr⟩ := row_store hs hrel.sr g0 cap cur e2 e3 e4 e5 e6 hG (xs.set j (row.take o ++ yc ++ row.drop (o + yc.length))) (cur.toList.take (j * sz + o) ++ (a.eval y).cells.toList ++ cur.toList.drop (j * sz + o + (a.eval y).cells.toList.length)).toArray (by simp) (by
      have hyl2 : (a.eval y).cells.size = yc.length := by rw [← hyl]; simp
      simp only [List.size_toArray, List.length_append, List.length_take, List.length_drop, Array.length_toList]
      omega) (fun w' s' g' k => by
    have hcl : (cur.toList.take (j * sz + o)).length = j * sz + o := by simp; omega
    have hone : ∀ u ∈ cur.toList.take (xs.length * sz), u.oneCell' = true := fun u hu => hf.one u (by rw [← e7]; exact hu)
    refine ⟨?_, fun q r hq => ?_, fun q r p c hq hp => ?_, fun u hu => ?_⟩
    · rw [List.length_take]
      simp
      rw [Nat.min_eq_left]
      have : xs.length * sz ≤ cap * sz := Nat.mul_le_mul_right _ e4
      omega
    · by_cases e' : j = q
      · subst e'
        rw [List.getElem?_set_self hj] at hq
        obtain rfl := Option.some.inj hq
        exact hnl
      · rw [List.getElem?_set_ne e'] at hq
        exact hf.rows q r hq
    · have hql : q < xs.length := by have := (List.getElem?_eq_some_iff.1 hq).1; simpa using this
      by_cases e' : j = q
      · subst e'
        rw [List.getElem?_set_self hj] at hq
        obtain rfl := Option.some.inj hq
        have hpl : p < sz := by have := (List.getElem?_eq_some_iff.1 hp).1; omega
        have hplace := place_lt hj hpl
        by_cases p1 : p < o
        · rw [List.append_assoc, List.getElem?_append_left (by simp; omega), List.getElem?_take, if_pos p1] at hp
          obtain ⟨u, hu, hir⟩ := hf.rel j row p c hrow hp
          refine ⟨u, ?_, hir.evo k⟩
          rw [List.getElem?_take, if_pos (by simpa using hplace)]
          simp only
          rw [List.append_assoc, List.getElem?_append_left (by omega), List.getElem?_take, if_pos (by omega)]
          rw [← e7, List.getElem?_take, if_pos hplace] at hu
          exact hu
        · by_cases p2 : p < o + yc.length
          · have l1 : (row.take o).length = o := by simp; omega
            rw [List.append_assoc, List.getElem?_append_right (by omega), l1, List.getElem?_append_left (by omega)] at hp
            have := c2 (p - o) (.ic c) (by rw [hyi, List.getElem?_map, hp]; rfl)
            rw [getD_toList, List.getD_eq_getElem?_getD] at this
            have hlt : p - o < (a.eval y).cells.toList.length := by omega
            refine ⟨_, ?_, (this.evo k).ic_inv⟩
            rw [List.getElem?_take, if_pos (by simpa using hplace)]
            simp only
            rw [List.append_assoc, List.getElem?_append_right (by omega), hcl, List.getElem?_append_left (by omega)]
            rw [show j * sz + p - (j * sz + o) = p - o by omega, List.getElem?_eq_getElem hlt]
            rfl
          · have l1 : (row.take o ++ yc).length = o + yc.length := by simp; omega
            rw [List.getElem?_append_right (by omega), l1, List.getElem?_drop] at hp
            rw [show o + yc.length + (p - (o + yc.length)) = p by omega] at hp
            obtain ⟨u, hu, hir⟩ := hf.rel j row p c hrow hp
            refine ⟨u, ?_, hir.evo k⟩
            rw [List.getElem?_take, if_pos (by simpa using hplace)]
            simp only
            have l2 : (cur.toList.take (j * sz + o) ++ (a.eval y).cells.toList).length = j * sz + o + yc.length := by rw [List.length_append, hcl, hyl]
            rw [List.getElem?_append_right (by omega), l2, List.getElem?_drop, hyl]
            rw [show j * sz + o + yc.length + (j * sz + p - (j * sz + o + yc.length)) = j * sz + p by omega]
            rw [← e7, List.getElem?_take, if_pos hplace] at hu
            exact hu
      · rw [List.getElem?_set_ne e'] at hq
        have hpl : p < sz := by have := (List.getElem?_eq_some_iff.1 hp).1; have := hf.rows q r hq; omega
        have hplace := place_lt hql hpl
        obtain ⟨u, hu, hir⟩ := hf.rel q r p c hq hp
        rw [← e7, List.getElem?_take, if_pos hplace] at hu
        refine ⟨u, ?_, hir.evo k⟩
        rw [List.getElem?_take, if_pos (by simpa using hplace)]
        simp only
        rcases Nat.lt_or_gt_of_ne e' with hlt | hgt
        · -- behind
          have h1 : j * sz + sz ≤ q * sz := by rw [← Nat.succ_mul]; exact Nat.mul_le_mul_right _ hlt
          have l2 : (cur.toList.take (j * sz + o) ++ (a.eval y).cells.toList).length = j * sz + o + yc.length := by rw [List.length_append, hcl, hyl]
          rw [List.getElem?_append_right (by omega), l2, List.getElem?_drop, hyl]
          rw [show j * sz + o + yc.length + (q * sz + p - (j * sz + o + yc.length)) = q * sz + p by omega]
          exact hu
        · have h1 : q * sz + sz ≤ j * sz := by rw [← Nat.succ_mul]; exact Nat.mul_le_mul_right _ hgt
          rw [List.append_assoc, List.getElem?_append_left (by omega), List.getElem?_take, if_pos (by omega)]
          exact hu
    · obtain ⟨q, hq⟩ := List.mem_iff_getElem?.1 hu
      rw [List.getElem?_take] at hq
      split at hq
      · rename_i hqn
        simp only [List.length_set] at hqn
        have old : ∀ v, cur.toList[q]? = some v → v.oneCell' = true := fun v hv => hone v (List.mem_iff_getElem?.2 ⟨q, by rw [List.getElem?_take, if_pos hqn]; exact hv⟩)
        simp only at hq
        by_cases p1 : q < j * sz + o
        · rw [List.append_assoc, List.getElem?_append_left (by omega), List.getElem?_take, if_pos p1] at hq
          exact old u hq
        · by_cases p2 : q < j * sz + o + yc.length
          · rw [List.append_assoc, List.getElem?_append_right (by omega), hcl, List.getElem?_append_left (by omega)] at hq
            exact c3 u (by simpa using List.mem_of_getElem? hq)
          · have l2 : (cur.toList.take (j * sz + o) ++ (a.eval y).cells.toList).length = j * sz + o + yc.length := by rw [List.length_append, hcl, hyl]
            rw [List.getElem?_append_right (by omega), l2, List.getElem?_drop, hyl, show j * sz + o + yc.length + (q - (j * sz + o + yc.length)) = q by omega] at hq
            exact old u hq
      · simp at hq)
  refine ⟨.skip, undef, g, _, ?_, .inr ⟨rfl, rfl⟩, k, hsr, .any _⟩
  have hc1 : (a.eval y).cells.size = P.cellsOf t := by rw [← hl, ← hyl]; simp
  simp only [Instr.storeAt, e1, Instr.sureAddr, storeVar, Sem.run_bind, Sem.run_pure, Result.andThen_ok, hsz, hc1, hrun]
  simp [hrun]
end Go.Proofs.Ytkkjlmcnfoncdaa.Aw

namespace Go.Proofs.Ytkkjlmcnfoncdaa.Aw
open Go Go.RowKit
def frz : AObj → AObj
  | .dead => .dead
  | .var _ t cs => .var false t cs
  | .row _ v e sz xs => .row false v e sz xs
  | .lp _ => .dead
  | .mpo _ => .dead
theorem frz_live (o : AObj) (h : (frz o).live = true) : o.live = true := by cases o <;> first | rfl | exact h
theorem frz_mu (o : AObj) : (frz o).mu = false := by cases o <;> rfl
theorem SR.frz {G : Nat → Prop} {s : List AObj} {g : Ghost} {w : World} (h : SR G s g w) (i : Nat) (o : AObj) (hi : s[i]? = some o) : Evo s g w (s.set i (Aw.frz o)) g w ∧ SR G (s.set i (Aw.frz o)) g w := by
  have hil : i < s.length := (List.getElem?_eq_some_iff.1 hi).1
  have get : ∀ (j : Nat) (q : AObj), (s.set i (Aw.frz o))[j]? = some q → (j = i ∧ q = Aw.frz o) ∨ (j ≠ i ∧ s[j]? = some q) := fun j q hj => by
    by_cases e : j = i
    · subst e
      rw [List.getElem?_set_self hil] at hj
      exact .inl ⟨rfl, by simpa using hj.symm⟩
    · rw [List.getElem?_set_ne (Ne.symm e)] at hj
      exact .inr ⟨e, hj⟩
  have k : Evo s g w (s.set i (Aw.frz o)) g w := by
    refine ⟨rfl, rfl, rfl, Nat.le_refl _, fun _ _ _ => rfl, fun q hq ⟨j, p, hj, hpm, hpg⟩ => ?_, by simp, fun j m t cs hj hs => ?_, fun j m ver e sz xs hj hs => ?_, fun j c hj hs => ?_, fun j c hj hs => ?_⟩
    · rcases get j p hj with ⟨rfl, rfl⟩ | ⟨hne, hj⟩
      · rw [frz_mu] at hpm; simp at hpm
      · exact ⟨j, p, hj, hpm, hpg⟩
    · rcases get j _ hs with ⟨rfl, e⟩ | ⟨hne, hs⟩
      · cases o <;> simp only [Aw.frz, reduceCtorEq, AObj.var.injEq] at e
        obtain ⟨_, rfl, rfl⟩ := e
        exact ⟨⟨_, _, hi⟩, rfl⟩
      · exact ⟨⟨m, cs, hs⟩, rfl⟩
    · rcases get j _ hs with ⟨rfl, e'⟩ | ⟨hne, hs⟩
      · cases o <;> simp only [Aw.frz, reduceCtorEq, AObj.row.injEq] at e'
        obtain ⟨_, rfl, rfl, rfl, rfl⟩ := e'
        exact ⟨_, _, _, hi, Nat.le_refl _, fun _ => rfl⟩
      · exact ⟨m, ver, xs, hs, Nat.le_refl _, fun _ => rfl⟩
    · rcases get j _ hs with ⟨rfl, e'⟩ | ⟨hne, hs⟩
      · cases o <;> simp only [Aw.frz, reduceCtorEq] at e'
      · exact ⟨⟨c, hs⟩, rfl⟩
    · rcases get j _ hs with ⟨rfl, e'⟩ | ⟨hne, hs⟩
      · cases o <;> simp only [Aw.frz, reduceCtorEq] at e'
      · exact ⟨⟨c, hs⟩, rfl⟩
  refine ⟨k, fun j q hj => ?_, fun j1 j2 o1 o2 b' hj1 hj2 l1 l2 b1 b2 => ?_, h.new⟩
  · rcases get j q hj with ⟨rfl, rfl⟩ | ⟨hne, hj⟩
    · have := (h.obj j o hi).evo (o := o) k rfl (fun _ _ => rfl)
      cases o <;> first | exact this | trivial
    · exact (h.obj j q hj).evo k rfl (fun _ _ => rfl)
  · have old : ∀ (j : Nat) (q : AObj), (s.set i (Aw.frz o))[j]? = some q → q.live = true → ∃ q' : AObj, s[j]? = some q' ∧ q'.live = true := by
      intro j q hj hl
      rcases get j q hj with ⟨rfl, rfl⟩ | ⟨hne, hj⟩
      · exact ⟨o, hi, frz_live _ hl⟩
      · exact ⟨q, hj, hl⟩
    obtain ⟨q1, a1, c1⟩ := old j1 o1 hj1 l1
    obtain ⟨q2, a2, c2⟩ := old j2 o2 hj2 l2
    exact h.inj j1 j2 q1 q2 b' a1 a2 c1 c2 b1 b2
def thaw (i ver sz : Nat) (xs : List (List IC)) : AV → AV
  | .own j v => bif Nat.beq i j && Nat.beq ver v then .ic (.sl sz false xs) else .own j v
  | x => x
theorem AWp.freeze {r : Option Nat} {P : Program} {c : Code} {s : St} {Q : Exit → St → Prop} (i ver e sz : Nat) (m : Bool) (xs : List (List IC)) (hi : s.st[i]? = some (.row m ver e sz xs))
    (h : AWp r P c ⟨s.nt, s.env.map (fun p => (p.1, thaw i ver sz xs p.2)), s.st.set i (.row false ver e sz xs)⟩ Q) : AWp r P c s Q := fun G g w a B QQ hr hB hd k => by
  obtain ⟨hev, hsr⟩ := hr.sr.frz i _ hi
  have hil : i < s.st.length := (List.getElem?_eq_some_iff.1 hi).1
  have hset : (s.st.set i (Aw.frz (.row m ver e sz xs)))[i]? = some (.row false ver e sz xs) := by rw [List.getElem?_set_self hil]; rfl
  have hrow : IR w (Good G (s.st.set i (Aw.frz (.row m ver e sz xs))) g) (.sl sz false xs) (g i) := row_ir hset hsr _ (fun _ h => h) (fun b hb hG => ⟨hG, fun ⟨j, o, hj, hm, hgj⟩ => by
    have := hsr.inj i j _ o b hset hj rfl (by cases o <;> simp_all [AObj.mu, AObj.live]) hb hgj
    subst this
    rw [hset] at hj
    simp only [Option.some.injEq] at hj
    subst hj
    simp [AObj.mu] at hm⟩)
  have hmap : ∀ (env : List (Nat × AV)) (t : Nat), look (env.map fun p => (p.1, thaw i ver sz xs p.2)) t = thaw i ver sz xs (look env t) := fun env t => by
    induction env with
    | nil => rfl
    | cons p r ih =>
      obtain ⟨q, x⟩ := p
      simp only [List.map_cons, look]
      cases Nat.beq q t <;> simp [ih]
  have hrel : Rel G ⟨s.nt, s.env.map (fun p => (p.1, thaw i ver sz xs p.2)), s.st.set i (Aw.frz (.row m ver e sz xs))⟩ g w a := by
    refine ⟨fun t => ?_, hr.size, hsr⟩
    show AR G _ g w (look (s.env.map fun p => (p.1, thaw i ver sz xs p.2)) t) _
    rw [hmap]
    have hx := (hr.slots t).evo hev
    show AR G _ g w (thaw i ver sz xs (s.get t)) _
    generalize s.get t = x at hx
    generalize a.tmps.getD t undef = v at hx
    cases x with
    | own j v' =>
      simp only [thaw]
      cases hb : (Nat.beq i j && Nat.beq ver v') with
      | false => exact hx
      | true =>
        simp only [Bool.and_eq_true] at hb
        obtain rfl := Nat.eq_of_beq_eq_true hb.1
        obtain rfl := Nat.eq_of_beq_eq_true hb.2
        cases hx with
        | own i ver v hi' hv h1 =>
          obtain rfl := (hv _ _ _ _ _ hset).2 rfl
          exact .ic _ _ hrow
    | _ => exact hx
  exact h G g w a B QQ hrel hB hd fun e2 s2 g2 w2 a2 q r2 ev2 d2 => k e2 s2 g2 w2 a2 q r2 (hev.trans ev2) d2
inductive AO where
  | add | sub | mul | eq | lt | le | seq | wrap | len | slen | no | hid (α : Type)
@[reducible] def AO.T : AO → Type
  | .add => IntKind → Int → Int → Int
  | .sub => IntKind → Int → Int → Int
  | .mul => IntKind → Int → Int → Int
  | .eq => Int → Int → Bool
  | .lt => Int → Int → Bool
  | .le => Int → Int → Bool
  | .seq => ByteArray → ByteArray → Bool
  | .wrap => IntKind → Int → Int
  | .len => List (List IC) → Int
  | .slen => ByteArray → Int
  | .no => Bool → Bool
  | .hid α => (Unit → α) → α
abbrev Ar := (o : AO) → o.T
def real : Ar
  | .add => fun k a b => k.wrap (a + b)
  | .sub => fun k a b => k.wrap (a - b)
  | .mul => fun k a b => k.wrap (a * b)
  | .eq => fun a b => decide (a = b)
  | .lt => fun a b => decide (a < b)
  | .le => fun a b => decide (a ≤ b)
  | .seq => fun a b => decide (a.toList = b.toList)
  | .wrap => fun k a => k.wrap a
  | .len => fun xs => (xs.length : Int)
  | .slen => fun b => (b.size : Int)
  | .no => fun b => !b
  | .hid _ => fun f => f ()
def intV (A : Ar) : BinOp → IntKind → Int → Int → Option Value
  | .add, k, a, b => some (.int k (A .add k a b))
  | .sub, k, a, b => some (.int k (A .sub k a b))
  | .mul, k, a, b => some (.int k (A .mul k a b))
  | .eql, _, a, b => some (.bool (A .eq a b))
  | .neq, _, a, b => some (.bool (A .no (A .eq a b)))
  | .lss, _, a, b => some (.bool (A .lt a b))
  | .leq, _, a, b => some (.bool (A .le a b))
  | .gtr, _, a, b => some (.bool (A .lt b a))
  | .geq, _, a, b => some (.bool (A .le b a))
  | _, _, _, _ => none
def strV (A : Ar) : BinOp → ByteArray → ByteArray → Option Value
  | .eql, a, b => some (.bool (A .seq a b))
  | .neq, a, b => some (.bool (A .no (A .seq a b)))
  | _, _, _ => none
def binV (A : Ar) (op : BinOp) : Value → Value → Option Value
  | .int k a, .int k' b => bif decide (k = k') then intV A op k a b else none
  | .string a, .string b => strV A op a b
  | _, _ => none
theorem intV_real (op : BinOp) (k : IntKind) (a b : Int) : intV real op k a b = intA op k a b := by cases op <;> rfl
theorem strV_real (op : BinOp) (a b : ByteArray) : strV real op a b = strA op a b := by cases op <;> rfl
theorem binV_real (op : BinOp) (a b : Value) : binV real op a b = binA op a b := by
  unfold binV binA
  cases a <;> cases b <;> first | rfl | simp only [intV_real, strV_real]
def evLen (A : Ar) (tab : List TI) (s : St) (c : Call) : Option (AV × List AObj) := match c.callee with
  | .builtin .len => match c.args.toList, c.argTypes.toList with
    | [x], [t] => match tab[t]? with
      | some i => match i.k, s.ev x with
        | .slice _, .ic (.sl _ _ xs) => some (.ic (.lit (.int .i64 (A .len xs))), s.st)
        | .string, .ic (.lit (.string b)) => some (.ic (.lit (.int .i64 (A .slen b))), s.st)
        | _, _ => none
      | none => none
    | _, _ => none
  | _ => none
def ev1 (A : Ar) (tab : List TI) (s : St) (op : Op) : Option (AV × List AObj) := match op with
  | .move x => some (s.ev x, s.st)
  | .assign x => some (s.ev x, s.st)
  | .pick c x y => match s.ev c with
    | .ic (.lit (.bool t)) => some (bif t then s.ev x else s.ev y, s.st)
    | _ => none
  | .alloc t => match tab[t]? with
    | some i => match i.zero with
      | some z => bif z.all (·.oneCell') then some (.ptr s.st.length 0, s.st ++ [.var true t (z.map nilc)]) else none
      | none => none
    | none => none
  | .box t x => match cellsOk (s.ev x) with
    | some cs => some (.ptr s.st.length 0, s.st ++ [.var true t cs])
    | none => none
  | .extract x i => match s.ev x with
    | .tup xs => match xs[i]? with
      | some r => some (r, s.st)
      | none => none
    | _ => none
  | .fieldAddr t x f => match tab[t]? with
    | some i => match i.k with
      | .struct fs => match fs[f]? with
        | some (off, n, _) => bif i.there && !Nat.beq n 0 then (match s.ev x with
          | .ptr j o => match s.st[j]? with
            | some (.var _ _ _) => some (.ptr j (o + off), s.st)
            | _ => none
          | .at cs => some (.at (cs.drop off), s.st)
          | _ => none) else none
        | none => none
      | _ => none
    | none => none
  | .field t x f => match tab[t]? with
    | some i => match i.k with
      | .struct fs => match fs[f]? with
        | some (off, n, ag) => match s.ev x with
          | .agg xs => bif i.there then (bif ag then (bif Nat.ble (off + n) xs.length then some (.agg ((xs.drop off).take n), s.st) else none) else (match xs[off]? with | some r => some (r, s.st) | none => none)) else none
          | _ => none
        | none => none
      | _ => none
    | none => none
  | .load t x => match tab[t]? with
    | some i => bif i.there then (match s.ev x with
      | .ptr j o => match s.st[j]? with
        | some (.var _ _ cs) => bif i.agg then (bif Nat.ble (o + i.size) cs.length then some (.agg ((cs.drop o).take i.size), s.st) else none) else (match cs[o]? with | some r => some (r, s.st) | none => none)
        | _ => none
      | .at cs => bif i.agg then (bif Nat.ble i.size cs.length then some (.agg ((cs.take i.size).map .ic), s.st) else none) else (match cs[0]? with | some r => some (.ic r, s.st) | none => none)
      | _ => none) else none
    | none => none
  | .store t x y => match tab[t]? with
    | some i => bif i.there then (match s.ev x with
      | .ptr j o => match s.st[j]? with
        | some (.var true t' cs) => match cellsOk (s.ev y) with
          | some ys => bif Nat.beq ys.length i.size && Nat.ble (o + ys.length) cs.length then some (.any, s.st.set j (.var true t' (cs.take o ++ ys ++ cs.drop (o + ys.length)))) else none
          | none => none
        | _ => none
      | _ => none) else none
    | none => none
  | .nilCheck x => match s.ev x with
    | .ptr j o => match s.st[j]? with
      | some (.var _ _ _) => some (.ptr j o, s.st)
      | _ => none
    | .at cs => some (.at cs, s.st)
    | .fn (.func f) b c => some (.fn (.func f) b c, s.st)
    | _ => none
  | .binOp op t x y _ => match s.ev x, s.ev y with
    | .ic (.lit a), .ic (.lit b) => match binV A op a b with
      | some r => some (.ic (.lit r), s.st)
      | none => none
    | _, _ => none
  | .unOp .not _ x => match s.ev x with
    | .ic (.lit (.bool b)) => some (.ic (.lit (.bool (A .no b))), s.st)
    | _ => none
  | .unOp .neg _ x => match s.ev x with
    | .ic (.lit (.int k n)) => some (.ic (.lit (.int k (A .sub k 0 n))), s.st)
    | _ => none
  | .convert src dst x => match tab[src]?, tab[dst]? with
    | some i, some j => bif i.there then (match j.k, s.ev x with
      | .int k, .ic (.lit (.int _ n)) => some (.ic (.lit (.int k (A .wrap k n))), s.st)
      | .string, .ic (.lit (.string b)) => some (.ic (.lit (.string b)), s.st)
      | _, _ => none) else none
    | _, _ => none
  | .makeFunc f first cap => some (.fn f (first.toList.map s.ev) (cap.toList.map s.ev), s.st)
  | .build t parts => match tab[t]? with
    | some i => match i.k, i.zero with
      | .struct fs, some z => bif i.there && z.all (·.oneCell') then (match fillA (fun i => (fs[i]?).map fun q => (q.1, q.2.1)) (z.map nilc) (parts.toList.map fun q => (q.1, s.ev q.2)) with
        | some out => some (.agg out, s.st)
        | none => none) else none
      | _, _ => none
    | none => none
  | .buildSlice t len parts => match tab[t]? with
    | some i => match i.k with
      | .slice e => match tab[e]? with
        | some j => match j.zero with
          | some z => bif i.there && z.all (·.oneCell') && Nat.beq z.length j.size && Nat.blt 0 (len * j.size) && Nat.ble (len * j.size) 1000 then (match fillA (fun i => some (i * j.size, j.size)) ((List.range (len * j.size)).map fun q => nilc (z.getD (q % j.size) undef)) (parts.toList.map fun q => (q.1, s.ev q.2)) with
            | some out => match allIC out with
              | some flat => some (.ic (.sl j.size true (chunk j.size len flat)), s.st)
              | none => none
            | none => none) else none
          | none => none
        | none => none
      | _ => none
    | none => none
  | .call c => evLen A tab s c
  | _ => none
end Go.Proofs.Ytkkjlmcnfoncdaa.Aw

namespace Go.Proofs.Ytkkjlmcnfoncdaa.Aw
open Go Go.RowKit
theorem Does.congr {P : Program} {s : St} {m m' : (Operand → Value) → Sem Next} {x : AV} {st' : List AObj} (h : Does P s m x st') (e : ∀ ρ, m' ρ = m ρ) : Does P s m' x st' := by
  have : m' = m := funext e
  rw [this]
  exact h
theorem tab_get {P : Program} {tab : List TI} (hT : TabOk P tab) {t : Nat} {i : TI} (h : tab[t]? = some i) : i = tyi P t := hT t i h
section ev
variable {P : Program} {tab : List TI} {s : St} {o : Oper} {x : AV} {st' : List AObj}
theorem ev1_mem {A : Ar} (hA : A = real) (hT : TabOk P tab) (h : ev1 A tab s o.op = some (x, st')) : Does P s (fun ρ => execOp ρ o) x st' := by
  subst hA
  cases hop : o.op with
  | move y =>
    rw [hop] at h
    simp only [ev1, Option.some.injEq, Prod.mk.injEq] at h
    obtain ⟨rfl, rfl⟩ := h
    exact (does_move y).congr fun ρ => by simp only [execOp, hop]
  | assign y =>
    rw [hop] at h
    simp only [ev1, Option.some.injEq, Prod.mk.injEq] at h
    obtain ⟨rfl, rfl⟩ := h
    exact (does_move y).congr fun ρ => by simp only [execOp, hop]
  | pick c y z =>
    rw [hop] at h
    simp only [ev1] at h
    split at h
    · rename_i t hc
      simp only [Option.some.injEq, Prod.mk.injEq] at h
      obtain ⟨rfl, rfl⟩ := h
      exact (does_pick c y z t hc).congr fun ρ => by simp only [execOp, hop]
    · simp at h
  | alloc t =>
    rw [hop] at h
    simp only [ev1] at h
    split at h
    · rename_i i hi
      obtain rfl := tab_get hT hi
      split at h
      · rename_i z hz
        cases hb : z.all (·.oneCell') with
        | false => rw [hb] at h; simp at h
        | true =>
          rw [hb] at h
          simp only [cond_true, Option.some.injEq, Prod.mk.injEq] at h
          obtain ⟨rfl, rfl⟩ := h
          exact (does_alloc t z hz hb).congr fun ρ => by simp only [execOp, hop]
      · simp at h
    · simp at h
  | box t y =>
    rw [hop] at h
    simp only [ev1] at h
    split at h
    · rename_i cs hc
      simp only [Option.some.injEq, Prod.mk.injEq] at h
      obtain ⟨rfl, rfl⟩ := h
      exact (does_box t y cs hc).congr fun ρ => by simp only [execOp, hop]
    · simp at h
  | extract y i =>
    rw [hop] at h
    simp only [ev1] at h
    split at h
    · rename_i xs hx
      split at h
      · rename_i r hr
        simp only [Option.some.injEq, Prod.mk.injEq] at h
        obtain ⟨rfl, rfl⟩ := h
        exact (does_extract y i xs r hx hr).congr fun ρ => by simp only [execOp, hop]
      · simp at h
    · simp at h
  | fieldAddr t y f =>
    rw [hop] at h
    simp only [ev1] at h
    split at h
    · rename_i i hi
      obtain rfl := tab_get hT hi
      split at h
      · rename_i fs hk
        split at h
        · rename_i off n ag hf
          cases hb : ((tyi P t).there && !Nat.beq n 0) with
          | false => rw [hb] at h; simp at h
          | true =>
            rw [hb] at h
            simp only [cond_true] at h
            simp only [Bool.and_eq_true, Bool.not_eq_true'] at hb
            have hn : n ≠ 0 := fun e => by subst e; simp [Nat.beq_refl] at hb
            split at h
            · rename_i j q hx
              split at h
              · rename_i m t' cs hs
                simp only [Option.some.injEq, Prod.mk.injEq] at h
                obtain ⟨rfl, rfl⟩ := h
                exact (does_fieldPtr t y f fs off n ag j q m t' cs hb.1 hk hf hn hx hs).congr fun ρ => by simp only [execOp, hop]
              · simp at h
            · rename_i cs hx
              simp only [Option.some.injEq, Prod.mk.injEq] at h
              obtain ⟨rfl, rfl⟩ := h
              exact (does_fieldAtc t y f fs off n ag cs hb.1 hk hf hn hx).congr fun ρ => by simp only [execOp, hop]
            · simp at h
        · simp at h
      · simp at h
    · simp at h
  | field t y f =>
    rw [hop] at h
    simp only [ev1] at h
    split at h
    · rename_i i hi
      obtain rfl := tab_get hT hi
      split at h
      · rename_i fs hk
        split at h
        · rename_i off n ag hf
          split at h
          · rename_i xs hx
            cases hb : (tyi P t).there with
            | false => rw [hb] at h; simp at h
            | true =>
              rw [hb] at h
              simp only [cond_true] at h
              cases ag with
              | true =>
                simp only [cond_true] at h
                cases hle : Nat.ble (off + n) xs.length with
                | false => rw [hle] at h; simp at h
                | true =>
                  rw [hle] at h
                  simp only [cond_true, Option.some.injEq, Prod.mk.injEq] at h
                  obtain ⟨rfl, rfl⟩ := h
                  exact (does_field t y f fs off n true xs _ hb hk hf hx ⟨hle, rfl⟩).congr fun ρ => by simp only [execOp, hop]
              | false =>
                simp only [cond_false] at h
                split at h
                · rename_i r hr
                  simp only [Option.some.injEq, Prod.mk.injEq] at h
                  obtain ⟨rfl, rfl⟩ := h
                  exact (does_field t y f fs off n false xs _ hb hk hf hx hr).congr fun ρ => by simp only [execOp, hop]
                · simp at h
          · simp at h
        · simp at h
      · simp at h
    · simp at h
  | load t y =>
    rw [hop] at h
    simp only [ev1] at h
    split at h
    · rename_i i hi
      obtain rfl := tab_get hT hi
      cases hb : (tyi P t).there with
      | false => rw [hb] at h; simp at h
      | true =>
        rw [hb] at h
        simp only [cond_true] at h
        split at h
        · rename_i j q hx
          split at h
          · rename_i m t' cs hs
            cases hag : (tyi P t).agg with
            | true =>
              rw [hag] at h
              simp only [cond_true] at h
              cases hle : Nat.ble (q + (tyi P t).size) cs.length with
              | false => rw [hle] at h; simp at h
              | true =>
                rw [hle] at h
                simp only [cond_true, Option.some.injEq, Prod.mk.injEq] at h
                obtain ⟨rfl, rfl⟩ := h
                exact (does_loadPtr t y j q m t' cs _ hb hx hs (by rw [hag]; exact ⟨hle, rfl⟩)).congr fun ρ => by simp only [execOp, hop]
            | false =>
              rw [hag] at h
              simp only [cond_false] at h
              split at h
              · rename_i r hr
                simp only [Option.some.injEq, Prod.mk.injEq] at h
                obtain ⟨rfl, rfl⟩ := h
                exact (does_loadPtr t y j q m t' cs _ hb hx hs (by rw [hag]; exact hr)).congr fun ρ => by simp only [execOp, hop]
              · simp at h
          · simp at h
        · rename_i cs hx
          cases hag : (tyi P t).agg with
          | true =>
            rw [hag] at h
            simp only [cond_true] at h
            cases hle : Nat.ble (tyi P t).size cs.length with
            | false => rw [hle] at h; simp at h
            | true =>
              rw [hle] at h
              simp only [cond_true, Option.some.injEq, Prod.mk.injEq] at h
              obtain ⟨rfl, rfl⟩ := h
              exact (does_loadAtc t y cs _ hb hx (by rw [hag]; exact ⟨hle, rfl⟩)).congr fun ρ => by simp only [execOp, hop]
          | false =>
            rw [hag] at h
            simp only [cond_false] at h
            split at h
            · rename_i r hr
              simp only [Option.some.injEq, Prod.mk.injEq] at h
              obtain ⟨rfl, rfl⟩ := h
              exact (does_loadAtc t y cs _ hb hx (by rw [hag]; simp [hr])).congr fun ρ => by simp only [execOp, hop]
            · simp at h
        · simp at h
    · simp at h
  | store t y z =>
    rw [hop] at h
    simp only [ev1] at h
    split at h
    · rename_i i hi
      obtain rfl := tab_get hT hi
      cases hb : (tyi P t).there with
      | false => rw [hb] at h; simp at h
      | true =>
        rw [hb] at h
        simp only [cond_true] at h
        split at h
        · rename_i j q hx
          split at h
          · rename_i t' cs hs
            split at h
            · rename_i ys hy
              cases hc : (Nat.beq ys.length (tyi P t).size && Nat.ble (q + ys.length) cs.length) with
              | false => rw [hc] at h; simp at h
              | true =>
                rw [hc] at h
                simp only [cond_true, Option.some.injEq, Prod.mk.injEq] at h
                obtain ⟨rfl, rfl⟩ := h
                simp only [Bool.and_eq_true] at hc
                exact (does_storePtr t y z j q t' cs ys hb hx hs hy hc.1 hc.2).congr fun ρ => by simp only [execOp, hop]
            · simp at h
          · simp at h
        · simp at h
    · simp at h
  | nilCheck y =>
    rw [hop] at h
    simp only [ev1] at h
    have e : ∀ ρ, execOp ρ o = execOp ρ ⟨none, .nilCheck y, 0, "", #[], none⟩ := fun ρ => by simp only [execOp, hop]
    split at h
    · rename_i j q hx
      split at h
      · rename_i m t' cs hs
        simp only [Option.some.injEq, Prod.mk.injEq] at h
        obtain ⟨rfl, rfl⟩ := h
        exact (does_nilPtr y j q m t' cs hx hs).congr e
      · simp at h
    · rename_i cs hx
      simp only [Option.some.injEq, Prod.mk.injEq] at h
      obtain ⟨rfl, rfl⟩ := h
      exact (does_nilAt y cs hx).congr e
    · rename_i f b c hx
      simp only [Option.some.injEq, Prod.mk.injEq] at h
      obtain ⟨rfl, rfl⟩ := h
      exact (does_nilFn y f b c hx).congr e
    · simp at h
  | binOp op t y z t2 =>
    rw [hop] at h
    simp only [ev1] at h
    split at h
    · rename_i a b hx hy
      split at h
      · rename_i r hr
        simp only [Option.some.injEq, Prod.mk.injEq] at h
        obtain ⟨rfl, rfl⟩ := h
        exact (does_bin op t y z a b r hx hy (by rw [← binV_real]; exact hr)).congr fun ρ => by simp only [execOp, hop]
      · simp at h
    · simp at h
  | unOp op t y =>
    rw [hop] at h
    cases op with
    | not =>
      simp only [ev1] at h
      split at h
      · rename_i b hx
        simp only [Option.some.injEq, Prod.mk.injEq] at h
        obtain ⟨rfl, rfl⟩ := h
        exact (does_not y b hx).congr fun ρ => by simp only [execOp, hop]
      · simp at h
    | neg =>
      simp only [ev1] at h
      split at h
      · rename_i k n hx
        simp only [Option.some.injEq, Prod.mk.injEq] at h
        obtain ⟨rfl, rfl⟩ := h
        exact (does_neg y k n hx).congr fun ρ => by simp only [execOp, hop]
      · simp at h
    | _ => simp [ev1] at h
  | convert src dst y =>
    rw [hop] at h
    simp only [ev1] at h
    split at h
    · rename_i i j hi hj
      obtain rfl := tab_get hT hi
      obtain rfl := tab_get hT hj
      cases hb : (tyi P src).there with
      | false => rw [hb] at h; simp at h
      | true =>
        rw [hb] at h
        simp only [cond_true] at h
        split at h
        · rename_i k k' n hk hx
          simp only [Option.some.injEq, Prod.mk.injEq] at h
          obtain ⟨rfl, rfl⟩ := h
          exact (does_convInt src dst y k k' n hb hk hx).congr fun ρ => by simp only [execOp, hop]
        · rename_i b hk hx
          simp only [Option.some.injEq, Prod.mk.injEq] at h
          obtain ⟨rfl, rfl⟩ := h
          exact (does_convStr src dst y b hb hk hx).congr fun ρ => by simp only [execOp, hop]
        · simp at h
    · simp at h
  | makeFunc f first cap =>
    rw [hop] at h
    simp only [ev1, Option.some.injEq, Prod.mk.injEq] at h
    obtain ⟨rfl, rfl⟩ := h
    exact (does_makeFunc f first cap).congr fun ρ => by simp only [execOp, hop]
  | build t parts =>
    rw [hop] at h
    simp only [ev1] at h
    split at h
    · rename_i i hi
      obtain rfl := tab_get hT hi
      split at h
      · rename_i fs z hk hz
        cases hb : ((tyi P t).there && z.all (·.oneCell')) with
        | false => rw [hb] at h; simp at h
        | true =>
          rw [hb] at h
          simp only [cond_true] at h
          simp only [Bool.and_eq_true] at hb
          split at h
          · rename_i out hf
            simp only [Option.some.injEq, Prod.mk.injEq] at h
            obtain ⟨rfl, rfl⟩ := h
            exact (does_build t parts fs z out hb.1 hk hz hb.2 hf).congr fun ρ => by simp only [execOp, hop]
          · simp at h
      · simp at h
    · simp at h
  | buildSlice t len parts =>
    rw [hop] at h
    simp only [ev1] at h
    split at h
    · rename_i i hi
      obtain rfl := tab_get hT hi
      split at h
      · rename_i e hk
        split at h
        · rename_i j hj
          obtain rfl := tab_get hT hj
          split at h
          · rename_i z hz
            cases hb : ((tyi P t).there && z.all (·.oneCell') && Nat.beq z.length (tyi P e).size && Nat.blt 0 (len * (tyi P e).size) && Nat.ble (len * (tyi P e).size) 1000) with
            | false => rw [hb] at h; simp at h
            | true =>
              rw [hb] at h
              simp only [cond_true] at h
              simp only [Bool.and_eq_true] at hb
              split at h
              · rename_i out hf
                split at h
                · rename_i flat hfl
                  simp only [Option.some.injEq, Prod.mk.injEq] at h
                  obtain ⟨rfl, rfl⟩ := h
                  exact (does_lit t e len parts _ z out flat hb.1.1.1.1 hk rfl hz hb.1.1.1.2 hb.1.1.2 hb.1.2 hb.2 hf hfl).congr fun ρ => by simp only [execOp, hop]
                · simp at h
              · simp at h
          · simp at h
        · simp at h
      · simp at h
    · simp at h
  | call c =>
    rw [hop] at h
    simp only [ev1, evLen] at h
    split at h
    · rename_i hcal
      split at h
      · rename_i y t ha ht
        have hc : c = call1 .len #[y] #[t] := by
          obtain ⟨callee, args, ts⟩ := c
          simp only at hcal ha ht
          subst hcal
          have e1 : args = #[y] := by apply Array.ext'; simpa using ha
          have e2 : ts = #[t] := by apply Array.ext'; simpa using ht
          rw [e1, e2]
        subst hc
        split at h
        · rename_i i hi
          obtain rfl := tab_get hT hi
          split at h
          · rename_i e sz ex xs hk hx
            simp only [Option.some.injEq, Prod.mk.injEq] at h
            obtain ⟨rfl, rfl⟩ := h
            exact (does_lenSl t o.type e y sz ex xs hk hx).congr fun ρ => by simp only [execOp, hop, bcall, call1]
          · rename_i b hk hx
            simp only [Option.some.injEq, Prod.mk.injEq] at h
            obtain ⟨rfl, rfl⟩ := h
            exact (does_lenStr t o.type y b hk hx).congr fun ρ => by simp only [execOp, hop, bcall, call1]
          · simp at h
        · simp at h
      · simp at h
    · simp at h
  | _ => rw [hop] at h; simp [ev1] at h
end ev
def adv (A : Ar) (tab : List TI) (ops : Array Oper) : List Nat → St → List Nat × St
  | [], s => ([], s)
  | i :: rest, s => match ops[i]? with
    | some o => match gd ops s o.guard with
      | some true => match ev1 A tab s o.op with
        | some (x, st') => bif dstOk s o.dst then adv A tab ops rest (putS s o.dst x st') else (i :: rest, s)
        | none => (i :: rest, s)
      | some false => bif dstOk s o.dst then adv A tab ops rest (putS s o.dst (.tup []) s.st) else (i :: rest, s)
      | none => (i :: rest, s)
    | none => (i :: rest, s)
theorem ev1_nd {A : Ar} {tab : List TI} {s : St} {op : Op} {r : AV × List AObj} (h : ev1 A tab s op = some r) : notDefer op = true := by
  cases op <;> first | rfl | simp [ev1] at h
theorem AOL.adv {r : Option Nat} {P : Program} {A : Ar} {tab : List TI} (hA : A = real) (hT : TabOk P tab) {ops : Array Oper} {Q : St → Prop} : ∀ (l : List Nat) (s : St), AOL r P ops (Aw.adv A tab ops l s).1 (Aw.adv A tab ops l s).2 Q → AOL r P ops l s Q
  | [], s, h => h
  | i :: rest, s, h => by
    simp only [Aw.adv] at h
    cases ho : ops[i]? with
    | none => simp only [ho] at h; exact h
    | some o =>
      simp only [ho] at h
      cases hg : gd ops s o.guard with
      | none => simp only [hg] at h; exact h
      | some b =>
        cases b with
        | true =>
          simp only [hg] at h
          cases he : ev1 A tab s o.op with
          | none => simp only [he] at h; exact h
          | some p =>
            obtain ⟨x, st'⟩ := p
            simp only [he] at h
            cases hd : dstOk s o.dst with
            | false => rw [hd] at h; exact h
            | true =>
              rw [hd] at h
              exact AOL.step ho hg hd (ev1_nd he) (ev1_mem hA hT he) (AOL.adv hA hT rest _ h)
        | false =>
          simp only [hg] at h
          cases hd : dstOk s o.dst with
          | false => rw [hd] at h; exact h
          | true =>
            rw [hd] at h
            exact AOL.skip ho hg hd (AOL.adv hA hT rest _ h)
theorem AOL.to {r : Option Nat} {P : Program} {A : Ar} {tab : List TI} (hA : A = real) (hT : TabOk P tab) {ops : Array Oper} {Q : St → Prop} {l l' : List Nat} {s s' : St} (h : Aw.adv A tab ops l s = (l', s')) (k : AOL r P ops l' s' Q) : AOL r P ops l s Q :=
  AOL.adv hA hT l s (by rw [h]; exact k)
end Go.Proofs.Ytkkjlmcnfoncdaa.Aw
