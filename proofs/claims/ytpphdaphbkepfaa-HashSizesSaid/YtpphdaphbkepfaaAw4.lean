/- The abstract walk, part 4: numbers, lengths, elements, cuts, new slices, append, copy. -/
import Derived.Test.YtpphdaphbkepfaaAw3
import Derived.Deep.AppendSrc
set_option linter.unusedVariables false
set_option linter.unusedSimpArgs false
namespace Go.Proofs.Ytpphdaphbkepfaa.Aw
open Go Go.RowKit

/-! ### numbers, bools, strings -/
def intA : BinOp → IntKind → Int → Int → Option Value
  | .add, k, a, b => some (.int k (k.wrap (a + b)))
  | .sub, k, a, b => some (.int k (k.wrap (a - b)))
  | .mul, k, a, b => some (.int k (k.wrap (a * b)))
  | .eql, _, a, b => some (.bool (decide (a = b)))
  | .neq, _, a, b => some (.bool (!decide (a = b)))
  | .lss, _, a, b => some (.bool (decide (a < b)))
  | .leq, _, a, b => some (.bool (decide (a ≤ b)))
  | .gtr, _, a, b => some (.bool (decide (b < a)))
  | .geq, _, a, b => some (.bool (decide (b ≤ a)))
  | _, _, _, _ => none
def strA : BinOp → ByteArray → ByteArray → Option Value
  | .eql, a, b => some (.bool (decide (a.toList = b.toList)))
  | .neq, a, b => some (.bool (!decide (a.toList = b.toList)))
  | _, _, _ => none
def binA (op : BinOp) : Value → Value → Option Value
  | .int k a, .int k' b => bif decide (k = k') then intA op k a b else none
  | .string a, .string b => strA op a b
  | _, _ => none

theorem intA_run {P : Program} {op : BinOp} {k : IntKind} {a b : Int} {r : Value} (h : intA op k a b = some r) (t : TypeId) (x y : Operand) (w : World) :
    (do eqGuard op t x y (.int k a) (.int k b); binOp op t (.int k a) (.int k b) : Sem Value).run P w = .ok r w ∧ r.oneCell' = true := by
  cases op <;> simp only [intA, Option.some.injEq, reduceCtorEq] at h <;> subst h <;>
    exact ⟨by simp [eqGuard, binOp, Op.intArith, Op.intCmp] <;> first | rfl | (simp only [bne]; congr 1; by_cases e : a = b <;> simp [e]) | (congr 1; by_cases e : a = b <;> simp [e]), rfl⟩
theorem strA_run {P : Program} {op : BinOp} {a b : ByteArray} {r : Value} (h : strA op a b = some r) (t : TypeId) (x y : Operand) (w : World) :
    (do eqGuard op t x y (.string a) (.string b); binOp op t (.string a) (.string b) : Sem Value).run P w = .ok r w ∧ r.oneCell' = true := by
  cases op <;> simp only [strA, Option.some.injEq, reduceCtorEq] at h <;> subst h <;>
    exact ⟨by simp [eqGuard, binOp, Op.stringOp] <;> (by_cases e : a.toList = b.toList <;> simp [e]), rfl⟩

theorem does_bin {P : Program} {s : St} (op : BinOp) (t : TypeId) (x y : Operand) (a b r : Value) (hx : s.ev x = .ic (.lit a)) (hy : s.ev y = .ic (.lit b)) (hr : binA op a b = some r) :
    Does P s (fun ρ => do pure (.value (← (do eqGuard op t x y (ρ x) (ρ y); binOp op t (ρ x) (ρ y) : Sem Value)))) (.ic (.lit r)) s.st :=
  .pure fun G g w act hrel => by
    have h1 := hrel.ev x
    have h2 := hrel.ev y
    rw [hx] at h1
    rw [hy] at h2
    have e1 := h1.lit_inv
    have e2 := h2.lit_inv
    have key : (do eqGuard op t x y a b; binOp op t a b : Sem Value).run P w = .ok r w ∧ r.oneCell' = true := by
      unfold binA at hr
      split at hr
      · rename_i k a k' b
        by_cases hk : k = k'
        · subst hk
          simp only [decide_true, cond_true] at hr
          exact intA_run hr t x y w
        · simp [hk] at hr
      · exact strA_run hr t x y w
      · simp at hr
    refine ⟨r, ?_, .ic _ _ (.lit _ key.2)⟩
    rw [e1, e2, Sem.run_bind, key.1]
    rfl

/-- a / b and a % b, b not nought. -/
theorem does_quo {P : Program} {s : St} (t : TypeId) (x y : Operand) (k : IntKind) (a b : Int) (hx : s.ev x = .ic (.lit (.int k a))) (hy : s.ev y = .ic (.lit (.int k b))) (hb : b ≠ 0) :
    Does P s (fun ρ => do pure (.value (← (do eqGuard .quo t x y (ρ x) (ρ y); binOp .quo t (ρ x) (ρ y) : Sem Value)))) (.ic (.lit (.int k (k.wrap (a.tdiv b))))) s.st :=
  .pure fun G g w act hrel => by
    have h1 := hrel.ev x
    have h2 := hrel.ev y
    rw [hx] at h1
    rw [hy] at h2
    refine ⟨_, ?_, .ic _ _ (.lit _ rfl)⟩
    rw [h1.lit_inv, h2.lit_inv]
    simp [eqGuard, binOp, Op.intDiv, hb]
theorem does_rem {P : Program} {s : St} (t : TypeId) (x y : Operand) (k : IntKind) (a b : Int) (hx : s.ev x = .ic (.lit (.int k a))) (hy : s.ev y = .ic (.lit (.int k b))) (hb : b ≠ 0) :
    Does P s (fun ρ => do pure (.value (← (do eqGuard .rem t x y (ρ x) (ρ y); binOp .rem t (ρ x) (ρ y) : Sem Value)))) (.ic (.lit (.int k (a.tmod b)))) s.st :=
  .pure fun G g w act hrel => by
    have h1 := hrel.ev x
    have h2 := hrel.ev y
    rw [hx] at h1
    rw [hy] at h2
    refine ⟨_, ?_, .ic _ _ (.lit _ rfl)⟩
    rw [h1.lit_inv, h2.lit_inv]
    simp [eqGuard, binOp, Op.intDiv, hb]
theorem does_concat {P : Program} {s : St} (t : TypeId) (x y : Operand) (a b : ByteArray) (hx : s.ev x = .ic (.lit (.string a))) (hy : s.ev y = .ic (.lit (.string b))) (hb : a.size + b.size ≤ 9223372036854775807) :
    Does P s (fun ρ => do pure (.value (← (do eqGuard .add t x y (ρ x) (ρ y); binOp .add t (ρ x) (ρ y) : Sem Value)))) (.ic (.lit (.string (a ++ b)))) s.st :=
  .pure fun G g w act hrel => by
    have h1 := hrel.ev x
    have h2 := hrel.ev y
    rw [hx] at h1
    rw [hy] at h2
    refine ⟨_, ?_, .ic _ _ (.lit _ rfl)⟩
    rw [h1.lit_inv, h2.lit_inv]
    have : ¬ (((a.size + b.size : Nat) : Int) > IntKind.i64.max) := by simp [IntKind.max, IntKind.signed, IntKind.bits]; omega
    simp [eqGuard, binOp, Op.stringOp]
    omega

theorem does_eqBool {P : Program} {s : St} (t : TypeId) (x y : Operand) (a b : Bool) (hk : (tyi P t).k = .bool) (hx : s.ev x = .ic (.lit (.bool a))) (hy : s.ev y = .ic (.lit (.bool b))) :
    Does P s (fun ρ => do pure (.value (← (do eqGuard .eql t x y (ρ x) (ρ y); binOp .eql t (ρ x) (ρ y) : Sem Value)))) (.ic (.lit (.bool (a == b)))) s.st :=
  .pure fun G g w act hrel => by
    have h1 := hrel.ev x
    have h2 := hrel.ev y
    rw [hx] at h1
    rw [hy] at h2
    refine ⟨_, ?_, .ic _ _ (.lit _ rfl)⟩
    rw [h1.lit_inv, h2.lit_inv]
    have := tk_bool hk
    simp [eqGuard, binOp, run_equal_bool _ _ _ _ this]
theorem does_neBool {P : Program} {s : St} (t : TypeId) (x y : Operand) (a b : Bool) (hk : (tyi P t).k = .bool) (hx : s.ev x = .ic (.lit (.bool a))) (hy : s.ev y = .ic (.lit (.bool b))) :
    Does P s (fun ρ => do pure (.value (← (do eqGuard .neq t x y (ρ x) (ρ y); binOp .neq t (ρ x) (ρ y) : Sem Value)))) (.ic (.lit (.bool (!(a == b))))) s.st :=
  .pure fun G g w act hrel => by
    have h1 := hrel.ev x
    have h2 := hrel.ev y
    rw [hx] at h1
    rw [hy] at h2
    refine ⟨_, ?_, .ic _ _ (.lit _ rfl)⟩
    rw [h1.lit_inv, h2.lit_inv]
    have := tk_bool hk
    simp [eqGuard, binOp, run_equal_bool _ _ _ _ this]

theorem does_not {P : Program} {s : St} (x : Operand) (a : Bool) (hx : s.ev x = .ic (.lit (.bool a))) : Does P s (fun ρ => do pure (.value (← Op.unary .not (ρ x)))) (.ic (.lit (.bool (!a)))) s.st :=
  .pure fun G g w act hrel => by
    have h1 := hrel.ev x
    rw [hx] at h1
    refine ⟨_, ?_, .ic _ _ (.lit _ rfl)⟩
    rw [h1.lit_inv]
    simp [Op.unary]
theorem does_neg {P : Program} {s : St} (x : Operand) (k : IntKind) (a : Int) (hx : s.ev x = .ic (.lit (.int k a))) : Does P s (fun ρ => do pure (.value (← Op.unary .neg (ρ x)))) (.ic (.lit (.int k (k.wrap (0 - a))))) s.st :=
  .pure fun G g w act hrel => by
    have h1 := hrel.ev x
    rw [hx] at h1
    refine ⟨_, ?_, .ic _ _ (.lit _ rfl)⟩
    rw [h1.lit_inv]
    simp [Op.unary, Op.intArith]

theorem does_convInt {P : Program} {s : St} (src dst : TypeId) (x : Operand) (k k' : IntKind) (n : Int) (h1 : (tyi P src).there = true) (h2 : (tyi P dst).k = .int k) (hx : s.ev x = .ic (.lit (.int k' n))) :
    Does P s (fun ρ => do pure (.value (← convert src dst (ρ x)))) (.ic (.lit (.int k (k.wrap n)))) s.st :=
  .pure fun G g w act hrel => by
    have h := hrel.ev x
    rw [hx] at h
    refine ⟨_, ?_, .ic _ _ (.lit _ rfl)⟩
    rw [h.lit_inv]
    obtain ⟨d, hd, hrun⟩ := run_und (there_0 h1) w
    simp [convert, hrun, run_underlying (tk_int h2), Conv.intToInt]
theorem does_convStr {P : Program} {s : St} (src dst : TypeId) (x : Operand) (b : ByteArray) (h1 : (tyi P src).there = true) (h2 : (tyi P dst).k = .string) (hx : s.ev x = .ic (.lit (.string b))) :
    Does P s (fun ρ => do pure (.value (← convert src dst (ρ x)))) (.ic (.lit (.string b))) s.st :=
  .pure fun G g w act hrel => by
    have h := hrel.ev x
    rw [hx] at h
    refine ⟨_, ?_, .ic _ _ (.lit _ rfl)⟩
    rw [h.lit_inv]
    obtain ⟨d, hd, hrun⟩ := run_und (there_0 h1) w
    simp [convert, hrun, run_underlying (tk_string h2)]

theorem does_makeFunc {P : Program} {s : St} (f : Fn) (first cap : Array Operand) : Does P s (fun ρ => do pure (.value (← Instr.makeFunc f (first.map ρ) (cap.map ρ)))) (.fn f (first.toList.map s.ev) (cap.toList.map s.ev)) s.st :=
  .pure fun G g w act hrel => by
    have key : ∀ (l : Array Operand) (k : Nat) (x : AV), (l.toList.map s.ev)[k]? = some x → AR G s.st g w x ((l.map act.eval).getD k undef) := fun l k x hk => by
      rw [List.getElem?_map] at hk
      simp only [Option.map_eq_some_iff] at hk
      obtain ⟨o, ho, rfl⟩ := hk
      rw [getD_toList, List.getD_eq_getElem?_getD, Array.toList_map, List.getElem?_map, ho]
      exact hrel.ev o
    exact ⟨_, by simp [Instr.makeFunc], .fn _ _ _ _ _ (by simp) (by simp) (key _) (key _)⟩

/-! ### lengths -/
abbrev call1 (b : Builtin) (args : Array Operand) (ts : Array TypeId) : Call := { callee := .builtin b, args := args, argTypes := ts }
abbrev bcall (c : Call) (ty : TypeId) (ρ : Operand → Value) : Sem Next := do let d ← resolve ρ c ty; invoke d.target d.args

theorem does_lenSl {P : Program} {s : St} (t ty e : TypeId) (x : Operand) (sz : Nat) (ex : Bool) (xs : List (List IC)) (hk : (tyi P t).k = .slice e) (hx : s.ev x = .ic (.sl sz ex xs)) :
    Does P s (bcall (call1 .len #[x] #[t]) ty) (.ic (.lit (.int .i64 (xs.length : Int)))) s.st :=
  .pure fun G g w act hrel => by
    have h := hrel.ev x
    rw [hx] at h
    obtain ⟨A, c, e1, h1, h2, _⟩ := h.ic_inv.slice
    refine ⟨_, ?_, .ic _ _ (.lit _ rfl)⟩
    simp [bcall, resolve, invoke, builtin, Builtin.len_, e1, run_underlying (tk_slice hk), goInt]
theorem does_lenOwn {P : Program} {s : St} (t ty e : TypeId) (x : Operand) (i ver : Nat) (m : Bool) (e' sz : Nat) (xs : List (List IC)) (hk : (tyi P t).k = .slice e) (hx : s.ev x = .own i ver) (hs : s.st[i]? = some (.row m ver e' sz xs)) :
    Does P s (bcall (call1 .len #[x] #[t]) ty) (.ic (.lit (.int .i64 (xs.length : Int)))) s.st :=
  .pure fun G g w act hrel => by
    have h := hrel.ev x
    rw [hx] at h
    generalize hv : act.eval x = v at h
    cases h with
    | own i ver v hi hv' h1 =>
      obtain rfl := (hv' _ _ _ _ _ hs).2 rfl
      obtain ⟨cells, ho, _⟩ := hrel.sr.obj i _ hs
      refine ⟨_, ?_, .ic _ _ (.lit _ rfl)⟩
      rcases ho.2 with ⟨e1, e2⟩ | ⟨g0, cap, cur, e1, _⟩
      · simp [bcall, resolve, invoke, builtin, Builtin.len_, hv, e1, e2, run_underlying (tk_slice hk), goInt]
      · simp [bcall, resolve, invoke, builtin, Builtin.len_, hv, e1, run_underlying (tk_slice hk), goInt]
theorem does_lenStr {P : Program} {s : St} (t ty : TypeId) (x : Operand) (b : ByteArray) (hk : (tyi P t).k = .string) (hx : s.ev x = .ic (.lit (.string b))) :
    Does P s (bcall (call1 .len #[x] #[t]) ty) (.ic (.lit (.int .i64 (b.size : Int)))) s.st :=
  .pure fun G g w act hrel => by
    have h := hrel.ev x
    rw [hx] at h
    refine ⟨_, ?_, .ic _ _ (.lit _ rfl)⟩
    have := h.lit_inv
    simp [bcall, resolve, invoke, builtin, Builtin.len_, this, run_underlying (tk_string hk), goInt]

/-! ### elements -/
theorem does_elem {P : Program} {s : St} (t e : TypeId) (x y : Operand) (sz : Nat) (ex : Bool) (xs : List (List IC)) (k : IntKind) (n : Int) (r : List IC) (ht : (tyi P t).there = true) (hk : (tyi P t).k = .slice e) (hsz : (tyi P e).size = sz)
    (hx : s.ev x = .ic (.sl sz ex xs)) (hy : s.ev y = .ic (.lit (.int k n))) (h0 : 0 ≤ n) (hr : xs[n.toNat]? = some r) : Does P s (fun ρ => do pure (.value (← Instr.indexAt t (ρ x) (ρ y)))) (.at r) s.st :=
  .pure fun G g w act hrel => by
    have h := hrel.ev x
    rw [hx] at h
    have h2 := hrel.ev y
    rw [hy] at h2
    have hlt := (List.getElem?_eq_some_iff.1 hr).1
    have hu := tk_slice hk
    have hsize := run_size (there_elem ht hu) w
    have hz : P.cellsOf e = sz := hsz
    rw [hz] at hsize
    have e2 := h2.lit_inv
    generalize hv : act.eval x = v at h
    have h := h.ic_inv
    cases h with
    | nil => simp at hlt
    | sl _ _ _ b o c val hb hl hc hx' hok hs hcell hin =>
      refine ⟨.pointer (some ⟨b, o + n.toNat * sz, none⟩), ?_, .«at» r b (o + n.toNat * sz) (fun q => val n.toNat q) hb hok (fun q z hq => ?_) (fun q z hq => hin _ _ _ _ hr hq)⟩
      · have hn : n < (xs.length : Int) := by omega
        simp [Instr.indexAt, hv, e2, asIntOf, run_underlying hu, h0, hn, hsize, add_block]
      · have := hcell _ _ _ _ hr hq
        rw [add_block] at this
        rw [Nat.add_assoc]
        exact this
theorem does_elemOwn {P : Program} {s : St} (t e : TypeId) (x y : Operand) (i ver : Nat) (m : Bool) (sz : Nat) (xs : List (List IC)) (k : IntKind) (n : Int) (ht : (tyi P t).there = true) (hk : (tyi P t).k = .slice e) (hsz : (tyi P e).size = sz)
    (hx : s.ev x = .own i ver) (hs : s.st[i]? = some (.row m ver e sz xs)) (hy : s.ev y = .ic (.lit (.int k n))) (h0 : 0 ≤ n) (hr : n < (xs.length : Int)) : Does P s (fun ρ => do pure (.value (← Instr.indexAt t (ρ x) (ρ y)))) (.rat i ver n.toNat 0) s.st :=
  .pure fun G g w act hrel => by
    have h := hrel.ev x
    rw [hx] at h
    have h2 := hrel.ev y
    rw [hy] at h2
    have hu := tk_slice hk
    have hsize := run_size (there_elem ht hu) w
    have hz : P.cellsOf e = sz := hsz
    rw [hz] at hsize
    have e2 := h2.lit_inv
    generalize hv : act.eval x = v at h
    cases h with
    | own i ver v hi hv' h1 =>
      obtain rfl := (hv' _ _ _ _ _ hs).2 rfl
      obtain ⟨cells, ho, _⟩ := hrel.sr.obj i _ hs
      rcases ho.2 with ⟨e1, e2⟩ | ⟨g0, cap, cur, e1, _⟩
      · omega
      · refine ⟨.pointer (some ⟨g0, n.toNat * sz, none⟩), ?_, .rat _ _ _ _ _ hi (fun m' v' e' sz' xs' hs' => ?_) rfl⟩
        · simp [Instr.indexAt, hv, e1, e2, asIntOf, run_underlying hu, h0, hr, hsize, add_block]
        · rw [hs] at hs'
          simp only [Option.some.injEq, AObj.row.injEq] at hs'
          obtain ⟨_, rfl, _, rfl, _⟩ := hs'
          exact ⟨Nat.le_refl _, fun _ => ⟨g0, by rw [e1]; rfl, by simp⟩⟩

def sb (s : ByteArray) (i : Int) : Int := ((s.data.toList.getD i.toNat 0).toNat : Int)
theorem does_byte {P : Program} {s : St} (t : TypeId) (x y : Operand) (b : ByteArray) (k : IntKind) (n : Int) (hk : (tyi P t).k = .string) (hx : s.ev x = .ic (.lit (.string b))) (hy : s.ev y = .ic (.lit (.int k n))) (h0 : 0 ≤ n) (h1 : n < (b.size : Int)) :
    Does P s (fun ρ => do pure (.value (← Instr.index t (ρ x) (ρ y)))) (.ic (.lit (.int .u8 (sb b n)))) s.st :=
  .pure fun G g w act hrel => by
    have h := hrel.ev x
    rw [hx] at h
    have h2 := hrel.ev y
    rw [hy] at h2
    have e1 := h.lit_inv
    have e2 := h2.lit_inv
    have hlt : n.toNat < b.size := by omega
    refine ⟨.int .u8 ((b[n.toNat]'hlt).toNat : Int), ?_, ?_⟩
    · simp [Instr.index, e1, e2, asIntOf, run_underlying (tk_string hk), h0, hlt]
    · have : ((b[n.toNat]'hlt).toNat : Int) = sb b n := by
        unfold sb
        have hl : n.toNat < b.data.toList.length := by simpa using hlt
        rw [List.getD_eq_getElem?_getD, List.getElem?_eq_getElem hl]
        rfl
      rw [this]
      exact .ic _ _ (.lit _ rfl)

end Go.Proofs.Ytpphdaphbkepfaa.Aw
