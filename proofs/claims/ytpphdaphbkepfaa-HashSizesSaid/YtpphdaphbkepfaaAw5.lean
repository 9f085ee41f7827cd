/- The abstract walk, part 5: regions, code, calls, functions. -/
import Derived.Test.YtpphdaphbkepfaaAw4
import Derived.OrdersIn
import Derived.RangeFuncLeaves
import Derived.RangeFuncRecord
set_option linter.unusedVariables false
set_option linter.unusedSimpArgs false
namespace Go.Proofs.Ytpphdaphbkepfaa.Aw
open Go Go.RowKit

abbrev FW (r : Option Nat) : Fence := { Fence.wide with round := r }

theorem FW_fn (r : Option Nat) (f : FuncId) : (FW r).fn f := trivial
theorem callsIn_FW {r : Option Nat} {P : Program} {f : FuncId} {args : Array Value} {w : World} {R : Ending → World → Prop} (n : Nat) : CallsIn (FW r) n P f args w R ↔ Calls P f args w R := callsIn_wide (n := n)

/-! ### regions -/
/-- No operation of the list writes slot t. -/
def Spares (ops : Array Oper) (l : List Nat) (t : Nat) : Prop := ∀ i ∈ l, ∀ o, ops[i]? = some o → o.dst ≠ some t
def Fr (ops : Array Oper) (l : List Nat) (a a' : Act) : Prop := ∀ t, Spares ops l t → a'.tmps.getD t undef = a.tmps.getD t undef
theorem Fr.put {ops : Array Oper} {i : Nat} {o : Oper} (ho : ops[i]? = some o) (a : Act) (v : Value) (t : Nat) (h : o.dst ≠ some t) : (a.put o.dst v).tmps.getD t undef = a.tmps.getD t undef := by
  cases hd : o.dst with
  | none => rfl
  | some d =>
    rw [hd] at h
    have hne : d ≠ t := fun e => h (by rw [e])
    show (a.tmps.setIfInBounds d v).getD t undef = _
    simp only [Array.getD_eq_getD_getElem?]
    rw [Array.getElem?_setIfInBounds_ne hne]
theorem Fr.cons {ops : Array Oper} {i : Nat} {rest : List Nat} {o : Oper} (ho : ops[i]? = some o) {a a' : Act} {v : Value} (h : Fr ops rest (a.put o.dst v) a') : Fr ops (i :: rest) a a' := fun t ht =>
  (h t fun j hj => ht j (List.mem_cons_of_mem _ hj)).trans (Fr.put ho a v t (ht i List.mem_cons_self o ho))

/-- Operations of a region, by their numbers, from state s; behind them Q. -/
def AOL (r : Option Nat) (P : Program) (ops : Array Oper) (l : List Nat) (s : St) (Q : St → Prop) : Prop :=
  ∀ G g w a QQ, Rel G s g w a → (∀ s' g' w' a', Q s' → Rel G s' g' w' a' → Evo s.st g w s'.st g' w' → a'.defers = a.defers → Fr ops l a a' → QQ Exit.normal a' w') → wpOpsIn (FW r) 0 P ops QQ l a w

theorem AOL.nil {r : Option Nat} {P : Program} {ops : Array Oper} {s : St} {Q : St → Prop} (h : Q s) : AOL r P ops [] s Q := fun G g w a QQ hr k => k s g w a h hr (.refl _ _ _) rfl (fun _ _ => rfl)

theorem AOL.mono {r : Option Nat} {P : Program} {ops : Array Oper} {l : List Nat} {s : St} {Q Q' : St → Prop} (h : AOL r P ops l s Q) (hq : ∀ s, Q s → Q' s) : AOL r P ops l s Q' :=
  fun G g w a QQ hr k => h G g w a QQ hr fun s' g' w' a' q => k s' g' w' a' (hq _ q)

def gd (ops : Array Oper) (s : St) : Option (Nat × Bool) → Option Bool
  | none => some true
  | some (j, want) => match ops[j]? with
    | some o => match o.dst with
      | some d => match s.get d with
        | .ic (.lit (.bool b)) => some (b == want)
        | .tup _ => some false
        | _ => none
      | none => none
    | none => none

theorem gd_wanted {G : Nat → Prop} {s : St} {g : Ghost} {w : World} {a : Act} (hr : Rel G s g w a) {ops : Array Oper} {o : Oper} {t : Bool} (h : gd ops s o.guard = some t) : Region.wanted o (yielded ops a.tmps) = t := by
  unfold Region.wanted
  cases hg : o.guard with
  | none => rw [hg] at h; simpa [gd] using h
  | some q =>
    obtain ⟨j, want⟩ := q
    rw [hg] at h
    simp only [gd] at h
    cases ho : ops[j]? with
    | none => simp [ho] at h
    | some p =>
      simp only [ho] at h
      cases hd : p.dst with
      | none => simp [hd] at h
      | some d =>
        simp only [hd] at h
        have hs := hr.slots d
        split at h
        · rename_i b hb
          rw [hb] at hs
          have e := hs.lit_inv
          have : a.tmps[d]? = some (.bool b) := by
            cases ht : a.tmps[d]? with
            | none => simp [Array.getD_eq_getD_getElem?, ht, undef] at e
            | some v => simpa [Array.getD_eq_getD_getElem?, ht] using e
          simp only [yielded, ho, hd, Option.bind_some, this]
          simpa using h
        · rename_i xs hb
          rw [hb] at hs
          obtain ⟨vs, e, _, _⟩ := hs.tup_inv
          simp only [Option.some.injEq] at h
          subst h
          simp only [yielded, ho, hd, Option.bind_some]
          cases ht : a.tmps[d]? with
          | none => rfl
          | some v =>
            have : v = .tuple vs := by simpa [Array.getD_eq_getD_getElem?, ht] using e
            rw [this]
            rfl
        · simp at h

def dstOk (s : St) : Option Tmp → Bool
  | some d => Nat.blt d s.nt
  | none => true
def putS (s : St) (d : Option Tmp) (x : AV) (st : List AObj) : St := match d with
  | some d => { s with env := (d, x) :: s.env, st := st }
  | none => { s with st := st }
def notDefer : Op → Bool
  | .defer _ => false
  | _ => true

theorem Rel.putS {G : Nat → Prop} {s : St} {g g' : Ghost} {w w' : World} {a : Act} {st' : List AObj} {x : AV} {v : Value} (h : Rel G s g w a) (d : Option Tmp) (hd : dstOk s d = true) (k : Evo s.st g w st' g' w') (hs : SR G st' g' w')
    (hx : AR G st' g' w' x v) : Rel G (Aw.putS s d x st') g' w' (a.put d v) := by
  cases d with
  | none => exact h.nop k hs
  | some d => exact h.put d (Nat.le_of_ble_eq_true hd) k hs hx

theorem putS_st (s : St) (d : Option Tmp) (x : AV) (st : List AObj) : (putS s d x st).st = st := by cases d <;> rfl
theorem put_defers (a : Act) (d : Option Tmp) (v : Value) : (a.put d v).defers = a.defers := by cases d <;> rfl

theorem semAt_of {r : Option Nat} {ρ : Operand → Value} {o : Oper} (h : notDefer o.op = true) : o.semAt r ρ = execOp ρ o :=
  Oper.semAt_eq r ρ o fun c e => by rw [e] at h; simp [notDefer] at h

theorem AOL.step {r : Option Nat} {P : Program} {ops : Array Oper} {i : Nat} {rest : List Nat} {s : St} {Q : St → Prop} {o : Oper} {x : AV} {st' : List AObj} (ho : ops[i]? = some o) (hg : gd ops s o.guard = some true) (hd : dstOk s o.dst = true)
    (hn : notDefer o.op = true) (h : Does P s (fun ρ => execOp ρ o) x st') (k : AOL r P ops rest (putS s o.dst x st') Q) : AOL r P ops (i :: rest) s Q := fun G g w a QQ hr kk => by
  obtain ⟨n, v, g', w', hrun, hv, hevo, hsr, hx⟩ := h G g w a hr
  simp only [wpOpsIn, ho, gd_wanted hr hg, if_true]
  refine ⟨fun _ _ => trivial, ?_⟩
  rw [semAt_of hn, hrun]
  have hrel := hr.putS o.dst hd hevo hsr hx
  have := k G g' w' _ QQ hrel fun s' g2 w2 a2 q hr2 he hdf hfr => kk s' g2 w2 a2 q hr2 (hevo.trans (by rw [putS_st] at he; exact he)) (hdf.trans (put_defers _ _ _)) (Fr.cons ho hfr)
  rcases hv with rfl | ⟨rfl, rfl⟩
  · exact this
  · exact this

theorem AOL.skip {r : Option Nat} {P : Program} {ops : Array Oper} {i : Nat} {rest : List Nat} {s : St} {Q : St → Prop} {o : Oper} (ho : ops[i]? = some o) (hg : gd ops s o.guard = some false) (hd : dstOk s o.dst = true)
    (k : AOL r P ops rest (putS s o.dst (.tup []) s.st) Q) : AOL r P ops (i :: rest) s Q := fun G g w a QQ hr kk => by
  simp only [wpOpsIn, ho, gd_wanted hr hg]
  refine ⟨fun _ _ => trivial, ?_⟩
  have hrel := hr.putS o.dst hd (.refl _ _ _) hr.sr (.tup [] (#[] : Array Value) rfl (by simp))
  exact k G g w _ QQ hrel fun s' g2 w2 a2 q hr2 he hdf hfr => kk s' g2 w2 a2 q hr2 (by rw [putS_st] at he; exact he) (hdf.trans (put_defers _ _ _)) (Fr.cons ho hfr)

/-! ### data that goes in and out of a call -/
inductive PV where
  | c (x : IC)
  | agg (xs : List IC)
  | tup (xs : List PV)
  deriving Inhabited

inductive PR (w : World) (ok : Nat → Prop) : PV → Value → Prop where
  | c (x : IC) (v : Value) (h : IR w ok x v) : PR w ok (.c x) v
  | agg (xs : List IC) (vs : Array Value) (h1 : vs.size = xs.length) (h2 : ∀ (k : Nat) (x : IC), xs[k]? = some x → IR w ok x (vs.getD k undef)) : PR w ok (.agg xs) (.agg vs)
  | tup (xs : List PV) (vs : Array Value) (h1 : vs.size = xs.length) (h2 : ∀ (k : Nat) (x : PV), xs[k]? = some x → PR w ok x (vs.getD k undef)) : PR w ok (.tup xs) (.tuple vs)

mutual
def PV.av : PV → AV
  | .c x => .ic x
  | .agg xs => .agg (xs.map .ic)
  | .tup xs => .tup (PV.avs xs)
def PV.avs : List PV → List AV
  | [] => []
  | x :: r => x.av :: PV.avs r
end
theorem PV.avs_eq (l : List PV) : PV.avs l = l.map PV.av := by
  induction l with
  | nil => rfl
  | cons x r ih => simp [PV.avs, ih]

theorem PR.ar {G : Nat → Prop} {s : List AObj} {g : Ghost} {w : World} {x : PV} {v : Value} (h : PR w (Good G s g) x v) : AR G s g w x.av v := by
  induction h with
  | c x v h => exact .ic x v h
  | agg xs vs h1 h2 =>
    refine .agg _ _ (by simpa using h1) (fun k x hk => ?_) (fun u hu => ?_)
    · rw [List.getElem?_map] at hk
      simp only [Option.map_eq_some_iff] at hk
      obtain ⟨y, hy, rfl⟩ := hk
      exact .ic _ _ (h2 k y hy)
    · obtain ⟨i, hi, e⟩ := Array.mem_iff_getElem.1 hu
      have := h2 i _ (List.getElem?_eq_getElem (by omega))
      simp only [Array.getD, hi, dif_pos] at this
      rw [← e]
      exact this.one
  | tup xs vs h1 h2 ih =>
    rw [PV.av, PV.avs_eq]
    refine .tup _ _ (by simpa using h1) (fun k x hk => ?_)
    rw [List.getElem?_map] at hk
    simp only [Option.map_eq_some_iff] at hk
    obtain ⟨y, hy, rfl⟩ := hk
    exact ih k y hy

theorem PR.mono {w w' : World} {ok ok' : Nat → Prop} {x : PV} {v : Value} (h : PR w ok x v) (h1 : ∀ x v, IR w ok x v → IR w' ok' x v) : PR w' ok' x v := by
  induction h with
  | c x v h => exact .c x v (h1 _ _ h)
  | agg xs vs e h2 => exact .agg xs vs e fun k x hk => h1 _ _ (h2 k x hk)
  | tup xs vs e h2 ih => exact .tup xs vs e ih

/-- Blocks that a datum leads to play no part. -/
def noSlI : IC → Bool
  | .lit _ => true
  | .sl _ _ _ => false
mutual
def noSl : PV → Bool
  | .c x => noSlI x
  | .agg xs => xs.all noSlI
  | .tup xs => noSls xs
def noSls : List PV → Bool
  | [] => true
  | x :: r => noSl x && noSls r
end
theorem noSls_mem {l : List PV} (h : noSls l = true) : ∀ x ∈ l, noSl x = true := by
  induction l with
  | nil => simp
  | cons y r ih =>
    simp only [noSls, Bool.and_eq_true] at h
    intro x hx
    rcases List.mem_cons.1 hx with rfl | hx
    · exact h.1
    · exact ih h.2 x hx
theorem IR.any {w w' : World} {ok ok' : Nat → Prop} {x : IC} {v : Value} (h : IR w ok x v) (hn : noSlI x = true) : IR w' ok' x v := by
  cases x with
  | lit u => cases h with | lit v h => exact .lit v h
  | sl => simp [noSlI] at hn
theorem PR.any {w w' : World} {ok ok' : Nat → Prop} {x : PV} {v : Value} (h : PR w ok x v) (hn : noSl x = true) : PR w' ok' x v := by
  induction h with
  | c x v h => exact .c x v (h.any hn)
  | agg xs vs e h2 =>
    simp only [noSl, List.all_eq_true] at hn
    exact .agg xs vs e fun k x hk => (h2 k x hk).any (hn x (List.mem_of_getElem? hk))
  | tup xs vs e h2 ih =>
    simp only [noSl] at hn
    exact .tup xs vs e fun k x hk => ih k x hk (noSls_mem hn x (List.mem_of_getElem? hk))

def entersB (P : Program) (f : FuncId) : Bool := match P.funcs[f]? with
  | some fn => !(fn.name == "runtime.NumGoroutine") && fn.body.isSome
  | none => false

/-- Function f, called with data that read as pvs, hands back data that read as r, and turns nothing that was there. -/
def PureCalls (P : Program) (f : FuncId) (pvs : List PV) (r : PV) : Prop :=
  entersB P f = true ∧ ∀ (ok : Nat → Prop) (w : World) (vals : Array Value), vals.size = pvs.length → (∀ (k : Nat) (x : PV), pvs[k]? = some x → PR w ok x (vals.getD k undef)) →
    Calls P f vals w fun e w' => ∃ v, e = .returned v ∧ PR w' (fun b => ok b ∨ w.heap.size ≤ b) r v ∧ Below w.heap.size w w'

/-- Function f, called in a store. -/
def ACalls (P : Program) (f : FuncId) (xs : List AV) (st : List AObj) (R : AV → List AObj → Prop) : Prop :=
  entersB P f = true ∧ ∀ (G : Nat → Prop) (g : Ghost) (w : World) (vals : Array Value), vals.size = xs.length → SR G st g w → (∀ (k : Nat) (x : AV), xs[k]? = some x → AR G st g w x (vals.getD k undef)) →
    Calls P f vals w fun e w' => ∃ v x st' g', e = .returned v ∧ R x st' ∧ AR G st' g' w' x v ∧ SR G st' g' w' ∧ Evo st g w st' g' w'

theorem Evo.below {s : List AObj} {g : Ghost} {w w' : World} (h : Below w.heap.size w w') : Evo s g w s g w' :=
  ⟨h.os, h.tape, h.output, h.size, fun b hb _ => h.block b hb, fun _ _ h => h, Nat.le_refl _, fun i m t cs _ h => ⟨⟨m, cs, h⟩, rfl⟩, fun i m ver e sz xs _ h => ⟨m, ver, xs, h, Nat.le_refl _, fun _ => rfl⟩, fun i c _ h => ⟨⟨c, h⟩, rfl⟩⟩

theorem SR.below {G : Nat → Prop} {s : List AObj} {g : Ghost} {w w' : World} (h : SR G s g w) (hb : Below w.heap.size w w') : SR G s g w' where
  obj := fun i o hi => by
    by_cases hl : o.live = true
    · exact (h.obj i o hi).evo (.below hb) rfl fun b hg => hb.block b ((h.obj i o hi).lt hl hg)
    · cases o <;> simp_all [AObj.live]
      trivial
  inj := h.inj
  new := fun b hq => h.new b (Nat.le_trans hb.size hq)

/-- A frame's value as data. own: rows of the call's own may be lent. -/
def toIC (own : Bool) (st : List AObj) : AV → Option IC
  | .ic (.sl sz _ xs) => some (.sl sz false xs)
  | .ic x => some x
  | .own i ver => match st[i]? with
    | some (.row m ver' _ sz xs) => bif Nat.beq ver ver' && (own || !m) then some (.sl sz false xs) else none
    | _ => none
  | .fn (.func f) [] [] => some (.lit (.func (.func f) #[] #[]))
  | _ => none
def toICs (own : Bool) (st : List AObj) : List AV → Option (List IC)
  | [] => some []
  | x :: r => match toIC own st x with
    | some y => match toICs own st r with
      | some z => some (y :: z)
      | none => none
    | none => none
def toPV (own : Bool) (st : List AObj) : AV → Option PV
  | .agg xs => match toICs own st xs with
    | some ys => some (.agg ys)
    | none => none
  | x => match toIC own st x with
    | some y => some (.c y)
    | none => none
def toPVs (own : Bool) (st : List AObj) : List AV → Option (List PV)
  | [] => some []
  | x :: r => match toPV own st x with
    | some y => match toPVs own st r with
      | some z => some (y :: z)
      | none => none
    | none => none

def okOf (own : Bool) (G : Nat → Prop) (s : List AObj) (g : Ghost) : Nat → Prop := fun b => G b ∧ (own = true ∨ ¬ Own s g b)

theorem okOf_false (G : Nat → Prop) (s : List AObj) (g : Ghost) (b : Nat) : okOf false G s g b ↔ Good G s g b := by simp [okOf, Good]
theorem IR.okOf {own : Bool} {G : Nat → Prop} {s : List AObj} {g : Ghost} {w : World} {x : IC} {v : Value} (h : IR w (Good G s g) x v) : IR w (okOf own G s g) x v :=
  h.mono (fun _ _ _ => rfl) (fun b _ hb => ⟨hb.1, .inr hb.2⟩) (Nat.le_refl _)

theorem row_ir {G : Nat → Prop} {s : List AObj} {g : Ghost} {w : World} {i : Nat} {m : Bool} {ver e sz : Nat} {xs : List (List IC)} (hs : s[i]? = some (.row m ver e sz xs)) (hr : SR G s g w) (ok : Nat → Prop) (h1 : ∀ b, Good G s g b → ok b)
    (h2 : ∀ b, gb (g i) = some b → G b → ok b) : IR w ok (.sl sz false xs) (g i) := by
  obtain ⟨cells, ho, hG, hf⟩ := hr.obj i _ hs
  have hf' : Flat w ok sz xs cells := hf.mono fun x v h => h.mono (fun _ _ _ => rfl) (fun b _ hb => h1 b hb) (Nat.le_refl _)
  rcases ho.2 with ⟨e1, e2⟩ | ⟨g0, cap, cur, e1, _, e3, e4, e5, e6, e7⟩
  · rw [e1]
    have : xs = [] := List.length_eq_zero_iff.1 e2
    subst this
    exact .nil _ _ _ _ (by simp) (by simp [maxLen])
  · rw [e1]
    refine hf'.ir false g0 0 cap (Array.getElem?_eq_some_iff.1 e3).1 (h2 g0 (by rw [e1]; rfl) (hG g0 (by rw [e1]; rfl))) e4 e5 (by simp) (fun j u hj => ?_)
    simp only [World.cell?, e3, Nat.zero_add]
    rw [← e7, List.getElem?_take] at hj
    split at hj
    · simpa using hj
    · simp at hj

theorem toIC_ir {own : Bool} {G : Nat → Prop} {s : List AObj} {g : Ghost} {w : World} {x : AV} {v : Value} {y : IC} (h : AR G s g w x v) (hr : SR G s g w) (hy : toIC own s x = some y) : IR w (okOf own G s g) y v := by
  cases x with
  | ic x =>
    cases x with
    | lit u =>
      obtain rfl : IC.lit u = y := by simpa [toIC] using hy
      exact h.ic_inv.okOf
    | sl sz ex xs =>
      obtain rfl : IC.sl sz false xs = y := by simpa [toIC] using hy
      exact h.ic_inv.inexact.okOf
  | own i ver =>
    simp only [toIC] at hy
    split at hy
    · rename_i m ver' e sz xs hs
      cases hb : (Nat.beq ver ver' && (own || !m)) with
      | false => rw [hb] at hy; simp at hy
      | true =>
        rw [hb] at hy
        obtain rfl : IC.sl sz false xs = y := by simpa using hy
        simp only [Bool.and_eq_true, Bool.or_eq_true, Bool.not_eq_true'] at hb
        have e := Nat.eq_of_beq_eq_true hb.1
        subst e
        cases h with
        | own i ver v hi hv h1 =>
          obtain rfl := (hv _ _ _ _ _ hs).2 rfl
          refine row_ir hs hr _ (fun b hb => ⟨hb.1, .inr hb.2⟩) (fun b hgb hG => ⟨hG, ?_⟩)
          rcases hb.2 with hb | hb
          · exact .inl hb
          · refine .inr fun ⟨j, o, hj, hm, hgj⟩ => ?_
            have := hr.inj i j _ o b hs hj rfl (by cases o <;> simp_all [AObj.mu, AObj.live]) hgb hgj
            subst this
            rw [hs] at hj
            simp only [Option.some.injEq] at hj
            subst hj
            simp [AObj.mu, hb] at hm
    · simp at hy
  | fn f a b =>
    cases f with
    | func f =>
      cases a with
      | cons => simp [toIC] at hy
      | nil =>
        cases b with
        | cons => simp [toIC] at hy
        | nil =>
          obtain ⟨vf, vc, rfl, h1, h2, _⟩ := h.fn_inv
          obtain rfl : IC.lit (.func (.func f) #[] #[]) = y := by simpa [toIC] using hy
          have e1 : vf = #[] := by apply Array.eq_empty_of_size_eq_zero; simpa using h1
          have e2 : vc = #[] := by apply Array.eq_empty_of_size_eq_zero; simpa using h2
          subst e1 e2
          exact .lit _ rfl
    | _ => simp [toIC] at hy
  | _ => simp [toIC] at hy

theorem toICs_get {own : Bool} {s : List AObj} {xs : List AV} {ys : List IC} (h : toICs own s xs = some ys) : xs.length = ys.length ∧ ∀ (k : Nat) (x : AV) (y : IC), xs[k]? = some x → ys[k]? = some y → toIC own s x = some y := by
  induction xs generalizing ys with
  | nil =>
    obtain rfl : [] = ys := by simpa [toICs] using h
    simp
  | cons x r ih =>
    simp only [toICs] at h
    cases hx : toIC own s x with
    | none => simp [hx] at h
    | some y =>
      cases hr : toICs own s r with
      | none => simp [hx, hr] at h
      | some z =>
        obtain rfl : y :: z = ys := by simpa [hx, hr] using h
        obtain ⟨h1, h2⟩ := ih hr
        refine ⟨by simp [h1], fun k a b ha hb => ?_⟩
        cases k with
        | zero => simp at ha hb; subst ha hb; exact hx
        | succ k => simp at ha hb; exact h2 k a b ha hb

theorem toPV_pr {own : Bool} {G : Nat → Prop} {s : List AObj} {g : Ghost} {w : World} {x : AV} {v : Value} {y : PV} (h : AR G s g w x v) (hr : SR G s g w) (hy : toPV own s x = some y) : PR w (okOf own G s g) y v := by
  have single : (∀ z, toIC own s x = some z → y = .c z) → (∃ z, toIC own s x = some z) → PR w (okOf own G s g) y v := by
    rintro h1 ⟨z, hz⟩
    rw [h1 z hz]
    exact .c _ _ (toIC_ir h hr hz)
  cases x with
  | agg xs =>
    simp only [toPV] at hy
    cases hx : toICs own s xs with
    | none => simp [hx] at hy
    | some ys =>
      obtain rfl : PV.agg ys = y := by simpa [hx] using hy
      obtain ⟨vs, rfl, h1, h2, h3⟩ := h.agg_inv
      obtain ⟨l, hg⟩ := toICs_get hx
      refine .agg ys vs (by omega) fun k z hk => ?_
      have hlt := (List.getElem?_eq_some_iff.1 hk).1
      have := hg k _ z (List.getElem?_eq_getElem (by omega)) hk
      exact toIC_ir (h2 k _ (List.getElem?_eq_getElem (by omega))) hr this
  | _ =>
    refine single (fun z hz => ?_) ?_ <;> simp only [toPV] at hy <;> split at hy <;> simp_all

theorem toPVs_get {own : Bool} {s : List AObj} {xs : List AV} {ys : List PV} (h : toPVs own s xs = some ys) : xs.length = ys.length ∧ ∀ (k : Nat) (x : AV) (y : PV), xs[k]? = some x → ys[k]? = some y → toPV own s x = some y := by
  induction xs generalizing ys with
  | nil =>
    obtain rfl : [] = ys := by simpa [toPVs] using h
    simp
  | cons x r ih =>
    simp only [toPVs] at h
    cases hx : toPV own s x with
    | none => simp [hx] at h
    | some y =>
      cases hr : toPVs own s r with
      | none => simp [hx, hr] at h
      | some z =>
        obtain rfl : y :: z = ys := by simpa [hx, hr] using h
        obtain ⟨h1, h2⟩ := ih hr
        refine ⟨by simp [h1], fun k a b ha hb => ?_⟩
        cases k with
        | zero => simp at ha hb; subst ha hb; exact hx
        | succ k => simp at ha hb; exact h2 k a b ha hb

/-- What the call of a function value comes to. -/
theorem call_run {P : Program} {f : FuncId} (he : entersB P f = true) {G : Nat → Prop} {s : St} {g : Ghost} {w : World} {a : Act} (hr : Rel G s g w a) {x : Operand} {args : Array Operand} {ts : Array TypeId} {ty : TypeId} {first cap : List AV}
    (hf : s.ev x = .fn (.func f) first cap) : ∃ vals : Array Value, (bcall { callee := .value x, args := args, argTypes := ts } ty a.eval).run P w = .ok (.enter f vals) w ∧ vals.size = (first ++ args.toList.map s.ev ++ cap).length ∧
      ∀ (k : Nat) (y : AV), (first ++ args.toList.map s.ev ++ cap)[k]? = some y → AR G s.st g w y (vals.getD k undef) := by
  have h := hr.ev x
  rw [hf] at h
  obtain ⟨vf, vc, e, h1, h2, h3, h4⟩ := h.fn_inv
  unfold entersB at he
  cases hfn : P.funcs[f]? with
  | none => simp [hfn] at he
  | some fn =>
    simp only [hfn, Bool.and_eq_true, Bool.not_eq_true'] at he
    have hb : fn.body.isNone = false := by cases hb : fn.body <;> simp_all
    refine ⟨vf ++ args.map a.eval ++ vc, ?_, by simp [h1, h2], fun k y hk => ?_⟩
    · have hn : (fn.name == "runtime.NumGoroutine") = false := he.1
      simp only [beq_eq_false_iff_ne, ne_eq] at hn
      simp [bcall, resolve, Deferred.ofValue, e, invoke, callFunc, hfn, hn]
      intro hnone
      simp [hnone] at he
    · rw [getD_toList, List.getD_eq_getElem?_getD]
      simp only [Array.toList_append, Array.toList_map]
      by_cases k1 : k < first.length
      · rw [List.append_assoc, List.getElem?_append_left k1] at hk
        have := h3 k y hk
        rw [getD_toList, List.getD_eq_getElem?_getD] at this
        rw [List.append_assoc, List.getElem?_append_left (by simp; omega)]
        exact this
      · by_cases k2 : k < first.length + args.size
        · rw [List.append_assoc, List.getElem?_append_right (by omega), List.getElem?_append_left (by simp; omega), List.getElem?_map] at hk
          simp only [Option.map_eq_some_iff] at hk
          obtain ⟨o, ho, rfl⟩ := hk
          rw [List.append_assoc, List.getElem?_append_right (by simp; omega), List.getElem?_append_left (by simp; omega), List.getElem?_map]
          simp only [Array.length_toList, h1, ho]
          exact hr.ev o
        · rw [List.getElem?_append_right (by simp; omega)] at hk
          have := h4 _ y hk
          rw [getD_toList, List.getD_eq_getElem?_getD] at this
          rw [List.getElem?_append_right (by simp; omega)]
          simp only [List.length_append, List.length_map, Array.length_toList, h1] at this ⊢
          exact this

theorem AOL.acall {r : Option Nat} {P : Program} {ops : Array Oper} {i : Nat} {rest : List Nat} {s : St} {Q : St → Prop} {o : Oper} {x : Operand} {args : Array Operand} {ts : Array TypeId} {f : FuncId} {first cap : List AV} {R : AV → List AObj → Prop}
    (ho : ops[i]? = some o) (hop : o.op = .call { callee := .value x, args := args, argTypes := ts }) (hg : gd ops s o.guard = some true) (hd : dstOk s o.dst = true) (hf : s.ev x = .fn (.func f) first cap)
    (hc : ACalls P f (first ++ args.toList.map s.ev ++ cap) s.st R) (k : ∀ y st', R y st' → AOL r P ops rest (putS s o.dst y st') Q) : AOL r P ops (i :: rest) s Q := fun G g w a QQ hr kk => by
  obtain ⟨vals, hrun, hsz, hval⟩ := call_run hc.1 hr (args := args) (ts := ts) (ty := o.type) hf
  simp only [wpOpsIn, ho, gd_wanted hr hg, if_true]
  refine ⟨fun _ _ => trivial, ?_⟩
  have hn : notDefer o.op = true := by rw [hop]; rfl
  have hrun' : (execOp a.eval o).run P w = .ok (.enter f vals) w := by unfold execOp; rw [hop]; exact hrun
  rw [semAt_of hn, hrun']
  refine ⟨by simp [Fence.wide], (callsIn_FW _).2 ((hc.2 G g w vals hsz hr.sr hval).mono ?_)⟩
  rintro e w' ⟨v, y, st', g', rfl, hR, hx, hsr, hevo⟩
  exact k y st' hR G g' w' _ QQ (hr.putS o.dst hd hevo hsr hx) fun s' g2 w2 a2 q hr2 he hdf hfr => kk s' g2 w2 a2 q hr2 (hevo.trans (by rw [putS_st] at he; exact he)) (hdf.trans (put_defers _ _ _)) (Fr.cons ho hfr)

theorem PureCalls.acalls {P : Program} {f : FuncId} {xs : List AV} {st : List AObj} {pvs : List PV} {r : PV} {own : Bool} (h : PureCalls P f pvs r) (hx : toPVs own st xs = some pvs) (hn : (!own || noSl r) = true) : ACalls P f xs st fun y st' => y = r.av ∧ st' = st := by
  refine ⟨h.1, fun G g w vals hsz hr hval => ?_⟩
  obtain ⟨hl, hg⟩ := toPVs_get hx
  refine (h.2 (okOf own G st g) w vals (by omega) (fun k y hk => ?_)).mono ?_
  · have hlt := (List.getElem?_eq_some_iff.1 hk).1
    exact toPV_pr (hval k _ (List.getElem?_eq_getElem (by omega))) hr (hg k _ y (List.getElem?_eq_getElem (by omega)) hk)
  · rintro e w' ⟨v, rfl, hp, hb⟩
    refine ⟨v, _, st, g, rfl, ⟨rfl, rfl⟩, ?_, hr.below hb, .below hb⟩
    cases own with
    | true => exact (PR.any (ok' := Good G st g) (w' := w') hp (by simpa using hn)).ar
    | false =>
      refine (hp.mono fun x v h => h.mono (fun _ _ _ => rfl) (fun b hbs hb' => ?_) (Nat.le_refl _)).ar
      rcases hb' with hb' | hb'
      · exact (okOf_false _ _ _ _).1 hb'
      · exact ⟨hr.new b hb', fun ho => by have := Own.lt hr ho; omega⟩

theorem AOL.pcall {r : Option Nat} {P : Program} {ops : Array Oper} {i : Nat} {rest : List Nat} {s : St} {Q : St → Prop} {o : Oper} {x : Operand} {args : Array Operand} {ts : Array TypeId} {f : FuncId} {first cap : List AV} {pvs : List PV} {y : PV} (own : Bool)
    (ho : ops[i]? = some o) (hop : o.op = .call { callee := .value x, args := args, argTypes := ts }) (hg : gd ops s o.guard = some true) (hd : dstOk s o.dst = true) (hf : s.ev x = .fn (.func f) first cap)
    (hx : toPVs own s.st (first ++ args.toList.map s.ev ++ cap) = some pvs) (hc : PureCalls P f pvs y) (hn : (!own || noSl y) = true) (k : AOL r P ops rest (putS s o.dst y.av s.st) Q) : AOL r P ops (i :: rest) s Q :=
  AOL.acall ho hop hg hd hf (hc.acalls hx hn) (by rintro y st' ⟨rfl, rfl⟩; exact k)

end Go.Proofs.Ytpphdaphbkepfaa.Aw
