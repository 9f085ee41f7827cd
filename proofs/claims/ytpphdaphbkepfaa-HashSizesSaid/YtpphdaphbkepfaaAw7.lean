/- The abstract walk, part 7: a function's contract out of its body's walk. -/
import Derived.Test.YtpphdaphbkepfaaAw6
set_option linter.unusedVariables false
set_option linter.unusedSimpArgs false
namespace Go.Proofs.Ytpphdaphbkepfaa.Aw
open Go Go.RowKit

/-! ### a world whose rows of cells are as they were -/
structure SameCells (w w' : World) : Prop where
  size : w.heap.size ≤ w'.heap.size
  same : ∀ (b : Nat) (o : Obj), w.heap[b]? = some o → (∀ d, o ≠ .deferred d) → w'.heap[b]? = some o
theorem SameCells.cells {w w' : World} (h : SameCells w w') (b : Nat) (c : Array Value) (e : TypeId) (f : Nat × Nat) (hc : w.heap[b]? = some (Obj.cells c e f)) : w'.heap[b]? = some (Obj.cells c e f) := h.same b _ hc (by simp)

theorem SameCells.cell {w w' : World} (h : SameCells w w') {a : Addr} {v : Value} (hc : w.cell? a = some v) : w'.cell? a = some v := by
  unfold World.cell? at hc ⊢
  cases hb : w.heap[a.block]? with
  | none => simp [hb] at hc
  | some o =>
    cases o with
    | cells c e f => rw [h.cells _ _ _ _ hb]; rw [hb] at hc; exact hc
    | _ => simp [hb] at hc
theorem IR.same {w w' : World} (h : SameCells w w') {ok : Nat → Prop} {x : IC} {v : Value} (hr : IR w ok x v) : IR w' ok x v := by
  induction hr with
  | lit v h => exact .lit v h
  | nil sz ex A c hx hc => exact .nil sz ex A c hx hc
  | sl sz ex xs b o c val hb hl hc hx hok hsz hcell hin ih => exact .sl sz ex xs b o c val (Nat.lt_of_lt_of_le hb h.size) hl hc hx hok hsz (fun j r i x hj hi => h.cell (hcell j r i x hj hi)) ih
theorem AR.same {w w' : World} (h : SameCells w w') {G : Nat → Prop} {s : List AObj} {g : Ghost} {x : AV} {v : Value} (hr : AR G s g w x v) : AR G s g w' x v := by
  induction hr with
  | any v => exact .any v
  | ic x v hi => exact .ic x v (hi.same h)
  | own i ver v hi hv h1 => exact .own i ver v hi hv h1
  | ptr i off v hi hv h1 => exact .ptr i off v hi hv h1
  | «at» cs b o val hb hok hcell hin => exact .«at» cs b o val (Nat.lt_of_lt_of_le hb h.size) hok (fun j x hj => h.cell (hcell j x hj)) (fun j x hj => (hin j x hj).same h)
  | rat i ver j off v hi hv h1 => exact .rat i ver j off v hi hv h1
  | fn f first cap vf vc h1 h2 h3 h4 ih3 ih4 => exact .fn f first cap vf vc h1 h2 ih3 ih4
  | agg xs vs h1 h2 h3 ih => exact .agg xs vs h1 ih h3
  | tup xs vs h1 h2 ih => exact .tup xs vs h1 ih
  | yl i v hi hv h1 => exact .yl i v hi hv h1
theorem OR.same {w w' : World} (h : SameCells w w') {G : Nat → Prop} {s : List AObj} {g : Ghost} {i : Nat} {o : AObj} (hr : OR G s g w i o) : OR G s g w' i o := by
  cases o with
  | dead => trivial
  | var m t cs =>
    obtain ⟨b, vs, h1, h2, h3, h4, h5, h6⟩ := hr
    exact ⟨b, vs, h1, h2, h.cells _ _ _ _ h3, h4, h5, fun j x hj => (h6 j x hj).same h⟩
  | row m ver e sz xs =>
    obtain ⟨cells, ⟨hl, h1⟩, h2, h3⟩ := hr
    refine ⟨cells, ⟨hl, ?_⟩, h2, h3.mono fun x v hr => hr.same h⟩
    rcases h1 with h1 | ⟨g0, cap, cur, e1, e2, e3, r⟩
    · exact .inl h1
    · exact .inr ⟨g0, cap, cur, e1, e2, h.cells _ _ _ _ e3, r⟩
  | lp c =>
    obtain ⟨b, r, h1, h2, h3, e1, e2, e3, e4, e5, e6, h4⟩ := hr
    exact ⟨b, r, h1, h2, h.same _ _ h3 (by simp), e1, e2, e3, e4, e5, e6, fun t => (h4 t).same h⟩
theorem SR.same {w w' : World} (h : SameCells w w') {G : Nat → Prop} {s : List AObj} {g : Ghost} (hr : SR G s g w) : SR G s g w' :=
  ⟨fun i o hi => (hr.obj i o hi).same h, hr.inj, fun b hb => hr.new b (Nat.le_trans h.size hb)⟩
theorem Rel.same {w w' : World} (h : SameCells w w') {G : Nat → Prop} {s : St} {g : Ghost} {a : Act} (hr : Rel G s g w a) : Rel G s g w' a :=
  ⟨fun t => (hr.slots t).same h, hr.size, hr.sr.same h⟩

/-! ### results -/
def resRun (tmps : Array Value) : ResultVar → Sem Value
  | .tmp t => pure (tmps.getD t undef)
  | .cell a t => do loadVar t (← asAddr (tmps.getD a undef))
/-- A result variable hands back x. -/
def Res1 (P : Program) (s : St) (rv : ResultVar) (x : AV) : Prop := ∀ G g w a, Rel G s g w a → ∃ v, (resRun a.tmps rv).run P w = .ok v w ∧ AR G s.st g w x v
def RetOk (P : Program) (fn : Func) (s : St) (x : AV) : Prop := ∀ G g w a, Rel G s g w a → ∃ v, (results fn a.tmps).run P w = .ok v w ∧ AR G s.st g w x v

theorem Res1.tmp {P : Program} {s : St} (t : Tmp) : Res1 P s (.tmp t) (s.get t) := fun G g w a hr => ⟨_, rfl, hr.slots t⟩
theorem Res1.cell {P : Program} {s : St} (p : Tmp) (t : TypeId) (i o : Nat) (m : Bool) (t' : TypeId) (cs : List AV) (r : AV) (ht : (tyi P t).there = true) (hx : s.get p = .ptr i o) (hs : s.st[i]? = some (.var m t' cs))
    (hr : bif (tyi P t).agg then Nat.ble (o + (tyi P t).size) cs.length = true ∧ r = .agg ((cs.drop o).take (tyi P t).size) else cs[o]? = some r) : Res1 P s (.cell p t) r := fun G g w a hrel => by
  have h := hrel.slots p
  rw [hx] at h
  obtain ⟨b, u, e, hl, hu⟩ := ptr_load t i o m t' cs r ht h hs hrel.sr hr
  exact ⟨u, by simp only [resRun, asAddr, e, Sem.run_bind, Sem.run_pure, Result.andThen_ok, hl], hu⟩

theorem results_eq (fn : Func) (tmps : Array Value) : results fn tmps = (do let vs ← fn.results.mapM (resRun tmps); pure (if h : vs.size = 1 then vs[0] else .tuple vs)) := by
  unfold results
  congr 2

theorem RetOk.one {P : Program} {fn : Func} {s : St} {r1 : ResultVar} {x : AV} (hr : fn.results = #[r1]) (h : Res1 P s r1 x) : RetOk P fn s x := fun G g w a hrel => by
  obtain ⟨v, h1, h2⟩ := h G g w a hrel
  refine ⟨v, ?_, h2⟩
  rw [results_eq, hr]
  simp [h1]
theorem RetOk.two {P : Program} {fn : Func} {s : St} {r1 r2 : ResultVar} {x y : AV} (hr : fn.results = #[r1, r2]) (h : Res1 P s r1 x) (k : Res1 P s r2 y) : RetOk P fn s (.tup [x, y]) := fun G g w a hrel => by
  obtain ⟨v, h1, h2⟩ := h G g w a hrel
  obtain ⟨u, k1, k2⟩ := k G g w a hrel
  refine ⟨.tuple #[v, u], ?_, .tup _ _ rfl fun q z hq => ?_⟩
  · rw [results_eq, hr]
    simp [h1, k1]
  · match q, hq with
    | 0, hq => simp at hq; subst hq; exact h2
    | 1, hq => simp at hq; subst hq; exact k2
    | q + 2, hq => simp at hq
theorem RetOk.three {P : Program} {fn : Func} {s : St} {r1 r2 r3 : ResultVar} {x y z : AV} (hr : fn.results = #[r1, r2, r3]) (h : Res1 P s r1 x) (k : Res1 P s r2 y) (l : Res1 P s r3 z) : RetOk P fn s (.tup [x, y, z]) := fun G g w a hrel => by
  obtain ⟨v, h1, h2⟩ := h G g w a hrel
  obtain ⟨u, k1, k2⟩ := k G g w a hrel
  obtain ⟨t, l1, l2⟩ := l G g w a hrel
  refine ⟨.tuple #[v, u, t], ?_, .tup _ _ rfl fun q z hq => ?_⟩
  · rw [results_eq, hr]
    simp [h1, k1, l1]
  · match q, hq with
    | 0, hq => simp at hq; subst hq; exact h2
    | 1, hq => simp at hq; subst hq; exact k2
    | 2, hq => simp at hq; subst hq; exact l2
    | q + 3, hq => simp at hq
theorem RetOk.none {P : Program} {fn : Func} {s : St} (hr : fn.results = #[]) : RetOk P fn s (.tup []) := fun G g w a hrel =>
  ⟨.tuple #[], by rw [results_eq, hr]; simp, .tup _ _ rfl (by simp)⟩

/-! ### functions -/
def enumE : Nat → List AV → List (Nat × AV)
  | _, [] => []
  | n, x :: r => (n, x) :: enumE (n + 1) r
def entry (nt : Nat) (xs : List AV) (st : List AObj) : St := ⟨nt, enumE 0 xs, st⟩
theorem look_enumE (xs : List AV) (n t : Nat) : look (enumE n xs) t = if n ≤ t then (xs[t - n]?).getD .any else .any := by
  induction xs generalizing n with
  | nil => simp [enumE, look]
  | cons x r ih =>
    simp only [enumE, look]
    cases h : Nat.beq n t with
    | true =>
      have := Nat.eq_of_beq_eq_true h
      subst this
      simp
    | false =>
      have hne : n ≠ t := fun e => by subst e; simp [Nat.beq_refl] at h
      simp only [cond_false, ih]
      by_cases h1 : n + 1 ≤ t
      · rw [if_pos h1, if_pos (by omega), show t - n = (t - (n + 1)) + 1 by omega]
        simp
      · rw [if_neg h1]
        split
        · omega
        · rfl

/-- What a function's body must achieve. -/
def RetQ (P : Program) (fn : Func) (R : AV → List AObj → Prop) : Exit → St → Prop := fun e s => (e = .normal ∨ e = .ret) ∧ ∃ x, RetOk P fn s x ∧ R x s.st

theorem take_marks {P : Program} {fn : Func} {tmps : Array Value} {R : Ending → World → Prop} {B : Nat} : ∀ (qs : List Nat) (w : World), qs.Nodup → (∀ q ∈ qs, B ≤ q ∧ w.heap[q]? = some (.deferred (some []))) →
    (∀ w', SameCells w w' → (∀ b, b < B → w'.heap[b]? = w.heap[b]?) → w'.os = w.os → w'.tape = w.tape → w'.output = w.output → ∃ v, (results fn tmps).run P w' = .ok v w' ∧ R (.returned v) w') →
    LeavesInM (FW none) 0 P fn tmps R (qs.map fun q => { target := .collected q, args := #[] }) .returning w
  | [], w, _, _, k => k w ⟨Nat.le_refl _, fun _ _ h _ => h⟩ (fun _ _ => rfl) rfl rfl rfl
  | q :: qs, w, hn, hq, k => by
    obtain ⟨hB, hh⟩ := hq q List.mem_cons_self
    have hlt := (Array.getElem?_eq_some_iff.1 hh).1
    refine ⟨by simp, .inl ⟨q, w.putObj q (.deferred none), rfl, run_takeDeferred hh, ?_⟩⟩
    have hne : ∀ p ∈ qs, p ≠ q := fun p hp e => (List.nodup_cons.1 hn).1 (e ▸ hp)
    refine take_marks qs _ (List.nodup_cons.1 hn).2 (fun p hp => ⟨(hq p (List.mem_cons_of_mem _ hp)).1, by rw [World.putObj_heap_other (hne p hp)]; exact (hq p (List.mem_cons_of_mem _ hp)).2⟩) fun w' hs hb h1 h2 h3 => ?_
    refine k w' ⟨Nat.le_trans (by simp [World.putObj]) hs.size, fun b o hc hnd => hs.same _ _ ?_ hnd⟩ (fun b hb' => (hb b hb').trans (World.putObj_heap_other (by omega))) h1 h2 h3
    rw [World.putObj_heap_other (fun e' => by subst e'; rw [hh] at hc; exact hnd _ (Option.some.inj hc).symm)]
    exact hc

theorem ACalls.of {P : Program} {f : FuncId} {fn : Func} {c : Code} {xs : List AV} {st : List AObj} {R : AV → List AObj → Prop} (hf : P.funcs[f]? = some fn) (hb : fn.body = some c) (he : entersB P f = true) (hn : Nat.ble xs.length fn.ntmps = true)
    (h : AWp none P c (entry fn.ntmps xs st) (RetQ P fn R)) : ACalls P f xs st R := by
  refine ⟨he, fun G g w vals hsz hr hval => (callsIn_wide (n := 0)).1 ?_⟩
  have hn := Nat.le_of_ble_eq_true hn
  refine callsIn_of_wp_marks (F := FW none) hf hb trivial ?_ rfl
  have hrel : Rel G (entry fn.ntmps xs st) g w { tmps := vals ++ Array.replicate (fn.ntmps - vals.size) undef, defers := [] } := by
    refine ⟨fun t => ?_, by simp [entry]; omega, hr⟩
    show AR G st g w (look (enumE 0 xs) t) _
    rw [look_enumE, if_pos (Nat.zero_le _), Nat.sub_zero]
    cases hx : xs[t]? with
    | none => exact .any _
    | some x =>
      have hlt := (List.getElem?_eq_some_iff.1 hx).1
      have := hval t x hx
      have e : (vals ++ Array.replicate (fn.ntmps - vals.size) undef).getD t undef = vals.getD t undef := by
        simp only [Array.getD_eq_getD_getElem?]
        rw [Array.getElem?_append_left (by omega)]
      rw [Option.getD_some, e]
      exact this
  refine h G g w _ w.heap.size _ hrel (Nat.le_refl _) ⟨[], rfl, by simp, by simp⟩ ?_
  rintro e s' g' w' a' ⟨he', x, hret, hR⟩ hr' hev hdm
  have key : LeavesInM (FW none) 0 P fn a'.tmps (fun e w'' => ∃ v x st' g', e = .returned v ∧ R x st' ∧ AR G st' g' w'' x v ∧ SR G st' g' w'' ∧ Evo st g w st' g' w'') a'.defers .returning w' := by
    obtain ⟨qs, hds, hnd, hq⟩ := hdm
    rw [hds]
    refine take_marks qs w' hnd hq fun w'' hs hb h1 h2 h3 => ?_
    obtain ⟨v, hv, hx⟩ := hret G g' w'' a' (hr'.same hs)
    exact ⟨v, hv, v, x, s'.st, g', rfl, hR, hx, hr'.sr.same hs, ⟨h1.trans hev.os, h2.trans hev.tape, h3.trans hev.output, Nat.le_trans hev.size hs.size, fun b hbl ho => (hb b hbl).trans (hev.heap b hbl ho), hev.own, hev.len, hev.var, hev.row, hev.lp⟩⟩
  rcases he' with rfl | rfl
  · exact key
  · exact key

/-- A frame's value as a result. -/
def rIC (st : List AObj) : AV → Option IC
  | .ic x => some x
  | x => toIC true st x
def rICs (st : List AObj) : List AV → Option (List IC)
  | [] => some []
  | x :: r => match rIC st x with
    | some y => match rICs st r with
      | some z => some (y :: z)
      | none => none
    | none => none
mutual
def rPV (st : List AObj) : AV → Option PV
  | .agg xs => match rICs st xs with
    | some ys => some (.agg ys)
    | none => none
  | .tup xs => match rPVs st xs with
    | some ys => some (.tup ys)
    | none => none
  | x => match rIC st x with
    | some y => some (.c y)
    | none => none
def rPVs (st : List AObj) : List AV → Option (List PV)
  | [] => some []
  | x :: r => match rPV st x with
    | some y => match rPVs st r with
      | some z => some (y :: z)
      | none => none
    | none => none
end

theorem rIC_ir {G : Nat → Prop} {s : List AObj} {g : Ghost} {w : World} {x : AV} {v : Value} {y : IC} (h : AR G s g w x v) (hr : SR G s g w) (hy : rIC s x = some y) : IR w (okOf true G s g) y v := by
  cases x with
  | ic x =>
    obtain rfl : x = y := by simpa [rIC] using hy
    exact h.ic_inv.okOf
  | _ => exact toIC_ir h hr (by simpa [rIC] using hy)
theorem rICs_get {s : List AObj} {xs : List AV} {ys : List IC} (h : rICs s xs = some ys) : xs.length = ys.length ∧ ∀ (k : Nat) (x : AV) (y : IC), xs[k]? = some x → ys[k]? = some y → rIC s x = some y := by
  induction xs generalizing ys with
  | nil =>
    obtain rfl : [] = ys := by simpa [rICs] using h
    simp
  | cons x r ih =>
    simp only [rICs] at h
    cases hx : rIC s x with
    | none => simp [hx] at h
    | some y =>
      cases hr : rICs s r with
      | none => simp [hx, hr] at h
      | some z =>
        obtain rfl : y :: z = ys := by simpa [hx, hr] using h
        obtain ⟨h1, h2⟩ := ih hr
        refine ⟨by simp [h1], fun k a b ha hb => ?_⟩
        cases k with
        | zero => simp at ha hb; subst ha hb; exact hx
        | succ k => simp at ha hb; exact h2 k a b ha hb
theorem rPVs_get {s : List AObj} {xs : List AV} {ys : List PV} (h : rPVs s xs = some ys) : xs.length = ys.length ∧ ∀ (k : Nat) (x : AV) (y : PV), xs[k]? = some x → ys[k]? = some y → rPV s x = some y := by
  induction xs generalizing ys with
  | nil =>
    obtain rfl : [] = ys := by simpa [rPVs] using h
    simp
  | cons x r ih =>
    simp only [rPVs] at h
    cases hx : rPV s x with
    | none => simp [hx] at h
    | some y =>
      cases hr : rPVs s r with
      | none => simp [hx, hr] at h
      | some z =>
        obtain rfl : y :: z = ys := by simpa [hx, hr] using h
        obtain ⟨h1, h2⟩ := ih hr
        refine ⟨by simp [h1], fun k a b ha hb => ?_⟩
        cases k with
        | zero => simp at ha hb; subst ha hb; exact hx
        | succ k => simp at ha hb; exact h2 k a b ha hb

theorem rPV_pr {G : Nat → Prop} {s : List AObj} {g : Ghost} {w : World} {x : AV} {v : Value} {y : PV} (h : AR G s g w x v) (hr : SR G s g w) (hy : rPV s x = some y) : PR w (okOf true G s g) y v := by
  induction h generalizing y with
  | agg xs vs h1 h2 h3 =>
    simp only [rPV] at hy
    cases hx : rICs s xs with
    | none => simp [hx] at hy
    | some ys =>
      obtain rfl : PV.agg ys = y := by simpa [hx] using hy
      obtain ⟨l, hg⟩ := rICs_get hx
      refine .agg ys vs (by omega) fun k z hk => ?_
      have hlt := (List.getElem?_eq_some_iff.1 hk).1
      exact rIC_ir (h2 k _ (List.getElem?_eq_getElem (by omega))) hr (hg k _ z (List.getElem?_eq_getElem (by omega)) hk)
  | tup xs vs h1 h2 ih =>
    simp only [rPV] at hy
    cases hx : rPVs s xs with
    | none => simp [hx] at hy
    | some ys =>
      obtain rfl : PV.tup ys = y := by simpa [hx] using hy
      obtain ⟨l, hg⟩ := rPVs_get hx
      refine .tup ys vs (by omega) fun k z hk => ?_
      have hlt := (List.getElem?_eq_some_iff.1 hk).1
      exact ih k _ (List.getElem?_eq_getElem (by omega)) (hg k _ z (List.getElem?_eq_getElem (by omega)) hk)
  | any v => simp [rPV, rIC, toIC] at hy
  | ic x v h =>
    obtain rfl : PV.c x = y := by simpa [rPV, rIC] using hy
    exact .c _ _ h.okOf
  | own i ver v hi hv h1 =>
    simp only [rPV] at hy
    split at hy
    · rename_i z hz
      obtain rfl : PV.c z = y := by simpa using hy
      exact .c _ _ (rIC_ir (.own i ver v hi hv h1) hr hz)
    · simp at hy
  | ptr i off v hi hv h1 => simp [rPV, rIC, toIC] at hy
  | yl i v hi hv h1 => simp [rPV, rIC, toIC] at hy
  | «at» cs b o val hb hok hcell hin => simp [rPV, rIC, toIC] at hy
  | rat i ver j off v hi hv h1 => simp [rPV, rIC, toIC] at hy
  | fn f first cap vf vc h1 h2 h3 h4 =>
    simp only [rPV] at hy
    split at hy
    · rename_i z hz
      obtain rfl : PV.c z = y := by simpa using hy
      exact .c _ _ (rIC_ir (.fn f first cap vf vc h1 h2 h3 h4) hr hz)
    · simp at hy

theorem ACalls.pure {P : Program} {f : FuncId} {pvs : List PV} {r : PV} (h : ACalls P f (pvs.map PV.av) [] (fun x st => rPV st x = some r)) : PureCalls P f pvs r := by
  refine ⟨h.1, fun ok w vals hsz hval => ?_⟩
  have hno : ∀ b, ¬ Own [] (fun _ => undef) b := fun b ⟨i, o, hi, _⟩ => by simp at hi
  refine (h.2 (fun b => ok b ∨ w.heap.size ≤ b) (fun _ => undef) w vals (by simpa using hsz) ⟨by simp, by simp, fun b hb => .inr hb⟩ fun k x hk => ?_).mono ?_
  · rw [List.getElem?_map] at hk
    simp only [Option.map_eq_some_iff] at hk
    obtain ⟨y, hy, rfl⟩ := hk
    exact ((hval k y hy).mono fun x v hi => hi.mono (fun _ _ _ => rfl) (fun b _ hb => ⟨.inl hb, hno b⟩) (Nat.le_refl _)).ar
  · rintro e w' ⟨v, x, st', g', rfl, hR, hx, hsr, hev⟩
    refine ⟨v, rfl, (rPV_pr hx hsr hR).mono fun x v hi => hi.mono (fun _ _ _ => rfl) (fun b _ hb => hb.1) (Nat.le_refl _), hev.os, hev.tape, hev.output, hev.size, fun b hb => hev.heap b hb (hno b)⟩

theorem PureCalls.of {P : Program} {f : FuncId} {fn : Func} {c : Code} {pvs : List PV} {r : PV} (hf : P.funcs[f]? = some fn) (hb : fn.body = some c) (he : entersB P f = true) (hn : Nat.ble pvs.length fn.ntmps = true)
    (h : AWp none P c (entry fn.ntmps (pvs.map PV.av) []) (RetQ P fn fun x st => rPV st x = some r)) : PureCalls P f pvs r :=
  (ACalls.of hf hb he (by simpa using hn) h).pure

end Go.Proofs.Ytpphdaphbkepfaa.Aw
