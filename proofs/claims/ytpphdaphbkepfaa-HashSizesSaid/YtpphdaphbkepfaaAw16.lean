/- The abstract walk, part 16: ranges over functions. -/
import Derived.Test.YtpphdaphbkepfaaAw15
set_option linter.unusedVariables false
set_option linter.unusedSimpArgs false
namespace Go.Proofs.Ytpphdaphbkepfaa.Aw
open Go Go.RowKit

/-- The loop that stands in the store at i, asked for a round. -/
def AYield (P : Program) (i : Nat) (xs : List AV) (st : List AObj) (R : AV → List AObj → Prop) : Prop :=
  (∃ c, st[i]? = some (.lp c) ∧ xs.length = c.ps.size) ∧ ∀ (rr : Option Nat) (G : Nat → Prop) (g : Ghost) (w : World) (vals : Array Value) (l : Nat) (r : Loop), vals.size = xs.length → SR G st g w →
    (∀ (k : Nat) (x : AV), xs[k]? = some x → AR G st g w x (vals.getD k undef)) → g i = .pointer (some ⟨l, 0, none⟩) → w.heap[l]? = some (.loop r) →
    RoundIn (FW rr) 0 P l r.fn ((r.params.zip vals).foldl (fun tmps (t, a) => tmps.setIfInBounds t a) r.tmps) r.assign r.body w
      fun e w' => ∃ v x st' g', e = .returned v ∧ R x st' ∧ AR G st' g' w' x v ∧ SR G st' g' w' ∧ Evo st g w st' g' w'

theorem AR.yl_inv {G : Nat → Prop} {s : List AObj} {g : Ghost} {w : World} {i : Nat} {v : Value} (h : AR G s g w (.yl i) v) {c : RC} (hc : s[i]? = some (.lp c)) : ∃ b, g i = .pointer (some ⟨b, 0, none⟩) ∧ v = .func (.yield b) #[] #[] := by
  cases h with
  | yl i v hi hv h1 => exact hv c hc

theorem AOL.ycall {r : Option Nat} {P : Program} {ops : Array Oper} {n : Nat} {rest : List Nat} {s : St} {Q : St → Prop} {x : Operand} {args : Array Operand} {ts : Array TypeId} {i : Nat} {R : AV → List AObj → Prop}
    (h : opAt ops n s = some (.call { callee := .value x, args := args, argTypes := ts })) (hf : s.ev x = .yl i) (hc : AYield P i (args.toList.map s.ev) s.st R) (k : ∀ y st', R y st' → AOL r P ops rest (putS s (dstOf ops n) y st') Q) : AOL r P ops (n :: rest) s Q := fun G g w a QQ hr kk => by
  obtain ⟨o, ho, hg, hd, hop, he⟩ := opAt_some h
  obtain ⟨⟨c, hci, hlen⟩, hy⟩ := hc
  have hx := hr.ev x
  rw [hf] at hx
  obtain ⟨l, hgl, hxl⟩ := hx.yl_inv hci
  obtain ⟨b, rc, e1, hG, hh, f1, f2, f3, f4, f5, f6, f7⟩ := hr.sr.obj i _ hci
  rw [hgl] at e1
  obtain rfl : l = b := by simpa using e1
  have hsz : (args.map a.eval).size = rc.params.size := by rw [f3]; simpa using hlen
  simp only [wpOpsIn, ho, gd_wanted hr hg, if_true]
  refine ⟨fun _ _ => trivial, ?_⟩
  have hn : notDefer o.op = true := by rw [hop]; rfl
  have hrun' : (execOp a.eval o).run P w = .ok (.round l rc.fn ((rc.params.zip (args.map a.eval)).foldl (fun tmps (t, a) => tmps.setIfInBounds t a) rc.tmps) rc.assign rc.body) w := by
    unfold execOp
    rw [hop]
    have hr2 := run_yield (P := P) hh hsz
    refine Eq.trans ?_ hr2
    simp [bcall, resolve, Deferred.ofValue, hxl, invoke]
  rw [semAt_of hn, hrun']
  refine ⟨by simp [Fence.wide], (hy r G g w (args.map a.eval) l rc (by simp) hr.sr (fun k y hk => ?_) hgl hh).mono ?_⟩
  · rw [List.getElem?_map] at hk
    simp only [Option.map_eq_some_iff] at hk
    obtain ⟨q, hq, rfl⟩ := hk
    have : (args.map a.eval).getD k undef = a.eval q := by
      rw [getD_toList, List.getD_eq_getElem?_getD, Array.toList_map, List.getElem?_map, hq]
      rfl
    rw [this]
    exact hr.ev q
  · rintro e w' ⟨v, y, st', g', rfl, hR, hx, hsr, hevo⟩
    have k' := k y st' hR
    rw [he] at k'
    exact k' G g' w' _ QQ (hr.putS o.dst hd hevo hsr hx) fun s' g2 w2 a2 q hr2 he hdf hfr => kk s' g2 w2 a2 q hr2 (hevo.trans (by rw [putS_st] at he; exact he)) (hdf.trans (put_defers _ _ _)) (Fr.cons ho hfr)

/-- yield's arguments in the round's frame. -/
def pz : List Nat → List AV → List (Nat × AV) → List (Nat × AV)
  | p :: ps, x :: xs, env => pz ps xs ((p, x) :: env)
  | _, _, env => env

theorem pz_ar {G : Nat → Prop} {s : List AObj} {g : Ghost} {w : World} {nt : Nat} : ∀ (ps : List Nat) (xs : List AV) (vs : List Value) (env : List (Nat × AV)) (tmps : Array Value), tmps.size = nt → (∀ p ∈ ps, p < nt) → xs.length = vs.length →
    (∀ (k : Nat) (x : AV), xs[k]? = some x → AR G s g w x (vs.getD k undef)) → (∀ t, AR G s g w (look env t) (tmps.getD t undef)) →
    ((ps.zip vs).foldl (fun tmps (q : Nat × Value) => tmps.setIfInBounds q.1 q.2) tmps).size = nt ∧ ∀ t, AR G s g w (look (pz ps xs env) t) (((ps.zip vs).foldl (fun tmps (q : Nat × Value) => tmps.setIfInBounds q.1 q.2) tmps).getD t undef)
  | [], xs, vs, env, tmps, h1, h2, h3, h4, h5 => ⟨h1, h5⟩
  | p :: ps, [], vs, env, tmps, h1, h2, h3, h4, h5 => by
    obtain rfl : vs = [] := List.length_eq_zero_iff.1 h3.symm
    exact ⟨h1, h5⟩
  | p :: ps, x :: xs, [], env, tmps, h1, h2, h3, h4, h5 => by simp at h3
  | p :: ps, x :: xs, v :: vs, env, tmps, h1, h2, h3, h4, h5 => by
    simp only [List.zip_cons_cons, List.foldl_cons, pz]
    refine pz_ar ps xs vs _ _ (by simpa using h1) (fun q hq => h2 q (List.mem_cons_of_mem _ hq)) (by simpa using h3) (fun k y hk => by simpa using h4 (k + 1) y (by simpa using hk)) (fun t => ?_)
    rw [getD_set _ _ _ _ _ (by rw [h1]; exact h2 p List.mem_cons_self)]
    by_cases e : p = t
    · subst e
      rw [if_pos rfl, look_cons_eq]
      exact h4 0 x rfl
    · rw [if_neg e, look_cons_ne e]
      exact h5 t

/-- How a round's body may be left. -/
def YQ (i : Nat) (c : RC) (R : AV → List AObj → Prop) : Exit → St → Prop := fun e s => s.st[i]? = some (.lp { c with state := .busy }) ∧ match e with
  | .normal => R (.ic (.lit (.bool true))) (s.st.set i (.lp c))
  | .ret => R (.ic (.lit (.bool false))) (s.st.set i (.lp { c with state := .done, pend := some .ret }))
  | .exit id => R (.ic (.lit (.bool false))) (s.st.set i (.lp { c with state := .done, pend := some (.exit id) }))
  | _ => False

/-- A record turned in place. -/
theorem SR.relp {G : Nat → Prop} {s : List AObj} {g : Ghost} {w : World} (h : SR G s g w) {i l : Nat} {c c' : RC} {r : Loop} (hi : s[i]? = some (.lp c)) (hg : g i = .pointer (some ⟨l, 0, none⟩)) (hh : w.heap[l]? = some (.loop r))
    (r' : Loop) (e1 : r'.state = c'.state) (e2 : r'.pending = c'.pend) (e3 : r'.params = r.params) (e4 : r'.assign = r.assign) (e5 : r'.body = r.body) (e6 : r'.tmps = r.tmps) (c3 : c'.ps = c.ps) (c4 : c'.asn = c.asn) (c5 : c'.body = c.body) (c6 : c'.nt = c.nt) (c7 : c'.env = c.env) :
    Evo s g w (s.set i (.lp c')) g (w.putObj l (.loop r')) ∧ SR G (s.set i (.lp c')) g (w.putObj l (.loop r')) := by
  have hlt := (Array.getElem?_eq_some_iff.1 hh).1
  obtain ⟨b, rc, g1, hG, hh', f1, f2, f3, f4, f5, f6, f7⟩ := h.obj i _ hi
  rw [hg] at g1
  obtain rfl : l = b := by simpa using g1
  rw [hh] at hh'
  obtain rfl : r = rc := by simpa using hh'
  refine h.turn i (.lp c) (.lp c') l hi rfl (by rw [hg]; rfl) rfl (by simp) (by simp) rfl rfl rfl (by simp) (fun k hk => World.putObj_heap_other hk) (fun k => ?_) (fun c2 _ => ⟨c, rfl⟩)
  exact ⟨l, r', hg, hG, World.putObj_heap_same hlt, e1, e2, by rw [e3, f3, c3], by rw [e4, f4, c4], by rw [e5, f5, c5], by rw [e6, f6, c6], fun t => by rw [e6, c7]; exact (f7 t).evo k⟩

theorem AYield.of {P : Program} {i : Nat} {xs : List AV} {st : List AObj} {R : AV → List AObj → Prop} {c : RC} (hi : st[i]? = some (.lp c)) (hs : c.state = .ready) (hp : c.pend = none) (hlen : xs.length = c.ps.size) (hps : c.ps.toList.all (fun p => Nat.blt p c.nt) = true)
    (h : ∀ l, AWp (some l) P c.asn ⟨c.nt, pz c.ps.toList xs c.env, st⟩ (fun e s1 => e = .normal ∧ s1.st[i]? = some (.lp c) ∧ AWp (some l) P c.body ⟨s1.nt, s1.env, s1.st.set i (.lp { c with state := .busy })⟩ (YQ i c R))) : AYield P i xs st R := by
  refine ⟨⟨c, hi, hlen⟩, fun rr G g w vals l r hsz hr hval hgl hh => ?_⟩
  obtain ⟨b, rc, g1, hG, hh', f1, f2, f3, f4, f5, f6, f7⟩ := hr.obj i _ hi
  rw [hgl] at g1
  obtain rfl : l = b := by simpa using g1
  rw [hh] at hh'
  obtain rfl : r = rc := by simpa using hh'
  have hpz := pz_ar (G := G) (s := st) (g := g) (w := w) (nt := c.nt) c.ps.toList xs vals.toList c.env r.tmps f6 (fun p hp => by rw [List.all_eq_true] at hps; exact Nat.le_of_ble_eq_true (hps p hp)) (by simpa using hsz.symm)
    (fun k x hk => by rw [← getD_toList]; exact hval k x hk) f7
  have hfold : (r.params.zip vals).foldl (fun tmps (t, a) => tmps.setIfInBounds t a) r.tmps = (c.ps.toList.zip vals.toList).foldl (fun tmps (q : Nat × Value) => tmps.setIfInBounds q.1 q.2) r.tmps := by
    rw [f3, ← Array.foldl_toList, Array.toList_zip]
  rw [hfold, f4, f5]
  generalize (c.ps.toList.zip vals.toList).foldl (fun tmps (q : Nat × Value) => tmps.setIfInBounds q.1 q.2) r.tmps = T at hpz
  refine roundIn_of_wpIn (F := FW rr) trivial ?_
  have hrel : Rel G ⟨c.nt, pz c.ps.toList xs c.env, st⟩ g w { tmps := T, defers := [] } := ⟨hpz.2, hpz.1, hr⟩
  refine h l G g w _ 0 _ hrel (Nat.zero_le _) ⟨[], rfl, by simp, by simp⟩ ?_
  rintro e s1 g1 w1 a1 ⟨rfl, hi1, hbody⟩ hr1 hev1 hd1
  have hg1 : g1 i = .pointer (some ⟨l, 0, none⟩) := ((hev1.lp i c (List.getElem?_eq_some_iff.1 hi).1 hi1).2).trans hgl
  obtain ⟨b1, r1, q1, hG1, hh1, k1, k2, k3, k4, k5, k6, k7⟩ := hr1.sr.obj i _ hi1
  rw [hg1] at q1
  obtain rfl : l = b1 := by simpa using q1
  obtain ⟨hev2, hsr2⟩ := hr1.sr.relp hi1 hg1 hh1 { r1 with state := .busy } (c' := { c with state := .busy }) rfl k2 rfl rfl rfl rfl rfl rfl rfl rfl rfl
  refine ⟨_, run_beginRound hh1 (by rw [k1, hs]), ?_⟩
  refine hbody G g1 _ a1 0 _ ⟨fun t => (hr1.slots t).evo hev2, hr1.size, hsr2⟩ (Nat.zero_le _) (hd1.evo hr1.sr hev2) ?_
  rintro e s3 g3 w3 a3 ⟨hi3, hq⟩ hr3 hev3 hd3
  have hil : i < s1.st.length := (List.getElem?_eq_some_iff.1 hi1).1
  have hg3 : g3 i = .pointer (some ⟨l, 0, none⟩) := ((hev3.lp i _ (by simpa using hil) hi3).2).trans hg1
  obtain ⟨b3, r3, q3, hG3, hh3, m1, m2, m3, m4, m5, m6, m7⟩ := hr3.sr.obj i _ hi3
  rw [hg3] at q3
  obtain rfl : l = b3 := by simpa using q3
  have fin : ∀ (jump : Option Code) (c' : RC), c'.state = (if jump.isNone then .ready else .done) → c'.pend = jump → c'.ps = c.ps → c'.asn = c.asn → c'.body = c.body → c'.nt = c.nt → c'.env = c.env → R (.ic (.lit (.bool jump.isNone))) (s3.st.set i (.lp c')) →
      ∃ v w', (Instr.endRound l jump).run P w3 = .ok v w' ∧ ∃ v' x st' g', Ending.returned v = .returned v' ∧ R x st' ∧ AR G st' g' w' x v' ∧ SR G st' g' w' ∧ Evo st g w st' g' w' := by
    intro jump c' d1 d2 d3 d4 d5 d6 d7 hR
    obtain ⟨hev4, hsr4⟩ := hr3.sr.relp hi3 hg3 hh3 { r3 with state := if jump.isNone then .ready else .done, pending := jump } (c' := c') d1.symm d2.symm rfl rfl rfl rfl d3 d4 d5 d6 d7
    exact ⟨_, _, run_endRound jump hh3, _, _, _, _, rfl, hR, .ic _ _ (.lit _ rfl), hsr4, ((hev1.trans hev2).trans hev3).trans hev4⟩
  cases e with
  | normal => exact fin none c (by rw [hs]; rfl) hp rfl rfl rfl rfl rfl hq
  | ret => exact fin (some .ret) { c with state := .done, pend := some .ret } rfl rfl rfl rfl rfl rfl rfl hq
  | exit id => exact fin (some (.exit id)) { c with state := .done, pend := some (.exit id) } rfl rfl rfl rfl rfl rfl rfl hq
  | goto t => exact hq.elim
  | panic ch => exact hq.elim
  | outgrown => exact hq.elim

theorem AWp.rangeFunc {P : Program} {s : St} {Q : Exit → St → Prop} {x : Operand} {ps : Array Tmp} {asn body : Code} {f : FuncId} {first cap : List AV} {R : AV → List AObj → Prop} (hx : s.ev x = .fn (.func f) first cap)
    (hc : ACalls P f (first ++ [.yl s.st.length] ++ cap) (s.st ++ [.lp ⟨.ready, none, ps, asn, body, s.nt, s.env⟩]) R)
    (k : ∀ y st', R y st' → ∃ c, st'[s.st.length]? = some (.lp c) ∧ c.state ≠ .busy ∧ (match c.pend with | none => Q .normal ⟨s.nt, s.env, st'.set s.st.length (.lp { c with state := .exhausted })⟩ | some j => AWp none P j ⟨s.nt, s.env, st'.set s.st.length (.lp { c with state := .exhausted })⟩ Q)) :
    AWp none P (.rangeFunc x ps asn body) s Q := fun G g w a B QQ hr hB hd kk => by
  have hxv := hr.ev x
  rw [hx] at hxv
  obtain ⟨vf, vc, e, h1, h2, h3, h4⟩ := hxv.fn_inv
  refine wpIn_rangeFunc fun fn _ => ?_
  have hent := run_enterLoop_outer (P := P) (w := w) fn a.tmps ps asn body
  generalize hw1 : (w.alloc (.deferred (some []))).alloc (.loop { state := .ready, pending := none, fn, tmps := a.tmps, params := ps, assign := asn, body, defers := w.heap.size }) = w1 at hent
  have hsz1 : w1.heap.size = w.heap.size + 2 := by rw [← hw1]; simp only [World.size_alloc]
  have hold : ∀ b, b < w.heap.size → w1.heap[b]? = w.heap[b]? := fun b hb => by
    rw [← hw1, Below.heap_alloc _ _ _ (by simp; omega), Below.heap_alloc _ _ _ hb]
  have hdef : w1.heap[w.heap.size]? = some (.deferred (some [])) := by
    rw [← hw1, Below.heap_alloc _ _ _ (by simp), World.alloc_heap_new]
  have hlp : w1.heap[w.heap.size + 1]? = some (.loop { state := .ready, pending := none, fn, tmps := a.tmps, params := ps, assign := asn, body, defers := w.heap.size }) := by
    rw [← hw1]
    have := World.alloc_heap_new (w.alloc (.deferred (some []))) (.loop { state := .ready, pending := none, fn, tmps := a.tmps, params := ps, assign := asn, body, defers := w.heap.size })
    simpa using this
  have hv : ∀ b, gb (.pointer (some ⟨w.heap.size + 1, 0, none⟩)) = some b → w.heap.size ≤ b := fun b hb => by simp [gb] at hb; omega
  have ev1 : Evo s.st g w (s.st ++ [.lp ⟨.ready, none, ps, asn, body, s.nt, s.env⟩]) (gput g s.st.length (.pointer (some ⟨w.heap.size + 1, 0, none⟩))) w1 :=
    .push _ _ (by rw [← hw1]; rfl) (by rw [← hw1]; rfl) (by rw [← hw1]; rfl) (by omega) hold hv
  have sr1 := hr.sr.push _ _ ev1 hold hv ⟨w.heap.size + 1, _, gput_new _ _ _, hr.sr.new _ (by omega), hlp, rfl, rfl, rfl, rfl, rfl, hr.size, fun t => (hr.slots t).evo ev1⟩
  have he := hc.1
  unfold entersB at he
  cases hfn : P.funcs[f]? with
  | none => simp [hfn] at he
  | some fd =>
    simp only [hfn, Bool.and_eq_true, Bool.not_eq_true'] at he
    have hbn : fd.body.isNone = false := by cases hb : fd.body <;> simp_all
    have hn : (fd.name == "runtime.NumGoroutine") = false := he.1
    simp only [beq_eq_false_iff_ne, ne_eq] at hn
    refine ⟨w.heap.size + 1, [{ target := .collected w.heap.size, args := #[] }], w1, { target := .fn (.func f) vc, args := vf ++ #[.func (.yield (w.heap.size + 1)) #[] #[]] }, w1, f, vf ++ #[.func (.yield (w.heap.size + 1)) #[] #[]] ++ vc, w1, hent, ?_, fun _ _ => trivial, ?_, by simp [Fence.wide], ?_⟩
    · have ec : ∀ v, a.eval (.const v) = v := fun _ => rfl
      simp [resolve, rangeCall, Deferred.ofValue, e, ec]
    · simp [invoke, callFunc, hfn, hn]
      intro hnone
      simp [hnone] at he
    · refine (callsIn_FW _).2 ((hc.2 G _ w1 _ (by simp [h1, h2]; omega) sr1 (fun q y hq => ?_)).mono ?_)
      · rw [getD_toList, List.getD_eq_getElem?_getD]
        simp only [Array.toList_append]
        by_cases k1 : q < first.length
        · rw [List.append_assoc, List.getElem?_append_left k1] at hq
          have := (h3 q y hq).evo ev1
          rw [getD_toList, List.getD_eq_getElem?_getD] at this
          rw [List.append_assoc, List.getElem?_append_left (by simp; omega)]
          exact this
        · by_cases k2 : q = first.length
          · subst k2
            rw [List.append_assoc, List.getElem?_append_right (Nat.le_refl _)] at hq
            simp at hq
            subst hq
            rw [List.append_assoc, List.getElem?_append_right (by simp [h1])]
            simp only [Array.length_toList, h1, Nat.sub_self, List.cons_append, List.getElem?_cons_zero, Option.getD_some]
            refine .yl _ _ (by simp) (fun c _ => ⟨_, gput_new _ _ _, rfl⟩) rfl
          · rw [List.getElem?_append_right (by simp; omega)] at hq
            have := (h4 _ y hq).evo ev1
            rw [getD_toList, List.getD_eq_getElem?_getD] at this
            rw [List.getElem?_append_right (by simp; omega)]
            simp only [List.length_append, Array.length_toList, h1, List.length_cons, List.length_nil] at this ⊢
            exact this
      · rintro e' w3 ⟨v, y, st', g3, rfl, hR, hy, sr3, ev3⟩
        obtain ⟨c, hci, hnb, hq⟩ := k y st' hR
        have hil : s.st.length < (s.st ++ [AObj.lp ⟨.ready, none, ps, asn, body, s.nt, s.env⟩]).length := by simp
        have hg3 : g3 s.st.length = .pointer (some ⟨w.heap.size + 1, 0, none⟩) := ((ev3.lp _ c hil hci).2).trans (gput_new _ _ _)
        obtain ⟨b3, r3, q3, hG3, hh3, m1, m2, m3, m4, m5, m6, m7⟩ := sr3.obj _ _ hci
        rw [hg3] at q3
        obtain rfl : w.heap.size + 1 = b3 := by simpa using q3
        obtain ⟨ev4, sr4⟩ := sr3.relp hci hg3 hh3 { r3 with state := .exhausted } (c' := { c with state := .exhausted }) rfl m2 rfl rfl rfl rfl rfl rfl rfl rfl rfl
        have ev := (ev1.trans ev3).trans ev4
        have hrel : Rel G ⟨s.nt, s.env, st'.set s.st.length (.lp { c with state := .exhausted })⟩ g3 (w3.putObj (w.heap.size + 1) (.loop { r3 with state := .exhausted })) { a with defers := [{ target := .collected w.heap.size, args := #[] }] ++ a.defers } :=
          ⟨fun t => (hr.slots t).evo ev, hr.size, sr4⟩
        have hdm : DM B (w3.putObj (w.heap.size + 1) (.loop { r3 with state := .exhausted })) ([{ target := .collected w.heap.size, args := #[] }] ++ a.defers) := by
          obtain ⟨qs, hds, hnd, hqs⟩ := hd.evo hr.sr ev
          obtain ⟨qs0, hds0, hnd0, hqs0⟩ := hd
          refine ⟨w.heap.size :: qs, by rw [hds]; rfl, List.nodup_cons.2 ⟨fun hm => ?_, hnd⟩, fun q hqm => ?_⟩
          · have : qs = qs0 := by
              rw [hds] at hds0
              have hinj : ∀ (l1 l2 : List Nat), l1.map (fun q => ({ target := .collected q, args := #[] } : Deferred)) = l2.map (fun q => { target := .collected q, args := #[] }) → l1 = l2 := by
                intro l1
                induction l1 with
                | nil => intro l2 h; cases l2 <;> simp_all
                | cons x xs ih =>
                  intro l2 h
                  cases l2 with
                  | nil => simp at h
                  | cons y ys =>
                    simp only [List.map_cons, List.cons.injEq, Deferred.mk.injEq, Target.collected.injEq, and_true] at h
                    rw [h.1, ih ys h.2]
              exact hinj _ _ hds0
            subst this
            have := (Array.getElem?_eq_some_iff.1 (hqs0 _ hm).2).1
            omega
          · rcases List.mem_cons.1 hqm with rfl | hqm
            · refine ⟨hB, ?_⟩
              have h5 := (ev3.trans ev4).heap w.heap.size (by omega) (not_own sr1 hdef (by simp) (by simp))
              rw [h5, hdef]
            · exact hqs q hqm
        refine ⟨c.pend, _, by rw [← m2]; exact run_endLoop hh3 (by rw [m1]; exact hnb), ?_⟩
        have hBle : B ≤ (w3.putObj (w.heap.size + 1) (.loop { r3 with state := .exhausted })).heap.size := Nat.le_trans hB ev.size
        generalize ({ c with state := .exhausted } : RC) = c' at hq hrel ev
        cases hpd : c.pend with
        | none =>
          rw [hpd] at hq
          exact kk _ _ _ _ _ hq hrel ev hdm
        | some j =>
          rw [hpd] at hq
          exact hq G g3 _ _ B QQ hrel hBle hdm fun e2 s2 g2 w2 a2 q2 hr2 he2 hd2 => kk e2 s2 g2 w2 a2 q2 hr2 (ev.trans he2) hd2
end Go.Proofs.Ytpphdaphbkepfaa.Aw
