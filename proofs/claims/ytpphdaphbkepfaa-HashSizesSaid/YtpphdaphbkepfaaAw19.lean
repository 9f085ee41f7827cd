/- The abstract walk, part 19: rounds whose own objects are forgotten. -/
import Derived.Test.YtpphdaphbkepfaaAw18
set_option linter.unusedVariables false
set_option linter.unusedSimpArgs false
namespace Go.Proofs.Ytpphdaphbkepfaa.Aw
open Go Go.RowKit

/-- How a round's body may be left; n: the objects that stay. -/
def YT (n i : Nat) (st : List AObj) (b c : RC) (R : AV → List AObj → Prop) : Exit → St → Prop := fun e s => s.st[i]? = some (.lp b) ∧ n ≤ s.st.length ∧ match e with
  | .normal => trimOk n st ((s.st.set i (.lp c)).take n) ∧ R (.ic (.lit (.bool true))) ((s.st.set i (.lp c)).take n)
  | .ret => ∀ d, d = { c with state := .done, pend := some .ret } → trimOk n st ((s.st.set i (.lp d)).take n) ∧ R (.ic (.lit (.bool false))) ((s.st.set i (.lp d)).take n)
  | .exit id => ∀ d, d = { c with state := .done, pend := some (.exit id) } → trimOk n st ((s.st.set i (.lp d)).take n) ∧ R (.ic (.lit (.bool false))) ((s.st.set i (.lp d)).take n)
  | _ => False

theorem AYield.of' {P : Program} {i : Nat} {xs : List AV} {st : List AObj} {R : AV → List AObj → Prop} {c : RC} {ps : Array Tmp} {asn body : Code} {nt : Nat} {env : List (Nat × AV)} (n : Nat) (hc : c = ⟨.ready, none, ps, asn, body, nt, env⟩) (hi : st[i]? = some (.lp c)) (hn : st.length ≤ n)
    (hlen : xs.length = ps.size) (hps : ps.toList.all (fun p => Nat.blt p nt) = true)
    (h : ∀ l, AWp (some l) P asn ⟨nt, pz ps.toList xs env, st⟩ (fun e s1 => e = .normal ∧ s1.st[i]? = some (.lp c) ∧ ∀ b, b = { c with state := .busy } → AWp (some l) P body ⟨s1.nt, s1.env, s1.st.set i (.lp b)⟩ (YT n i st b c R))) : AYield P i xs st R := by
  have hcs : c.state = .ready := by rw [hc]
  have hcp : c.pend = none := by rw [hc]
  refine ⟨⟨c, hi, by rw [hc]; exact hlen⟩, fun rr G g w vals l r hsz hr hval hgl hh => ?_⟩
  obtain ⟨b, rc, g1, hG, hh', f1, f2, f3, f4, f5, f6, f7⟩ := hr.obj i _ hi
  rw [hgl] at g1
  obtain rfl : l = b := by simpa using g1
  rw [hh] at hh'
  obtain rfl : r = rc := by simpa using hh'
  have e3 : r.params = ps := by rw [f3, hc]
  have e4 : r.assign = asn := by rw [f4, hc]
  have e5 : r.body = body := by rw [f5, hc]
  have e6 : r.tmps.size = nt := by rw [f6, hc]
  have e7 : ∀ t, AR G st g w (look env t) (r.tmps.getD t undef) := fun t => by have := f7 t; rw [hc] at this; exact this
  have hpz := pz_ar (G := G) (s := st) (g := g) (w := w) (nt := nt) ps.toList xs vals.toList env r.tmps e6 (fun p hp => by rw [List.all_eq_true] at hps; exact Nat.le_of_ble_eq_true (hps p hp)) (by simpa using hsz.symm)
    (fun k x hk => by rw [← getD_toList]; exact hval k x hk) e7
  have hfold : (r.params.zip vals).foldl (fun tmps (t, a) => tmps.setIfInBounds t a) r.tmps = (ps.toList.zip vals.toList).foldl (fun tmps (q : Nat × Value) => tmps.setIfInBounds q.1 q.2) r.tmps := by
    rw [e3, ← Array.foldl_toList, Array.toList_zip]
  rw [hfold, e4, e5]
  generalize (ps.toList.zip vals.toList).foldl (fun tmps (q : Nat × Value) => tmps.setIfInBounds q.1 q.2) r.tmps = T at hpz
  refine roundIn_of_wpIn (F := FW rr) trivial ?_
  have hrel : Rel G ⟨nt, pz ps.toList xs env, st⟩ g w { tmps := T, defers := [] } := ⟨hpz.2, hpz.1, hr⟩
  refine h l G g w _ 0 _ hrel (Nat.zero_le _) ⟨[], rfl, by simp, by simp⟩ ?_
  rintro e s1 g1 w1 a1 ⟨rfl, hi1, hbody⟩ hr1 hev1 hd1
  have hg1 : g1 i = .pointer (some ⟨l, 0, none⟩) := ((hev1.lp i c (List.getElem?_eq_some_iff.1 hi).1 hi1).2).trans hgl
  obtain ⟨b1, r1, q1, hG1, hh1, k1, k2, k3, k4, k5, k6, k7⟩ := hr1.sr.obj i _ hi1
  rw [hg1] at q1
  obtain rfl : l = b1 := by simpa using q1
  obtain ⟨b, hb⟩ : ∃ b : RC, b = { c with state := .busy } := ⟨_, rfl⟩
  obtain ⟨hev2, hsr2⟩ := hr1.sr.relp hi1 hg1 hh1 { r1 with state := .busy } (c' := b) (by rw [hb]) (by rw [hb]; exact k2) rfl rfl rfl rfl (by rw [hb]) (by rw [hb]) (by rw [hb]) (by rw [hb]) (by rw [hb])
  refine ⟨_, run_beginRound hh1 (by rw [k1, hcs]), ?_⟩
  refine hbody b hb G g1 _ a1 0 _ ⟨fun t => (hr1.slots t).evo hev2, hr1.size, hsr2⟩ (Nat.zero_le _) (hd1.evo hr1.sr hev2) ?_
  rintro e s3 g3 w3 a3 ⟨hi3, hn3, hq⟩ hr3 hev3 hd3
  have hil : i < s1.st.length := (List.getElem?_eq_some_iff.1 hi1).1
  have hg3 : g3 i = .pointer (some ⟨l, 0, none⟩) := ((hev3.lp i _ (by simpa using hil) hi3).2).trans hg1
  obtain ⟨b3, r3, q3, hG3, hh3, m1, m2, m3, m4, m5, m6, m7⟩ := hr3.sr.obj i _ hi3
  rw [hg3] at q3
  obtain rfl : l = b3 := by simpa using q3
  have fin : ∀ (jump : Option Code) (c' : RC), c'.state = (if jump.isNone then .ready else .done) → c'.pend = jump → c'.ps = c.ps → c'.asn = c.asn → c'.body = c.body → c'.nt = c.nt → c'.env = c.env →
      trimOk n st ((s3.st.set i (.lp c')).take n) → R (.ic (.lit (.bool jump.isNone))) ((s3.st.set i (.lp c')).take n) →
      ∃ v w', (Instr.endRound l jump).run P w3 = .ok v w' ∧ ∃ v' x st' g', Ending.returned v = .returned v' ∧ R x st' ∧ AR G st' g' w' x v' ∧ SR G st' g' w' ∧ Evo st g w st' g' w' := by
    intro jump c' d1 d2 d3 d4 d5 d6 d7 ht hR
    obtain ⟨hev4, hsr4⟩ := hr3.sr.relp hi3 hg3 hh3 { r3 with state := if jump.isNone then .ready else .done, pending := jump } (c' := c') d1.symm d2.symm rfl rfl rfl rfl (by rw [d3, hb]) (by rw [d4, hb]) (by rw [d5, hb]) (by rw [d6, hb]) (by rw [d7, hb])
    obtain ⟨hsr5, hev5⟩ := trimS hr hsr4 (((hev1.trans hev2).trans hev3).trans hev4) hn (by rw [List.length_set]; exact hn3) ht
    exact ⟨_, _, run_endRound jump hh3, _, _, _, _, rfl, hR, .ic _ _ (.lit _ rfl), hsr5, hev5⟩
  cases e with
  | normal => exact fin none c (by rw [hcs]; rfl) hcp rfl rfl rfl rfl rfl hq.1 hq.2
  | ret =>
    obtain ⟨q1, q2⟩ := hq { c with state := .done, pend := some .ret } rfl
    exact fin (some .ret) { c with state := .done, pend := some .ret } rfl rfl rfl rfl rfl rfl rfl q1 q2
  | exit id =>
    obtain ⟨q1, q2⟩ := hq { c with state := .done, pend := some (.exit id) } rfl
    exact fin (some (.exit id)) { c with state := .done, pend := some (.exit id) } rfl rfl rfl rfl rfl rfl rfl q1 q2
  | goto t => exact hq.elim
  | panic ch => exact hq.elim
  | outgrown => exact hq.elim

theorem AWp.rangeFunc' {P : Program} {s : St} {Q : Exit → St → Prop} {x : Operand} {ps : Array Tmp} {asn body : Code} {f : FuncId} {first cap : List AV} (hx : s.ev x = .fn (.func f) first cap)
    (h : ∀ c : RC, c = ⟨.ready, none, ps, asn, body, s.nt, s.env⟩ → ∃ R : AV → List AObj → Prop, ACalls P f (first ++ [.yl s.st.length] ++ cap) (s.st ++ [.lp c]) R ∧
      ∀ y st', R y st' → (st'[s.st.length]? = some (.lp c) ∧ ∀ x : RC, Q .normal ⟨s.nt, s.env, st'.set s.st.length (.lp x)⟩) ∨
        ∃ j d, st'[s.st.length]? = some (.lp d) ∧ d = { c with state := .done, pend := some j } ∧ ∀ x : RC, AWp none P j ⟨s.nt, s.env, st'.set s.st.length (.lp x)⟩ Q) : AWp none P (.rangeFunc x ps asn body) s Q := by
  obtain ⟨R, hc, hk⟩ := h _ rfl
  refine AWp.rangeFunc hx hc fun y st' hR => ?_
  rcases hk y st' hR with ⟨h1, h2⟩ | ⟨j, d, h1, rfl, h2⟩
  · exact ⟨_, h1, by simp, h2 _⟩
  · exact ⟨_, h1, by simp, h2 _⟩
theorem rPV_own {st : List AObj} {i ver e sz : Nat} {m : Bool} {xs : List (List IC)} (h : st[i]? = some (.row m ver e sz xs)) : rPV st (.own i ver) = some (.c (.sl sz false xs)) := by
  simp [rPV, rIC, toIC, h]
theorem rPV_own2 {st : List AObj} {i ver e sz : Nat} {m : Bool} {xs : List (List IC)} {y : AV} {z : PV} (h : st[i]? = some (.row m ver e sz xs)) (hy : rPV st y = some z) : rPV st (.tup [.own i ver, y]) = some (.tup [.c (.sl sz false xs), z]) := by
  simp only [rPV, rPVs]
  have := rPV_own h
  simp only [rPV] at this
  rw [this, hy]
end Go.Proofs.Ytpphdaphbkepfaa.Aw
