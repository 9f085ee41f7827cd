/- The abstract walk, part 28: rows that become data within a region; contracts up to rows of nothing. -/
import Derived.Test.YtpphdaphbkepfaaAw27
set_option linter.unusedVariables false
set_option linter.unusedSimpArgs false
namespace Go.Proofs.Ytpphdaphbkepfaa.Aw
open Go Go.RowKit
theorem AOL.freeze {r : Option Nat} {P : Program} {ops : Array Oper} {l : List Nat} {s : St} {Q : St → Prop} (i ver e sz : Nat) (m : Bool) (xs : List (List IC)) (hi : s.st[i]? = some (.row m ver e sz xs))
    (h : AOL r P ops l ⟨s.nt, s.env.map (fun p => (p.1, thaw i ver sz xs p.2)), s.st.set i (.row false ver e sz xs)⟩ Q) : AOL r P ops l s Q := fun G g w a QQ hr k => by
  obtain ⟨hev, hsr⟩ := hr.sr.frz i _ hi
  have hil : i < s.st.length := (List.getElem?_eq_some_iff.1 hi).1
  have hset : (s.st.set i (Aw.frz (.row m ver e sz xs)))[i]? = some (.row false ver e sz xs) := by rw [List.getElem?_set_self hil]; rfl
  have hrow : IR w (Good G (s.st.set i (Aw.frz (.row m ver e sz xs))) g) (.sl sz false xs) (g i) := row_ir hset hsr _ (fun _ h => h) (fun b hb hG => ⟨hG, fun ⟨j, o, hj, hm, hgj⟩ => by
    have := hsr.inj i j _ o b hset hj rfl (by cases o <;> simp_all [AObj.mu, AObj.live]) hb hgj
    subst this
    rw [hset] at hj
    simp only [Option.some.injEq] at hj
    subst hj
    simp [AObj.mu] at hm⟩)
  have hmap : ∀ (env : List (Nat × AV)) (t : Nat), look (env.map fun p => (p.1, thaw i ver sz xs p.2)) t = thaw i ver sz xs (look env t) := fun env t => by
    induction env with
    | nil => rfl
    | cons p r ih =>
      obtain ⟨q, x⟩ := p
      simp only [List.map_cons, look]
      cases Nat.beq q t <;> simp [ih]
  have hrel : Rel G ⟨s.nt, s.env.map (fun p => (p.1, thaw i ver sz xs p.2)), s.st.set i (Aw.frz (.row m ver e sz xs))⟩ g w a := by
    refine ⟨fun t => ?_, hr.size, hsr⟩
    show AR G _ g w (look (s.env.map fun p => (p.1, thaw i ver sz xs p.2)) t) _
    rw [hmap]
    have hx := (hr.slots t).evo hev
    show AR G _ g w (thaw i ver sz xs (s.get t)) _
    generalize s.get t = x at hx
    generalize a.tmps.getD t undef = v at hx
    cases x with
    | own j v' =>
      simp only [thaw]
      cases hb : (Nat.beq i j && Nat.beq ver v') with
      | false => exact hx
      | true =>
        simp only [Bool.and_eq_true] at hb
        obtain rfl := Nat.eq_of_beq_eq_true hb.1
        obtain rfl := Nat.eq_of_beq_eq_true hb.2
        cases hx with
        | own i ver v hi' hv h1 =>
          obtain rfl := (hv _ _ _ _ _ hset).2 rfl
          exact .ic _ _ hrow
    | _ => exact hx
  exact h G g w a QQ hrel fun s' g2 w2 a2 q hr2 he2 hd2 hf => k s' g2 w2 a2 q hr2 (hev.trans he2) hd2 hf
theorem One.callL {r : Option Nat} {P : Program} {ops : Array Oper} {i : Nat} {s : St} {x : Operand} {args : Array Operand} {ts : Array TypeId} {f : FuncId} {first cap : List AV} {pvs pvs' : List PV} {y : PV} (own : Bool) (h : opAt ops i s = some (.call { callee := .value x, args := args, argTypes := ts })) (hf : s.ev x = .fn (.func f) first cap)
    (hx : toPVs own s.st (first ++ args.toList.map s.ev ++ cap) = some pvs) (hc : PureCalls P f pvs' y) (hn : (!own || noSl y) = true) (hl : PLes pvs pvs') : One r P ops i s y.av s.st := One.call own h hf hx (hc.weaken hl) hn
theorem PureCalls.weakenR {P : Program} {f : FuncId} {pvs : List PV} {r r' : PV} (h : PureCalls P f pvs r) (k : PLe r r') : PureCalls P f pvs r' :=
  ⟨h.1, fun ok w vals hsz hv => (h.2 ok w vals hsz hv).mono fun e w' ⟨v, he, hp, hb⟩ => ⟨v, he, hp.le k, hb⟩⟩
theorem PureCalls.ofLe {P : Program} {f : FuncId} {fn : Func} {c : Code} {pvs : List PV} {r : PV} (hf : P.funcs[f]? = some fn) (hb : fn.body = some c) (he : entersB P f = true) (hn : Nat.ble pvs.length fn.ntmps = true)
    (h : AWp none P c (entry fn.ntmps (pvs.map PV.av) []) (RetQ P fn fun x st => ∃ y, rPV st x = some y ∧ PLe y r)) : PureCalls P f pvs r := by
  have h' : ACalls P f (pvs.map PV.av) [] (fun x st => ∃ y, rPV st x = some y ∧ PLe y r) := ACalls.of hf hb he (by simpa using hn) h
  refine ⟨h'.1, fun ok w vals hsz hval => ?_⟩
  have hno : ∀ b, ¬ Own [] (fun _ => undef) b := fun b ⟨i, o, hi, _⟩ => by simp at hi
  refine (h'.2 (fun b => ok b ∨ w.heap.size ≤ b) (fun _ => undef) w vals (by simpa using hsz) ⟨by simp, by simp, fun b hb => .inr hb⟩ fun k x hk => ?_).mono ?_
  · rw [List.getElem?_map] at hk
    simp only [Option.map_eq_some_iff] at hk
    obtain ⟨y, hy, rfl⟩ := hk
    exact ((hval k y hy).mono fun x v hi => hi.mono (fun _ _ _ => rfl) (fun b _ hb => ⟨.inl hb, hno b⟩) (Nat.le_refl _)).ar
  · rintro e w' ⟨v, x, st', g', rfl, ⟨y, hR, hle⟩, hx, hsr, hev⟩
    refine ⟨v, rfl, ((rPV_pr hx hsr hR).le hle).mono fun x v hi => hi.mono (fun _ _ _ => rfl) (fun b _ hb => hb.1) (Nat.le_refl _), hev.os, hev.tape, hev.output, hev.size, fun b hb => hev.heap b hb (hno b)⟩
theorem AOL.norm {r : Option Nat} {P : Program} {ops : Array Oper} {l : List Nat} {s s' : St} {Q : St → Prop} (e : s = s') (h : AOL r P ops l s' Q) : AOL r P ops l s Q := e ▸ h
theorem AOL.go1 {r : Option Nat} {P : Program} {A : Ar} {tab : List TI} {ops : Array Oper} (hA : A = real) (hT : TabOk P tab) {Q : St → Prop} {i : Nat} {l : List Nat} {s s' : St} (h : advO A tab ops [i] s = some ([], s')) (k : AOL r P ops l s' Q) : AOL r P ops (i :: l) s Q := by
  simp only [advO] at h
  refine AOL.adv2 hA hT l [i] s ?_
  cases hb : Nat.blt (Aw.adv A tab ops [i] s).1.length [i].length with
  | true =>
    simp only [hb, cond_true, Option.some.injEq] at h
    rw [h]
    exact k
  | false =>
    have hb' : (Aw.adv A tab ops [i] s).1.length.blt 1 = false := hb
    simp [hb'] at h
theorem QS.go1 {P : Program} {A : Ar} {tab : List TI} {ops : Array Oper} (hA : A = real) (hT : TabOk P tab) {Q : St → Prop} {i : Nat} {l : List Nat} {s s' : St} (h : qadvO A tab ops [i] s = some ([], s')) (k : QS P ops l s' Q) : QS P ops (i :: l) s Q := by
  simp only [qadvO] at h
  refine QS.adv2 hA hT l [i] s ?_
  cases hb : Nat.blt (qadv A tab ops [i] s).1.length [i].length with
  | true =>
    simp only [hb, cond_true, Option.some.injEq] at h
    rw [h]
    exact k
  | false =>
    have hb' : (qadv A tab ops [i] s).1.length.blt 1 = false := hb
    simp [hb'] at h
theorem AllR.consN {P : Program} {ops : Array Oper} {fuel : Nat} {listed listed' : Array Bool} {s s2 : St} {Q : St → Prop} {i : Nat} {r : List Nat} {x : AV} {st' : List AObj} (h : One none P ops i s x st') (e : putS s (dstOf ops i) x st' = s2) (el : listed.setIfInBounds i true = listed')
    (k : AnyQ P ops fuel listed' s2 Q) (hr : AllR P ops fuel listed s Q r) : AllR P ops fuel listed s Q (i :: r) := by
  subst e el
  exact AllR.cons h k hr
end Go.Proofs.Ytpphdaphbkepfaa.Aw
