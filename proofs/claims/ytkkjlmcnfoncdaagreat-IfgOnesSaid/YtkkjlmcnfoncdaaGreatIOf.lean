/- Texts of the proof, put together: the abstract walk, contracts of the functions that the statement reaches, plain laws, part 6 of 6. -/
import Derived.Test.YtkkjlmcnfoncdaaGreatIOe
import Derived.Test.YtkkjlmcnfoncdaaGreatIOd
/- Contract of the document's answer for package ifg: two variables made one. -/
set_option linter.unusedVariables false
set_option linter.unusedSimpArgs false
set_option linter.unusedSectionVars false
namespace Go.Proofs.YtkkjlmcnfoncdaaGreat.Aw
open Go Go.RowKit
set_option maxRecDepth 10000
attribute [local irreducible] AWp AOL QS One AOLg QSg NX QX TRg TX AllO Fin3
attribute [local irreducible] W.TRg W.TX W.AllO W.Fin3
theorem rPV_gr3 {st : List AObj} {k w e2 s2 : Nat} {m2 : Bool} {zs : List (List IC)} {a b c d x y : IC} (h4 : st[k]? = some (.row m2 w e2 s2 zs)) :
    rPV st (.tup [.agg [.ic a, .ic b, .ic c, .ic d, .ic x, .ic y], .own k w]) = some (.tup [.agg [a, b, c, d, x, y], .c (.sl s2 false zs)]) := by
  simp [rPV, rPVs, rICs, rIC, toIC, h4]
variable {A : Ar} (hA : A = real)
include hA
theorem refOne_c0 (K : List (List Int)) (S : List Int) (R V : List Int) (N : List (Int × Int)) (M : List Int) (P Q : List (List Int)) (hru : RightU V R) (hV : V.length ≤ 1000000) (x y : Int) (x0 : 0 ≤ x) (x1 : x < V.length) (y0 : 0 ≤ y) (y1 : y < V.length) (h : findU V x = findU V y) :
    PureCalls Tryz.prog 8 [keyedPV A K S, grP A R V N M P Q, IP x, IP y] (.tup [grP A R V N M P Q, .c (.sl 0 true [])]) := by
  have fx := refFind_c hA V N M R hru x x0 x1 hV
  have fy := refFind_c hA V N M R hru y y0 y1 hV
  rw [← h] at fy
  generalize findU V x = p at *
  refine PureCalls.of Tryz.func8 rfl (by kernel_rfl) rfl ?_
  try first | refine AOLg.of [] ?_ | refine QSg.of [] ?_
  repeat' (first | (refine AWp.pass ?_; first | refine AWp.seq ?_ | refine AWp.block ?_ | refine AWp.skip ?_ | refine AWp.regG [] Zc ?_ | refine AWp.cond_t rfl ?_ | refine AWp.cond_f rfl ?_ | (refine AWp.cond rfl ?_ ?_ <;> intro hc <;> (try rw [hc]) <;> ((try simp only [zn] at hc) <;> (try simp (disch := omega) only [zz hA, zb, zy, reduceCtorEq, Bool.false_eq_true, Int.reduceLT, Int.reduceLE, Int.reduceNeg] at hc) <;> (try simp only [zw] at hc)) <;> (try (exfalso; omega))) | refine AWp.exit ?_ | refine AWp.ret ⟨.inr rfl, _, RetOk.ev tabOk Zc, ?_⟩ | refine AWp.drawVG [] rfl (by decide +kernel) Zc ?_) | (refine AOLg.pass ?_; refine AOLg.nx hA tabOk Zc ?_; first | refine NX.done ?_ | refine NX.gt ?_ | refine NX.gf ?_ | (refine NX.gs ?_ ?_ <;> intro hc <;> rw [hc] <;> ((try simp only [zn] at hc) <;> (try simp (disch := omega) only [zz hA, zb, zy, reduceCtorEq, Bool.false_eq_true, Int.reduceLT, Int.reduceLE, Int.reduceNeg] at hc) <;> (try simp only [zw] at hc)) <;> (try (exfalso; omega))) | (refine NX.kC ?_; first | (with_reducible refine NX.call (fx) ?_) | (with_reducible refine NX.call (fy) ?_) | ((first | refine NX.call (fx) ?_ | refine NX.call (fy) ?_)) | fail) | (refine NX.kO ?_; (first | refine NX.callO (fx) (by simp [allEq]) rfl ?_ | refine NX.callO (fy) (by simp [allEq]) rfl ?_)) | refine NX.k 1 (NX.one Z1 ?_) | refine NX.k 7 (NX.one Z7 ?_) | refine NX.k 8 (NX.one Z8 ?_) | refine NX.k 10 (NX.one Z10 ?_) | refine NX.k 11 (NX.one Z11 ?_) | refine NX.k 14 (NX.one Z14 ?_) | refine NX.k 15 (NX.one Z15 ?_) | refine NX.k 17 (NX.one Z17 ?_) | refine NX.k 18 (NX.one Z18 ?_) | refine NX.raw ?_) | (refine TRg.pass ?_; refine TRg.nx hA tabOk Zc ?_; first | refine TX.done ?_ | refine TX.gt ?_ | refine TX.gf ?_ | (refine TX.gs ?_ ?_ <;> intro hc <;> rw [hc] <;> ((try simp only [zn] at hc) <;> (try simp (disch := omega) only [zz hA, zb, zy, reduceCtorEq, Bool.false_eq_true, Int.reduceLT, Int.reduceLE, Int.reduceNeg] at hc) <;> (try simp only [zw] at hc)) <;> (try (exfalso; omega))) | (refine TX.kC ?_; first | (with_reducible refine TX.call (fx) ?_) | (with_reducible refine TX.call (fy) ?_) | ((first | refine TX.call (fx) ?_ | refine TX.call (fy) ?_)) | fail) | (refine TX.kO ?_; (first | refine TX.callO (fx) (by simp [allEq]) rfl ?_ | refine TX.callO (fy) (by simp [allEq]) rfl ?_)) | refine TX.k 1 (TX.one Z1 ?_) | refine TX.k 7 (TX.one Z7 ?_) | refine TX.k 8 (TX.one Z8 ?_) | refine TX.k 10 (TX.one Z10 ?_) | refine TX.k 11 (TX.one Z11 ?_) | refine TX.k 14 (TX.one Z14 ?_) | refine TX.k 15 (TX.one Z15 ?_) | refine TX.k 17 (TX.one Z17 ?_) | refine TX.k 18 (TX.one Z18 ?_) | refine TX.raw ?_) | refine Fin3.of Zc (by repeat' (first | exact True.intro | exact rfl | refine And.intro ?_ ?_)) ?_ ?_ | (refine AllO.pass ?_; first | exact AllO.nil | (refine AllO.cons (One.ev hA tabOk ?_) ?_ <;> (first | refine AllO.pass ?_ | ((conv => lhs; cbv); done))) | (refine AllO.cons (One.skipB ?_) ?_ <;> (first | refine AllO.pass ?_ | ((conv => lhs; cbv); done))) | ((with_reducible refine AllO.call Zc (fx) ?_ ?_) <;> (first | refine AllO.pass ?_ | exact rfl | exact Zd)) | ((with_reducible refine AllO.call Zc (fy) ?_ ?_) <;> (first | refine AllO.pass ?_ | exact rfl | exact Zd)) | refine AllO.consX ZX rfl rfl ?_) | refine Thn.exit ?_ | refine Blk.here ?_ | refine Blk.other (by decide) ?_ | refine ⟨.inl rfl, _, RetOk.ev tabOk Zc, ?_⟩ | fail)
  all_goals first | (exfalso; omega) | (refine rPV_then (by conv => lhs; cbv) ?_; rfl)
set_option maxHeartbeats 4000000 in
theorem refOne_c1 (K : List (List Int)) (S : List Int) (hst : StK K S) (R V : List Int) (N : List (Int × Int)) (M : List Int) (P Q : List (List Int)) (hru : RightU V R) (hR : R.length ≤ 1000) (hV : V.length ≤ 1000) (hN : N.length ≤ 1000) (hP : P.length = V.length) (hQ : Q.length = V.length) (hPl : ∀ x ∈ P, x.length ≤ 1000) (hQl : ∀ x ∈ Q, x.length ≤ 1000)
    (x y p q first gone : Int) (V' : List Int) (N' : List (Int × Int)) (x0 : 0 ≤ x) (x1 : x < V.length) (y0 : 0 ≤ y) (y1 : y < V.length) (hp : findU V x = p) (hq : findU V y = q) (hne : p ≠ q) (hV' : joinV V R p q = V') (hN' : joinN V R N p q = N') (hfg : (lessM R p q = true ∧ first = p ∧ gone = q) ∨ (lessM R p q = false ∧ first = q ∧ gone = p)) (hg0 : 0 ≤ gone ∧ gone < V.length) (hru' : RightU V' R) (hVl : V'.length = V.length) :
    PureCalls Tryz.prog 8 [keyedPV A K S, grP A R V N M P Q, IP x, IP y] (.tup [grP A R V' N' M (P.set gone.toNat []) (Q.set gone.toNat []), slP A 2 encN (outs K V' first (P.getD gone.toNat default) (Q.getD gone.toNat default))]) := by
  have fx := refFind_c hA V N M R hru x x0 x1 (by omega)
  have fy := refFind_c hA V N M R hru y y0 y1 (by omega)
  have hj := refJoin_c hA R V N M hru (by omega) (by omega) (by omega) x y p q x0 x1 y0 y1 hp hq hne
  rw [hp] at fx
  rw [hq] at fy
  rw [hV', hN'] at hj
  have hl := refLess_c hA R (hid A p) (hid A q) (by omega)
  rw [show lessM R (hid A p) (hid A q) = lessM R p q by rw [hid_eq hA, hid_eq hA]] at hl
  have hwP : PureCalls Tryz.prog 39 [slP A 1 (encK A) P, IP (hid A gone), .c (.sl 0 false [])] (slP A 1 (encK A) (P.set gone.toNat [])) := by
    rw [hid_eq hA gone]
    exact PureCalls.weaken (refWith_c hA P gone [] hg0.1 (by omega) (by omega)) (.cons (PLe.refl _) (.cons (PLe.refl _) (.cons (PLe.c (ILe.nilM hA _ _ _ _)) .nil)))
  have hwQ : PureCalls Tryz.prog 39 [slP A 1 (encK A) Q, IP (hid A gone), .c (.sl 0 false [])] (slP A 1 (encK A) (Q.set gone.toNat [])) := by
    rw [hid_eq hA gone]
    exact PureCalls.weaken (refWith_c hA Q gone [] hg0.1 (by omega) (by omega)) (.cons (PLe.refl _) (.cons (PLe.refl _) (.cons (PLe.c (ILe.nilM hA _ _ _ _)) .nil)))
  have hrep : ∀ (P1 Q1 : List (List Int)) (z : Int), PureCalls Tryz.prog 40 [keyedPV A K S, grP A R V' N' M P1 Q1, IP z] (IP (hid A (repM K V' z))) := fun P1 Q1 z => refRep_c hA K S hst R V' N' M P1 Q1 hru' (by omega) z
  have hat : PureCalls Tryz.prog 41 [keyedPV A K S, IP (hid A first)] (IP (hid A (atV K first))) := by
    rw [hid_eq hA first]; exact refAtV_c hA K S first
  have hpre : (P.getD gone.toNat default).length ≤ 1000 := hPl _ (by rw [List.getD_eq_getElem?_getD, List.getElem?_eq_getElem (by omega)]; exact List.getElem_mem _)
  have hsuc : (Q.getD gone.toNat default).length ≤ 1000 := hQl _ (by rw [List.getD_eq_getElem?_getD, List.getElem?_eq_getElem (by omega)]; exact List.getElem_mem _)
  clear hPl hQl hV' hN'
  refine PureCalls.of Tryz.func8 rfl (by kernel_rfl) rfl ?_
  rcases hfg with ⟨hb, rfl, rfl⟩ | ⟨hb, rfl, rfl⟩
  all_goals
    rw [hb, hid_eq hA (α := Bool)] at hl
    have hidn : (A (.hid Nat) fun _ => gone.toNat) = gone.toNat := rhid hA _
    obtain ⟨P1, hP1⟩ : ∃ P1, P1 = P.set gone.toNat [] := ⟨_, rfl⟩
    obtain ⟨Q1, hQ1⟩ : ∃ Q1, Q1 = Q.set gone.toNat [] := ⟨_, rfl⟩
    rw [← hP1] at hwP ⊢
    rw [← hQ1] at hwQ ⊢
    try first | refine AOLg.of [16] ?_ | refine QSg.of [16] ?_
    repeat' (first | (refine AWp.pass ?_; first | refine AWp.seq ?_ | refine AWp.block ?_ | refine AWp.skip ?_ | refine AWp.regG [16] Zc ?_ | refine AWp.cond_t rfl ?_ | refine AWp.cond_f rfl ?_ | (refine AWp.cond rfl ?_ ?_ <;> intro hc <;> (try rw [hc]) <;> ((try simp only [zn] at hc) <;> (try simp (disch := omega) only [zz hA, zb, zy, reduceCtorEq, Bool.false_eq_true, Int.reduceLT, Int.reduceLE, Int.reduceNeg] at hc) <;> (try simp only [zw] at hc)) <;> (try (exfalso; omega))) | refine AWp.exit ?_ | refine AWp.ret ⟨.inr rfl, _, RetOk.ev tabOk Zc, ?_⟩ | refine AWp.drawVG [16] rfl (by decide +kernel) Zc ?_) | (refine AOLg.pass ?_; refine AOLg.nx hA tabOk Zc ?_; first | refine NX.done ?_ | refine NX.gt ?_ | refine NX.gf ?_ | (refine NX.gs ?_ ?_ <;> intro hc <;> rw [hc] <;> ((try simp only [zn] at hc) <;> (try simp (disch := omega) only [zz hA, zb, zy, reduceCtorEq, Bool.false_eq_true, Int.reduceLT, Int.reduceLE, Int.reduceNeg] at hc) <;> (try simp only [zw] at hc)) <;> (try (exfalso; omega))) | (refine NX.kC ?_; first | (with_reducible refine NX.call (fx) ?_) | (with_reducible refine NX.call (fy) ?_) | (with_reducible refine NX.call (hl) ?_) | (with_reducible refine NX.call (hj) ?_) | (with_reducible refine NX.call (hwP) ?_) | (with_reducible refine NX.call (hwQ) ?_) | ((first | refine NX.call (fx) ?_ | refine NX.call (fy) ?_ | refine NX.call (hl) ?_ | refine NX.call (hj) ?_ | refine NX.call (hwP) ?_ | refine NX.call (hwQ) ?_)) | fail) | (refine NX.kO ?_; (first | refine NX.callO (fx) (by simp [allEq]) rfl ?_ | refine NX.callO (fy) (by simp [allEq]) rfl ?_ | refine NX.callO (hl) (by simp [allEq]) rfl ?_ | refine NX.callO (hj) (by simp [allEq]) rfl ?_ | refine NX.callO (hwP) (by simp [allEq]) rfl ?_ | refine NX.callO (hwQ) (by simp [allEq]) rfl ?_)) | refine NX.k 1 (NX.one Z1 ?_) | refine NX.k 7 (NX.one Z7 ?_) | refine NX.k 8 (NX.one Z8 ?_) | refine NX.k 10 (NX.one Z10 ?_) | refine NX.k 11 (NX.one Z11 ?_) | refine NX.k 14 (NX.one Z14 ?_) | refine NX.k 15 (NX.one Z15 ?_) | refine NX.k 17 (NX.one Z17 ?_) | refine NX.k 18 (NX.one Z18 ?_) | (refine NX.one (One.nilOwn tabOk 16 36 rfl rfl rfl) ?_) | refine NX.raw ?_) | (refine TRg.pass ?_; refine TRg.nx hA tabOk Zc ?_; first | refine TX.done ?_ | refine TX.gt ?_ | refine TX.gf ?_ | (refine TX.gs ?_ ?_ <;> intro hc <;> rw [hc] <;> ((try simp only [zn] at hc) <;> (try simp (disch := omega) only [zz hA, zb, zy, reduceCtorEq, Bool.false_eq_true, Int.reduceLT, Int.reduceLE, Int.reduceNeg] at hc) <;> (try simp only [zw] at hc)) <;> (try (exfalso; omega))) | (refine TX.kC ?_; first | (with_reducible refine TX.call (fx) ?_) | (with_reducible refine TX.call (fy) ?_) | (with_reducible refine TX.call (hl) ?_) | (with_reducible refine TX.call (hj) ?_) | (with_reducible refine TX.call (hwP) ?_) | (with_reducible refine TX.call (hwQ) ?_) | ((first | refine TX.call (fx) ?_ | refine TX.call (fy) ?_ | refine TX.call (hl) ?_ | refine TX.call (hj) ?_ | refine TX.call (hwP) ?_ | refine TX.call (hwQ) ?_)) | fail) | (refine TX.kO ?_; (first | refine TX.callO (fx) (by simp [allEq]) rfl ?_ | refine TX.callO (fy) (by simp [allEq]) rfl ?_ | refine TX.callO (hl) (by simp [allEq]) rfl ?_ | refine TX.callO (hj) (by simp [allEq]) rfl ?_ | refine TX.callO (hwP) (by simp [allEq]) rfl ?_ | refine TX.callO (hwQ) (by simp [allEq]) rfl ?_)) | refine TX.k 1 (TX.one Z1 ?_) | refine TX.k 7 (TX.one Z7 ?_) | refine TX.k 8 (TX.one Z8 ?_) | refine TX.k 10 (TX.one Z10 ?_) | refine TX.k 11 (TX.one Z11 ?_) | refine TX.k 14 (TX.one Z14 ?_) | refine TX.k 15 (TX.one Z15 ?_) | refine TX.k 17 (TX.one Z17 ?_) | refine TX.k 18 (TX.one Z18 ?_) | (refine TX.one (One.nilOwn tabOk 16 36 rfl rfl rfl) ?_) | refine TX.raw ?_) | refine Fin3.of Zc (by repeat' (first | exact True.intro | exact rfl | refine And.intro ?_ ?_)) ?_ ?_ | (refine AllO.pass ?_; first | exact AllO.nil | (refine AllO.cons (One.ev hA tabOk ?_) ?_ <;> (first | refine AllO.pass ?_ | ((conv => lhs; cbv); done))) | (refine AllO.cons (One.skipB ?_) ?_ <;> (first | refine AllO.pass ?_ | ((conv => lhs; cbv); done))) | ((with_reducible refine AllO.call Zc (fx) ?_ ?_) <;> (first | refine AllO.pass ?_ | exact rfl | exact Zd)) | ((with_reducible refine AllO.call Zc (fy) ?_ ?_) <;> (first | refine AllO.pass ?_ | exact rfl | exact Zd)) | ((with_reducible refine AllO.call Zc (hl) ?_ ?_) <;> (first | refine AllO.pass ?_ | exact rfl | exact Zd)) | ((with_reducible refine AllO.call Zc (hj) ?_ ?_) <;> (first | refine AllO.pass ?_ | exact rfl | exact Zd)) | ((with_reducible refine AllO.call Zc (hwP) ?_ ?_) <;> (first | refine AllO.pass ?_ | exact rfl | exact Zd)) | ((with_reducible refine AllO.call Zc (hwQ) ?_ ?_) <;> (first | refine AllO.pass ?_ | exact rfl | exact Zd)) | refine AllO.consX ZX rfl rfl ?_) | refine Thn.exit ?_ | refine Blk.here ?_ | refine Blk.other (by decide) ?_ | refine ⟨.inl rfl, _, RetOk.ev tabOk Zc, ?_⟩ | fail)
    all_goals try (exfalso; omega)
    have hidi : (A (.hid Int) fun _ => gone) = gone := rhid hA _
    rw [hidi]
    obtain ⟨pre, hpD⟩ : ∃ pre, pre = P.getD gone.toNat default := ⟨_, rfl⟩
    obtain ⟨suc, hsD⟩ : ∃ suc, suc = Q.getD gone.toNat default := ⟨_, rfl⟩
    obtain ⟨f1, hf1⟩ : ∃ f1 : Int → Int × Int, f1 = fun id => (repM K V' id, atV K first) := ⟨_, rfl⟩
    obtain ⟨f2, hf2⟩ : ∃ f2 : Int → Int × Int, f2 = fun id => (atV K first, repM K V' id) := ⟨_, rfl⟩
    have ho : outs K V' first (P.getD gone.toNat default) (Q.getD gone.toNat default) = pre.map f1 ++ suc.map f2 := by rw [hf1, hf2, hpD, hsD]; rfl
    rw [ho]
    have hpl : (P.getD gone.toNat default).length = pre.length := by rw [hpD]
    have hsl : (Q.getD gone.toNat default).length = suc.length := by rw [hsD]
    clear ho hj hwP hwQ fx fy hl
    refine AWp.loopU (fun x : Nat × Nat => [(17, .ic (.lit (.int .i64 (hid A (cN x.1))))), (16, .own 4 x.2)]) (fun x => [.var true 26 [.ic (.sl 1 false (hid A (List.map (encK A) K))), .ic (.sl 1 false (hid A (List.map encI S)))], .var true 31 [.ic (.sl 1 false (hid A (List.map encI R))), .ic (.sl 1 false (hid A (List.map encI V))), .ic (.sl 2 false (hid A (List.map encN N))), .ic (.sl 1 false (hid A (List.map encI M))), .ic (.sl 1 false (hid A (List.map (encK A) P))), .ic (.sl 1 false (hid A (List.map (encK A) Q)))], .var true 31 [.ic (.sl 0 true []), .ic (.sl 0 true []), .ic (.sl 0 true []), .ic (.sl 0 true []), .ic (.sl 0 true []), .ic (.sl 0 true [])], .var true 31 [.ic (.sl 1 false (hid A (List.map encI R))), .ic (.sl 1 false (hid A (List.map encI V'))), .ic (.sl 2 false (hid A (List.map encN N'))), .ic (.sl 1 false (hid A (List.map encI M))), .ic (.sl 1 false (hid A (List.map (encK A) P1))), .ic (.sl 1 false (hid A (List.map (encK A) Q1)))], .row true x.2 55 2 (hid A (List.map encN ((pre.take x.1).map f1)))])
      (fun x => pre.length - x.1) (fun x => x.1 ≤ pre.length) (0, 0) (by conv => lhs; cbv) (Nat.zero_le _) (by ((repeat' (first | exact subE.nil | refine subE.cons rfl ?_ | refine subE.int rfl ?_ ?_ | refine subE.bool rfl ?_ ?_ | refine subE.str rfl ?_ ?_ | refine subE.sl rfl ?_ ?_))) <;> first | rfl | simp [hA, real, hid, cN]) (by simp [hid_eq hA]) ?_
    rintro ⟨k, v⟩ hk
    simp only at hk ⊢
    by_cases hlt : k < pre.length
    · have hln : ((pre.take k).map f1).length = k := by simp; omega
      have hnx := take_map f1 pre k hlt
      generalize hT2 : (pre.take (k + 1)).map f1 = T2 at *
      generalize (pre.take k).map f1 = T at *
      try first | refine AOLg.of [] ?_ | refine QSg.of [] ?_
      repeat' (first | (refine AWp.pass ?_; first | refine AWp.seq ?_ | refine AWp.block ?_ | refine AWp.skip ?_ | refine AWp.regG [] Zc ?_ | refine AWp.cond_t rfl ?_ | refine AWp.cond_f rfl ?_ | (refine AWp.cond rfl ?_ ?_ <;> intro hc <;> (try rw [hc]) <;> ((try simp only [zn] at hc) <;> (try simp (disch := omega) only [zz hA, zb, zy, reduceCtorEq, Bool.false_eq_true, Int.reduceLT, Int.reduceLE, Int.reduceNeg] at hc) <;> (try simp only [zw] at hc)) <;> (try (exfalso; omega))) | refine AWp.exit ?_ | refine AWp.ret ⟨.inr rfl, _, RetOk.ev tabOk Zc, ?_⟩ | refine W.AWp.drawVG [] rfl (by decide +kernel) Zc ?_) | (refine AOLg.pass ?_; refine AOLg.nx hA tabOk Zc ?_; first | refine NX.done ?_ | refine NX.gt ?_ | refine NX.gf ?_ | (refine NX.gs ?_ ?_ <;> intro hc <;> rw [hc] <;> ((try simp only [zn] at hc) <;> (try simp (disch := omega) only [zz hA, zb, zy, reduceCtorEq, Bool.false_eq_true, Int.reduceLT, Int.reduceLE, Int.reduceNeg] at hc) <;> (try simp only [zw] at hc)) <;> (try (exfalso; omega))) | (refine NX.kC ?_; first | (with_reducible refine NX.call (hrep _ _ _) ?_) | (with_reducible refine NX.call (hat) ?_) | ((first | refine NX.call (hrep _ _ _) ?_ | refine NX.call (hat) ?_)) | fail) | (refine NX.kO ?_; (first | refine NX.callO (hrep _ _ _) (by simp [allEq]) rfl ?_ | refine NX.callO (hat) (by simp [allEq]) rfl ?_)) | refine NX.k 1 (NX.one Z1 ?_) | refine NX.k 7 (NX.one Z7 ?_) | refine NX.k 8 (NX.one Z8 ?_) | refine NX.k 10 (NX.one Z10 ?_) | refine NX.k 11 (NX.one Z11 ?_) | refine NX.k 14 (NX.one Z14 ?_) | refine NX.k 15 (NX.one Z15 ?_) | refine NX.k 17 (NX.one Z17 ?_) | refine NX.k 18 (NX.one Z18 ?_) | (refine NX.one (One.elemM hA tabOk rfl rfl rfl rfl Zd Zd) ?_) | (refine NX.one (One.buildArr tabOk rfl rfl rfl rfl rfl rfl) ?_) | (refine NX.one (One.appendOwnM hA tabOk (f := encN) (f1 (pre.getD k default)) rfl rfl rfl rfl rfl rfl (by simp only [encN, hf1, hpD, hid_eq hA, cN, Int.toNat_natCast]) Zd Zd) ?_) | refine NX.raw ?_) | (refine W.TRg.pass ?_; refine W.TRg.nx hA tabOk Zc ?_; first | refine W.TX.done ?_ | refine W.TX.gt ?_ | refine W.TX.gf ?_ | (refine W.TX.gs ?_ ?_ <;> intro hc <;> rw [hc] <;> ((try simp only [zn] at hc) <;> (try simp (disch := omega) only [zz hA, zb, zy, reduceCtorEq, Bool.false_eq_true, Int.reduceLT, Int.reduceLE, Int.reduceNeg] at hc) <;> (try simp only [zw] at hc)) <;> (try (exfalso; omega))) | (refine W.TX.kC ?_; first | (with_reducible refine W.TX.call (hrep _ _ _) ?_) | (with_reducible refine W.TX.call (hat) ?_) | ((first | refine W.TX.call (hrep _ _ _) ?_ | refine W.TX.call (hat) ?_)) | fail) | (refine W.TX.kO ?_; (first | refine W.TX.callO (hrep _ _ _) (by simp [allEq]) rfl ?_ | refine W.TX.callO (hat) (by simp [allEq]) rfl ?_)) | refine W.TX.k 1 (W.TX.one Z1 ?_) | refine W.TX.k 7 (W.TX.one Z7 ?_) | refine W.TX.k 8 (W.TX.one Z8 ?_) | refine W.TX.k 10 (W.TX.one Z10 ?_) | refine W.TX.k 11 (W.TX.one Z11 ?_) | refine W.TX.k 14 (W.TX.one Z14 ?_) | refine W.TX.k 15 (W.TX.one Z15 ?_) | refine W.TX.k 17 (W.TX.one Z17 ?_) | refine W.TX.k 18 (W.TX.one Z18 ?_) | (refine W.TX.one (One.elemM hA tabOk rfl rfl rfl rfl Zd Zd) ?_) | (refine W.TX.one (One.buildArr tabOk rfl rfl rfl rfl rfl rfl) ?_) | (refine W.TX.one (One.appendOwnM hA tabOk (f := encN) (f1 (pre.getD k default)) rfl rfl rfl rfl rfl rfl (by simp only [encN, hf1, hpD, hid_eq hA, cN, Int.toNat_natCast]) Zd Zd) ?_) | refine W.TX.raw ?_) | refine W.Fin3.of Zc (by repeat' (first | exact True.intro | exact rfl | refine And.intro ?_ ?_)) ?_ ?_ | (refine W.AllO.pass ?_; first | exact W.AllO.nil | (refine W.AllO.cons (One.ev hA tabOk ?_) ?_ <;> (first | refine W.AllO.pass ?_ | ((conv => lhs; cbv); done))) | (refine W.AllO.cons (One.skipB ?_) ?_ <;> (first | refine W.AllO.pass ?_ | ((conv => lhs; cbv); done))) | ((with_reducible refine W.AllO.call Zc (hrep _ _ _) ?_ ?_) <;> (first | refine W.AllO.pass ?_ | exact rfl | exact Zd)) | ((with_reducible refine W.AllO.call Zc (hat) ?_ ?_) <;> (first | refine W.AllO.pass ?_ | exact rfl | exact Zd)) | refine W.AllO.consX ZX rfl rfl ?_ | ((refine W.AllO.consX (One.elemM hA tabOk rfl rfl rfl rfl Zd Zd) rfl rfl ?_) <;> (first | refine W.AllO.pass ?_ | exact Zd)) | ((refine W.AllO.consX (One.buildArr tabOk rfl rfl rfl rfl rfl rfl) rfl rfl ?_) <;> (first | refine W.AllO.pass ?_ | exact Zd))) | refine Thn.exit ?_ | refine Blk.here ?_ | refine Blk.other (by decide) ?_ | refine ⟨.inl rfl, _, RetOk.ev tabOk Zc, ?_⟩ | fail)
      refine ⟨(k + 1, v + 1), by simp only; omega, by simp only; omega, rfl, ?_, ?_, Zk⟩
      · simp only [hT2, hnx]
      · (repeat' (first | exact subE.nil | refine subE.cons rfl ?_ | refine subE.int rfl ?_ ?_ | refine subE.bool rfl ?_ ?_ | refine subE.str rfl ?_ ?_ | refine subE.sl rfl ?_ ?_))
        all_goals first | rfl | exact Zd
    · rw [show pre.take k = pre from List.take_of_length_le (by omega)]
      try first | refine AOLg.of [] ?_ | refine QSg.of [] ?_
      repeat' (first | (refine AWp.pass ?_; first | refine AWp.seq ?_ | refine AWp.block ?_ | refine AWp.skip ?_ | refine AWp.regG [] Zc ?_ | refine AWp.cond_t rfl ?_ | refine AWp.cond_f rfl ?_ | (refine AWp.cond rfl ?_ ?_ <;> intro hc <;> (try rw [hc]) <;> ((try simp only [zn] at hc) <;> (try simp (disch := omega) only [zz hA, zb, zy, reduceCtorEq, Bool.false_eq_true, Int.reduceLT, Int.reduceLE, Int.reduceNeg] at hc) <;> (try simp only [zw] at hc)) <;> (try (exfalso; omega))) | refine AWp.exit ?_ | refine AWp.ret ⟨.inr rfl, _, RetOk.ev tabOk Zc, ?_⟩ | refine W.AWp.drawVG [] rfl (by decide +kernel) Zc ?_) | (refine AOLg.pass ?_; refine AOLg.nx hA tabOk Zc ?_; first | refine NX.done ?_ | refine NX.gt ?_ | refine NX.gf ?_ | (refine NX.gs ?_ ?_ <;> intro hc <;> rw [hc] <;> ((try simp only [zn] at hc) <;> (try simp (disch := omega) only [zz hA, zb, zy, reduceCtorEq, Bool.false_eq_true, Int.reduceLT, Int.reduceLE, Int.reduceNeg] at hc) <;> (try simp only [zw] at hc)) <;> (try (exfalso; omega))) | refine NX.k 1 (NX.one Z1 ?_) | refine NX.k 7 (NX.one Z7 ?_) | refine NX.k 8 (NX.one Z8 ?_) | refine NX.k 10 (NX.one Z10 ?_) | refine NX.k 11 (NX.one Z11 ?_) | refine NX.k 14 (NX.one Z14 ?_) | refine NX.k 15 (NX.one Z15 ?_) | refine NX.k 17 (NX.one Z17 ?_) | refine NX.k 18 (NX.one Z18 ?_) | refine NX.raw ?_) | (refine W.TRg.pass ?_; refine W.TRg.nx hA tabOk Zc ?_; first | refine W.TX.done ?_ | refine W.TX.gt ?_ | refine W.TX.gf ?_ | (refine W.TX.gs ?_ ?_ <;> intro hc <;> rw [hc] <;> ((try simp only [zn] at hc) <;> (try simp (disch := omega) only [zz hA, zb, zy, reduceCtorEq, Bool.false_eq_true, Int.reduceLT, Int.reduceLE, Int.reduceNeg] at hc) <;> (try simp only [zw] at hc)) <;> (try (exfalso; omega))) | refine W.TX.k 1 (W.TX.one Z1 ?_) | refine W.TX.k 7 (W.TX.one Z7 ?_) | refine W.TX.k 8 (W.TX.one Z8 ?_) | refine W.TX.k 10 (W.TX.one Z10 ?_) | refine W.TX.k 11 (W.TX.one Z11 ?_) | refine W.TX.k 14 (W.TX.one Z14 ?_) | refine W.TX.k 15 (W.TX.one Z15 ?_) | refine W.TX.k 17 (W.TX.one Z17 ?_) | refine W.TX.k 18 (W.TX.one Z18 ?_) | refine W.TX.raw ?_) | refine W.Fin3.of Zc (by repeat' (first | exact True.intro | exact rfl | refine And.intro ?_ ?_)) ?_ ?_ | (refine W.AllO.pass ?_; first | exact W.AllO.nil | (refine W.AllO.cons (One.ev hA tabOk ?_) ?_ <;> (first | refine W.AllO.pass ?_ | ((conv => lhs; cbv); done))) | (refine W.AllO.cons (One.skipB ?_) ?_ <;> (first | refine W.AllO.pass ?_ | ((conv => lhs; cbv); done))) | refine W.AllO.consX ZX rfl rfl ?_) | refine Thn.exit ?_ | refine Blk.here ?_ | refine Blk.other (by decide) ?_ | refine ⟨.inl rfl, _, RetOk.ev tabOk Zc, ?_⟩ | fail)
      all_goals try (exfalso; omega)
      generalize hT0 : pre.map f1 = T0 at *
      have hT0l : T0.length = pre.length := by rw [← hT0, List.length_map]
      refine AWp.loopU (fun x : Nat × Nat => [(18, .ic (.lit (.int .i64 (hid A (cN x.1))))), (16, .own 4 x.2)]) (fun x => [.var true 26 [.ic (.sl 1 false (hid A (List.map (encK A) K))), .ic (.sl 1 false (hid A (List.map encI S)))], .var true 31 [.ic (.sl 1 false (hid A (List.map encI R))), .ic (.sl 1 false (hid A (List.map encI V))), .ic (.sl 2 false (hid A (List.map encN N))), .ic (.sl 1 false (hid A (List.map encI M))), .ic (.sl 1 false (hid A (List.map (encK A) P))), .ic (.sl 1 false (hid A (List.map (encK A) Q)))], .var true 31 [.ic (.sl 0 true []), .ic (.sl 0 true []), .ic (.sl 0 true []), .ic (.sl 0 true []), .ic (.sl 0 true []), .ic (.sl 0 true [])], .var true 31 [.ic (.sl 1 false (hid A (List.map encI R))), .ic (.sl 1 false (hid A (List.map encI V'))), .ic (.sl 2 false (hid A (List.map encN N'))), .ic (.sl 1 false (hid A (List.map encI M))), .ic (.sl 1 false (hid A (List.map (encK A) P1))), .ic (.sl 1 false (hid A (List.map (encK A) Q1)))], .row true x.2 55 2 (hid A (List.map encN (T0 ++ (suc.take x.1).map f2)))])
        (fun x => suc.length - x.1) (fun x => x.1 ≤ suc.length) (0, v) (by conv => lhs; cbv) (Nat.zero_le _) (by ((repeat' (first | exact subE.nil | refine subE.cons rfl ?_ | refine subE.int rfl ?_ ?_ | refine subE.bool rfl ?_ ?_ | refine subE.str rfl ?_ ?_ | refine subE.sl rfl ?_ ?_))) <;> first | rfl | simp [hA, real, hid, cN]) (by simp [hid_eq hA]) ?_
      rintro ⟨n, u⟩ hn
      simp only at hn ⊢
      by_cases hlt2 : n < suc.length
      · have hln : (T0 ++ (suc.take n).map f2).length = pre.length + n := by rw [List.length_append, List.length_map, List.length_take, hT0l]; omega
        have hnx : T0 ++ (suc.take (n + 1)).map f2 = (T0 ++ (suc.take n).map f2) ++ [f2 (suc.getD n default)] := by rw [take_map f2 suc n hlt2, List.append_assoc]
        generalize hT2 : T0 ++ (suc.take (n + 1)).map f2 = T2 at *
        generalize T0 ++ (suc.take n).map f2 = T at *
        try first | refine AOLg.of [] ?_ | refine QSg.of [] ?_
        repeat' (first | (refine AWp.pass ?_; first | refine AWp.seq ?_ | refine AWp.block ?_ | refine AWp.skip ?_ | refine AWp.regG [] Zc ?_ | refine AWp.cond_t rfl ?_ | refine AWp.cond_f rfl ?_ | (refine AWp.cond rfl ?_ ?_ <;> intro hc <;> (try rw [hc]) <;> ((try simp only [zn] at hc) <;> (try simp (disch := omega) only [zz hA, zb, zy, reduceCtorEq, Bool.false_eq_true, Int.reduceLT, Int.reduceLE, Int.reduceNeg] at hc) <;> (try simp only [zw] at hc)) <;> (try (exfalso; omega))) | refine AWp.exit ?_ | refine AWp.ret ⟨.inr rfl, _, RetOk.ev tabOk Zc, ?_⟩ | refine W.AWp.drawVG [] rfl (by decide +kernel) Zc ?_) | (refine AOLg.pass ?_; refine AOLg.nx hA tabOk Zc ?_; first | refine NX.done ?_ | refine NX.gt ?_ | refine NX.gf ?_ | (refine NX.gs ?_ ?_ <;> intro hc <;> rw [hc] <;> ((try simp only [zn] at hc) <;> (try simp (disch := omega) only [zz hA, zb, zy, reduceCtorEq, Bool.false_eq_true, Int.reduceLT, Int.reduceLE, Int.reduceNeg] at hc) <;> (try simp only [zw] at hc)) <;> (try (exfalso; omega))) | (refine NX.kC ?_; first | (with_reducible refine NX.call (hrep _ _ _) ?_) | (with_reducible refine NX.call (hat) ?_) | ((first | refine NX.call (hrep _ _ _) ?_ | refine NX.call (hat) ?_)) | fail) | (refine NX.kO ?_; (first | refine NX.callO (hrep _ _ _) (by simp [allEq]) rfl ?_ | refine NX.callO (hat) (by simp [allEq]) rfl ?_)) | refine NX.k 1 (NX.one Z1 ?_) | refine NX.k 7 (NX.one Z7 ?_) | refine NX.k 8 (NX.one Z8 ?_) | refine NX.k 10 (NX.one Z10 ?_) | refine NX.k 11 (NX.one Z11 ?_) | refine NX.k 14 (NX.one Z14 ?_) | refine NX.k 15 (NX.one Z15 ?_) | refine NX.k 17 (NX.one Z17 ?_) | refine NX.k 18 (NX.one Z18 ?_) | (refine NX.one (One.elemM hA tabOk rfl rfl rfl rfl Zd Zd) ?_) | (refine NX.one (One.buildArr tabOk rfl rfl rfl rfl rfl rfl) ?_) | (refine NX.one (One.appendOwnM hA tabOk (f := encN) (f2 (suc.getD n default)) rfl rfl rfl rfl rfl rfl (by simp only [encN, hf2, hsD, hid_eq hA, cN, Int.toNat_natCast]) Zd Zd) ?_) | refine NX.raw ?_) | (refine W.TRg.pass ?_; refine W.TRg.nx hA tabOk Zc ?_; first | refine W.TX.done ?_ | refine W.TX.gt ?_ | refine W.TX.gf ?_ | (refine W.TX.gs ?_ ?_ <;> intro hc <;> rw [hc] <;> ((try simp only [zn] at hc) <;> (try simp (disch := omega) only [zz hA, zb, zy, reduceCtorEq, Bool.false_eq_true, Int.reduceLT, Int.reduceLE, Int.reduceNeg] at hc) <;> (try simp only [zw] at hc)) <;> (try (exfalso; omega))) | (refine W.TX.kC ?_; first | (with_reducible refine W.TX.call (hrep _ _ _) ?_) | (with_reducible refine W.TX.call (hat) ?_) | ((first | refine W.TX.call (hrep _ _ _) ?_ | refine W.TX.call (hat) ?_)) | fail) | (refine W.TX.kO ?_; (first | refine W.TX.callO (hrep _ _ _) (by simp [allEq]) rfl ?_ | refine W.TX.callO (hat) (by simp [allEq]) rfl ?_)) | refine W.TX.k 1 (W.TX.one Z1 ?_) | refine W.TX.k 7 (W.TX.one Z7 ?_) | refine W.TX.k 8 (W.TX.one Z8 ?_) | refine W.TX.k 10 (W.TX.one Z10 ?_) | refine W.TX.k 11 (W.TX.one Z11 ?_) | refine W.TX.k 14 (W.TX.one Z14 ?_) | refine W.TX.k 15 (W.TX.one Z15 ?_) | refine W.TX.k 17 (W.TX.one Z17 ?_) | refine W.TX.k 18 (W.TX.one Z18 ?_) | (refine W.TX.one (One.elemM hA tabOk rfl rfl rfl rfl Zd Zd) ?_) | (refine W.TX.one (One.buildArr tabOk rfl rfl rfl rfl rfl rfl) ?_) | (refine W.TX.one (One.appendOwnM hA tabOk (f := encN) (f2 (suc.getD n default)) rfl rfl rfl rfl rfl rfl (by simp only [encN, hf2, hsD, hid_eq hA, cN, Int.toNat_natCast]) Zd Zd) ?_) | refine W.TX.raw ?_) | refine W.Fin3.of Zc (by repeat' (first | exact True.intro | exact rfl | refine And.intro ?_ ?_)) ?_ ?_ | (refine W.AllO.pass ?_; first | exact W.AllO.nil | (refine W.AllO.cons (One.ev hA tabOk ?_) ?_ <;> (first | refine W.AllO.pass ?_ | ((conv => lhs; cbv); done))) | (refine W.AllO.cons (One.skipB ?_) ?_ <;> (first | refine W.AllO.pass ?_ | ((conv => lhs; cbv); done))) | ((with_reducible refine W.AllO.call Zc (hrep _ _ _) ?_ ?_) <;> (first | refine W.AllO.pass ?_ | exact rfl | exact Zd)) | ((with_reducible refine W.AllO.call Zc (hat) ?_ ?_) <;> (first | refine W.AllO.pass ?_ | exact rfl | exact Zd)) | refine W.AllO.consX ZX rfl rfl ?_ | ((refine W.AllO.consX (One.elemM hA tabOk rfl rfl rfl rfl Zd Zd) rfl rfl ?_) <;> (first | refine W.AllO.pass ?_ | exact Zd)) | ((refine W.AllO.consX (One.buildArr tabOk rfl rfl rfl rfl rfl rfl) rfl rfl ?_) <;> (first | refine W.AllO.pass ?_ | exact Zd))) | refine Thn.exit ?_ | refine Blk.here ?_ | refine Blk.other (by decide) ?_ | refine ⟨.inl rfl, _, RetOk.ev tabOk Zc, ?_⟩ | fail)
        refine ⟨(n + 1, u + 1), by simp only; omega, by simp only; omega, rfl, ?_, ?_, Zk⟩
        · simp only [hT2, hnx]
        · (repeat' (first | exact subE.nil | refine subE.cons rfl ?_ | refine subE.int rfl ?_ ?_ | refine subE.bool rfl ?_ ?_ | refine subE.str rfl ?_ ?_ | refine subE.sl rfl ?_ ?_))
          all_goals first | rfl | exact Zd
      · rw [show suc.take n = suc from List.take_of_length_le (by omega)]
        try first | refine AOLg.of [] ?_ | refine QSg.of [] ?_
        repeat' (first | (refine AWp.pass ?_; first | refine AWp.seq ?_ | refine AWp.block ?_ | refine AWp.skip ?_ | refine AWp.regG [] Zc ?_ | refine AWp.cond_t rfl ?_ | refine AWp.cond_f rfl ?_ | (refine AWp.cond rfl ?_ ?_ <;> intro hc <;> (try rw [hc]) <;> ((try simp only [zn] at hc) <;> (try simp (disch := omega) only [zz hA, zb, zy, reduceCtorEq, Bool.false_eq_true, Int.reduceLT, Int.reduceLE, Int.reduceNeg] at hc) <;> (try simp only [zw] at hc)) <;> (try (exfalso; omega))) | refine AWp.exit ?_ | refine AWp.ret ⟨.inr rfl, _, RetOk.ev tabOk Zc, ?_⟩ | refine W.AWp.drawVG [] rfl (by decide +kernel) Zc ?_) | (refine AOLg.pass ?_; refine AOLg.nx hA tabOk Zc ?_; first | refine NX.done ?_ | refine NX.gt ?_ | refine NX.gf ?_ | (refine NX.gs ?_ ?_ <;> intro hc <;> rw [hc] <;> ((try simp only [zn] at hc) <;> (try simp (disch := omega) only [zz hA, zb, zy, reduceCtorEq, Bool.false_eq_true, Int.reduceLT, Int.reduceLE, Int.reduceNeg] at hc) <;> (try simp only [zw] at hc)) <;> (try (exfalso; omega))) | refine NX.k 1 (NX.one Z1 ?_) | refine NX.k 7 (NX.one Z7 ?_) | refine NX.k 8 (NX.one Z8 ?_) | refine NX.k 10 (NX.one Z10 ?_) | refine NX.k 11 (NX.one Z11 ?_) | refine NX.k 14 (NX.one Z14 ?_) | refine NX.k 15 (NX.one Z15 ?_) | refine NX.k 17 (NX.one Z17 ?_) | refine NX.k 18 (NX.one Z18 ?_) | refine NX.raw ?_) | (refine W.TRg.pass ?_; refine W.TRg.nx hA tabOk Zc ?_; first | refine W.TX.done ?_ | refine W.TX.gt ?_ | refine W.TX.gf ?_ | (refine W.TX.gs ?_ ?_ <;> intro hc <;> rw [hc] <;> ((try simp only [zn] at hc) <;> (try simp (disch := omega) only [zz hA, zb, zy, reduceCtorEq, Bool.false_eq_true, Int.reduceLT, Int.reduceLE, Int.reduceNeg] at hc) <;> (try simp only [zw] at hc)) <;> (try (exfalso; omega))) | refine W.TX.k 1 (W.TX.one Z1 ?_) | refine W.TX.k 7 (W.TX.one Z7 ?_) | refine W.TX.k 8 (W.TX.one Z8 ?_) | refine W.TX.k 10 (W.TX.one Z10 ?_) | refine W.TX.k 11 (W.TX.one Z11 ?_) | refine W.TX.k 14 (W.TX.one Z14 ?_) | refine W.TX.k 15 (W.TX.one Z15 ?_) | refine W.TX.k 17 (W.TX.one Z17 ?_) | refine W.TX.k 18 (W.TX.one Z18 ?_) | refine W.TX.raw ?_) | refine W.Fin3.of Zc (by repeat' (first | exact True.intro | exact rfl | refine And.intro ?_ ?_)) ?_ ?_ | (refine W.AllO.pass ?_; first | exact W.AllO.nil | (refine W.AllO.cons (One.ev hA tabOk ?_) ?_ <;> (first | refine W.AllO.pass ?_ | ((conv => lhs; cbv); done))) | (refine W.AllO.cons (One.skipB ?_) ?_ <;> (first | refine W.AllO.pass ?_ | ((conv => lhs; cbv); done))) | refine W.AllO.consX ZX rfl rfl ?_) | refine Thn.exit ?_ | refine Blk.here ?_ | refine Blk.other (by decide) ?_ | refine ⟨.inl rfl, _, RetOk.ev tabOk Zc, ?_⟩ | fail)
        all_goals try (exfalso; omega)
        show rPV _ _ = some _
        rw [rPV_gr3 (st := _) (k := 4) rfl]
end Go.Proofs.YtkkjlmcnfoncdaaGreat.Aw

/- Law IfgOnes. -/
set_option linter.unusedVariables false
set_option linter.unusedSimpArgs false
set_option linter.unusedSectionVars false
namespace Go.Proofs.YtkkjlmcnfoncdaaGreat.Aw
open Go Go.RowKit
set_option maxRecDepth 10000
attribute [local irreducible] AWp AOL QS One AOLg QSg NX QX TRg TX AllO Fin3
theorem joined_less {V R : List Int} (hR : RightU V R) {x y p q first gone : Int} {V' : List Int} (j : Joined V R x y p q first gone V') (ep : findU V p = p) (eq : findU V q = q) : (lessM R p q = true ∧ first = p ∧ gone = q) ∨ (lessM R p q = false ∧ first = q ∧ gone = p) := by
  have h1 := j.go
  have h2 := j.fp
  have h3 := joinV_find hR j.p0.1 j.p0.2 j.q0.1 j.q0.2 j.p0.1 j.p0.2
  rw [j.v', h2, if_pos (.inl rfl)] at h3
  unfold joinP at h3
  rw [ep, eq] at h3
  have hn := less_neg R p q j.ne
  cases hb : lessM R q p with
  | true =>
    rw [hb] at h3 hn
    rw [if_pos rfl] at h3
    exact .inr ⟨hn, h3, by simp only at h3; omega⟩
  | false =>
    rw [hb] at h3 hn
    rw [if_neg (by simp)] at h3
    exact .inl ⟨hn, h3, by simp only at h3; omega⟩
variable {A : Ar} (hA : A = real)
include hA
set_option maxHeartbeats 4000000 in
theorem iones_law (l : List Sg) (hl : FitG l) (K : List (List Int)) (S : List Int) (hk : FitsK K S) (R V : List Int) (N : List (Int × Int)) (M : List Int) (P Q : List (List Int)) (hg : FitGr R V N M P Q) (x y : Int) :
    PureCalls Tryz.prog 3 [.agg [.sl 2 false (hid A (List.map (encG A) l)), .sl 1 false (hid A (List.map (encK A) K)), .sl 1 false (hid A (List.map encI S)), .sl 1 false (hid A (List.map encI R)), .sl 1 false (hid A (List.map encI V)), .sl 2 false (hid A (List.map encN N)), .sl 1 false (hid A (List.map encI M)), .sl 1 false (hid A (List.map (encK A) P)), .sl 1 false (hid A (List.map (encK A) Q)), .lit (.int .i64 x), .lit (.int .i64 y)]] (BP true) := by
  have hsh := shown12_c hA
  obtain ⟨b, hof, hb⟩ := of_c hA l hl K S hk R V N M P Q hg
  cases b with
  | false =>
    refine PureCalls.of Tryz.func3 rfl (by kernel_rfl) rfl ?_
    try first | refine AOLg.of [] ?_ | refine QSg.of [] ?_
    repeat' (first | (refine AWp.pass ?_; first | refine AWp.seq ?_ | refine AWp.block ?_ | refine AWp.skip ?_ | refine AWp.regG [] Zc ?_ | refine AWp.cond_t rfl ?_ | refine AWp.cond_f rfl ?_ | (refine AWp.cond rfl ?_ ?_ <;> intro hc <;> (try rw [hc]) <;> ((try simp only [zn] at hc) <;> (try simp (disch := omega) only [zz hA, zb, zy, reduceCtorEq, Bool.false_eq_true, Int.reduceLT, Int.reduceLE, Int.reduceNeg] at hc) <;> (try simp only [zw] at hc)) <;> (try (exfalso; omega))) | refine AWp.exit ?_ | refine AWp.ret ⟨.inr rfl, _, RetOk.ev tabOk Zc, ?_⟩) | (refine AOLg.pass ?_; refine AOLg.nx hA tabOk Zc ?_; first | refine NX.done ?_ | refine NX.gt ?_ | refine NX.gf ?_ | (refine NX.gs ?_ ?_ <;> intro hc <;> rw [hc] <;> ((try simp only [zn] at hc) <;> (try simp (disch := omega) only [zz hA, zb, zy, reduceCtorEq, Bool.false_eq_true, Int.reduceLT, Int.reduceLE, Int.reduceNeg] at hc) <;> (try simp only [zw] at hc)) <;> (try (exfalso; omega))) | (refine NX.kC ?_; first | (with_reducible refine NX.call (hsh) ?_) | (with_reducible refine NX.call (hof) ?_) | ((first | refine NX.call (hsh) ?_ | refine NX.call (hof) ?_)) | fail) | (refine NX.kO ?_; (first | refine NX.callO (hsh) (by simp [allEq]) rfl ?_ | refine NX.callO (hof) (by simp [allEq]) rfl ?_)) | refine NX.k 10 (NX.one Z10 ?_) | refine NX.k 14 (NX.one Z14 ?_) | refine NX.k 15 (NX.one Z15 ?_) | refine NX.k 18 (NX.one Z18 ?_) | refine NX.raw ?_) | refine Thn.exit ?_ | refine Blk.here ?_ | refine Blk.other (by decide) ?_ | refine ⟨.inl rfl, _, RetOk.ev tabOk Zc, ?_⟩ | fail)
    all_goals exact Ze
  | true =>
    by_cases hxy : (0 ≤ x ∧ x < V.length) ∧ (0 ≤ y ∧ y < V.length)
    · have ho := hb rfl
      obtain ⟨b1, b2, b3, b4, b5, b6, b7, b8⟩ := ho.len
      have hbase := ho.few
      have hst := ho.st
      have hru := ho.ru
      clear hb ho
      obtain ⟨⟨x0, x1⟩, ⟨y0, y1⟩⟩ := hxy
      have hp0 : PureCalls Tryz.prog 10 [.c (.sl 0 false []), .c (.sl 0 false [])] (BP true) := PureCalls.weaken (pairs_c hA [] (by simp)) (.cons (PLe.c (ILe.nilM hA _ _ _ _)) (.cons (PLe.c (ILe.nilM hA _ _ _ _)) .nil))
      by_cases hpq : findU V x = findU V y
      · have h1 := one_c0 hA K S R V N M P Q hru x y x0 x1 y0 y1 hpq
        have h3 := refOne_c0 hA K S R V N M P Q hru (by omega) x y x0 x1 y0 y1 hpq
        have h2 := gsame_c hA R V N M P Q (by omega) ⟨by simp only; omega, by simp only; omega, by simp only; omega⟩
        refine PureCalls.of Tryz.func3 rfl (by kernel_rfl) rfl ?_
        try first | refine AOLg.of [] ?_ | refine QSg.of [] ?_
        repeat' (first | (refine AWp.pass ?_; first | refine AWp.seq ?_ | refine AWp.block ?_ | refine AWp.skip ?_ | refine AWp.regG [] Zc ?_ | refine AWp.cond_t rfl ?_ | refine AWp.cond_f rfl ?_ | (refine AWp.cond rfl ?_ ?_ <;> intro hc <;> (try rw [hc]) <;> ((try simp only [zn] at hc) <;> (try simp (disch := omega) only [zz hA, zb, zy, reduceCtorEq, Bool.false_eq_true, Int.reduceLT, Int.reduceLE, Int.reduceNeg] at hc) <;> (try simp only [zw] at hc)) <;> (try (exfalso; omega))) | refine AWp.exit ?_ | refine AWp.ret ⟨.inr rfl, _, RetOk.ev tabOk Zc, ?_⟩) | (refine AOLg.pass ?_; refine AOLg.nx hA tabOk Zc ?_; first | refine NX.done ?_ | refine NX.gt ?_ | refine NX.gf ?_ | (refine NX.gs ?_ ?_ <;> intro hc <;> rw [hc] <;> ((try simp only [zn] at hc) <;> (try simp (disch := omega) only [zz hA, zb, zy, reduceCtorEq, Bool.false_eq_true, Int.reduceLT, Int.reduceLE, Int.reduceNeg] at hc) <;> (try simp only [zw] at hc)) <;> (try (exfalso; omega))) | (refine NX.kC ?_; first | (with_reducible refine NX.call (hsh) ?_) | (with_reducible refine NX.call (hof) ?_) | (with_reducible refine NX.call (h1) ?_) | (with_reducible refine NX.call (h3) ?_) | (with_reducible refine NX.call (h2) ?_) | (with_reducible refine NX.call (hp0) ?_) | ((first | refine NX.call (hsh) ?_ | refine NX.call (hof) ?_ | refine NX.call (h1) ?_ | refine NX.call (h3) ?_ | refine NX.call (h2) ?_ | refine NX.call (hp0) ?_)) | fail) | (refine NX.kO ?_; (first | refine NX.callO (hsh) (by simp [allEq]) rfl ?_ | refine NX.callO (hof) (by simp [allEq]) rfl ?_ | refine NX.callO (h1) (by simp [allEq]) rfl ?_ | refine NX.callO (h3) (by simp [allEq]) rfl ?_ | refine NX.callO (h2) (by simp [allEq]) rfl ?_ | refine NX.callO (hp0) (by simp [allEq]) rfl ?_)) | refine NX.k 10 (NX.one Z10 ?_) | refine NX.k 14 (NX.one Z14 ?_) | refine NX.k 15 (NX.one Z15 ?_) | refine NX.k 18 (NX.one Z18 ?_) | refine NX.raw ?_) | refine Thn.exit ?_ | refine Blk.here ?_ | refine Blk.other (by decide) ?_ | refine ⟨.inl rfl, _, RetOk.ev tabOk Zc, ?_⟩ | fail)
        all_goals exact Ze
      · obtain ⟨first, gone, j⟩ := joined hru x0 x1 y0 y1 hpq
        have hjl := joined_less hru j (find_find hru x0 x1) (find_find hru y0 y1)
        have hjn := joinN_len V R N (findU V x) (findU V y)
        generalize findU V x = p at *
        generalize findU V y = q at *
        obtain ⟨N', hN'⟩ : ∃ N', N' = joinN V R N p q := ⟨_, rfl⟩
        obtain ⟨V', hV'⟩ : ∃ V', V' = joinV V R p q := ⟨_, rfl⟩
        rw [← hV'] at j
        rw [← hN'] at hjn
        have hc1 := one_c1 hA K S hst R V N M P Q hru b1 b2 b3 b5 b6 b7 b8 x y p q first gone V' N' x0 x1 y0 y1 j.px j.qy j.ne hV'.symm hN'.symm j.fp j.go j.g0 j.ru j.p0 j.q0 j.f0 j.len
        have hc2 := refOne_c1 hA K S hst R V N M P Q hru b1 b2 b3 b5 b6 b7 b8 x y p q first gone V' N' x0 x1 y0 y1 j.px j.qy j.ne hV'.symm hN'.symm hjl j.g0 j.ru j.len
        have hlen := j.len
        have hs := gsame_c hA R V' N' M (P.set gone.toNat []) (Q.set gone.toNat []) (by omega) ⟨by simp only; omega, by simp only; omega, by simp only; omega⟩
        have ol := outs_len K V' first (P.getD gone.toNat default) (Q.getD gone.toNat default)
        have hpl : (P.getD gone.toNat default).length ≤ 1000 := b7 _ (by rw [List.getD_eq_getElem?_getD, List.getElem?_eq_getElem (by have := j.g0; omega)]; exact List.getElem_mem _)
        have hql : (Q.getD gone.toNat default).length ≤ 1000 := b8 _ (by rw [List.getD_eq_getElem?_getD, List.getElem?_eq_getElem (by have := j.g0; omega)]; exact List.getElem_mem _)
        have hpr := pairs_c hA (outs K V' first (P.getD gone.toNat default) (Q.getD gone.toNat default)) (by omega)
        generalize outs K V' first (P.getD gone.toNat default) (Q.getD gone.toNat default) = O at *
        generalize P.set gone.toNat [] = P' at *
        generalize Q.set gone.toNat [] = Q' at *
        refine PureCalls.of Tryz.func3 rfl (by kernel_rfl) rfl ?_
        try first | refine AOLg.of [] ?_ | refine QSg.of [] ?_
        repeat' (first | (refine AWp.pass ?_; first | refine AWp.seq ?_ | refine AWp.block ?_ | refine AWp.skip ?_ | refine AWp.regG [] Zc ?_ | refine AWp.cond_t rfl ?_ | refine AWp.cond_f rfl ?_ | (refine AWp.cond rfl ?_ ?_ <;> intro hc <;> (try rw [hc]) <;> ((try simp only [zn] at hc) <;> (try simp (disch := omega) only [zz hA, zb, zy, reduceCtorEq, Bool.false_eq_true, Int.reduceLT, Int.reduceLE, Int.reduceNeg] at hc) <;> (try simp only [zw] at hc)) <;> (try (exfalso; omega))) | refine AWp.exit ?_ | refine AWp.ret ⟨.inr rfl, _, RetOk.ev tabOk Zc, ?_⟩) | (refine AOLg.pass ?_; refine AOLg.nx hA tabOk Zc ?_; first | refine NX.done ?_ | refine NX.gt ?_ | refine NX.gf ?_ | (refine NX.gs ?_ ?_ <;> intro hc <;> rw [hc] <;> ((try simp only [zn] at hc) <;> (try simp (disch := omega) only [zz hA, zb, zy, reduceCtorEq, Bool.false_eq_true, Int.reduceLT, Int.reduceLE, Int.reduceNeg] at hc) <;> (try simp only [zw] at hc)) <;> (try (exfalso; omega))) | (refine NX.kC ?_; first | (with_reducible refine NX.call (hsh) ?_) | (with_reducible refine NX.call (hof) ?_) | (with_reducible refine NX.call (hc1) ?_) | (with_reducible refine NX.call (hc2) ?_) | (with_reducible refine NX.call (hs) ?_) | (with_reducible refine NX.call (hpr) ?_) | ((first | refine NX.call (hsh) ?_ | refine NX.call (hof) ?_ | refine NX.call (hc1) ?_ | refine NX.call (hc2) ?_ | refine NX.call (hs) ?_ | refine NX.call (hpr) ?_)) | fail) | (refine NX.kO ?_; (first | refine NX.callO (hsh) (by simp [allEq]) rfl ?_ | refine NX.callO (hof) (by simp [allEq]) rfl ?_ | refine NX.callO (hc1) (by simp [allEq]) rfl ?_ | refine NX.callO (hc2) (by simp [allEq]) rfl ?_ | refine NX.callO (hs) (by simp [allEq]) rfl ?_ | refine NX.callO (hpr) (by simp [allEq]) rfl ?_)) | refine NX.k 10 (NX.one Z10 ?_) | refine NX.k 14 (NX.one Z14 ?_) | refine NX.k 15 (NX.one Z15 ?_) | refine NX.k 18 (NX.one Z18 ?_) | refine NX.raw ?_) | refine Thn.exit ?_ | refine Blk.here ?_ | refine Blk.other (by decide) ?_ | refine ⟨.inl rfl, _, RetOk.ev tabOk Zc, ?_⟩ | fail)
        all_goals exact Ze
    · clear hb
      refine PureCalls.of Tryz.func3 rfl (by kernel_rfl) rfl ?_
      try first | refine AOLg.of [] ?_ | refine QSg.of [] ?_
      repeat' (first | (refine AWp.pass ?_; first | refine AWp.seq ?_ | refine AWp.block ?_ | refine AWp.skip ?_ | refine AWp.regG [] Zc ?_ | refine AWp.cond_t rfl ?_ | refine AWp.cond_f rfl ?_ | (refine AWp.cond rfl ?_ ?_ <;> intro hc <;> (try rw [hc]) <;> ((try simp only [zn] at hc) <;> (try simp (disch := omega) only [zz hA, zb, zy, reduceCtorEq, Bool.false_eq_true, Int.reduceLT, Int.reduceLE, Int.reduceNeg] at hc) <;> (try simp only [zw] at hc)) <;> (try (exfalso; omega))) | refine AWp.exit ?_ | refine AWp.ret ⟨.inr rfl, _, RetOk.ev tabOk Zc, ?_⟩) | (refine AOLg.pass ?_; refine AOLg.nx hA tabOk Zc ?_; first | refine NX.done ?_ | refine NX.gt ?_ | refine NX.gf ?_ | (refine NX.gs ?_ ?_ <;> intro hc <;> rw [hc] <;> ((try simp only [zn] at hc) <;> (try simp (disch := omega) only [zz hA, zb, zy, reduceCtorEq, Bool.false_eq_true, Int.reduceLT, Int.reduceLE, Int.reduceNeg] at hc) <;> (try simp only [zw] at hc)) <;> (try (exfalso; omega))) | (refine NX.kC ?_; first | (with_reducible refine NX.call (hsh) ?_) | (with_reducible refine NX.call (hof) ?_) | ((first | refine NX.call (hsh) ?_ | refine NX.call (hof) ?_)) | fail) | (refine NX.kO ?_; (first | refine NX.callO (hsh) (by simp [allEq]) rfl ?_ | refine NX.callO (hof) (by simp [allEq]) rfl ?_)) | refine NX.k 10 (NX.one Z10 ?_) | refine NX.k 14 (NX.one Z14 ?_) | refine NX.k 15 (NX.one Z15 ?_) | refine NX.k 18 (NX.one Z18 ?_) | refine NX.raw ?_) | refine Thn.exit ?_ | refine Blk.here ?_ | refine Blk.other (by decide) ?_ | refine ⟨.inl rfl, _, RetOk.ev tabOk Zc, ?_⟩ | fail)
      all_goals exact Ze
end Go.Proofs.YtkkjlmcnfoncdaaGreat.Aw

/- Laws IfgReps and IfgMore. -/
set_option linter.unusedVariables false
set_option linter.unusedSimpArgs false
set_option linter.unusedSectionVars false
namespace Go.Proofs.YtkkjlmcnfoncdaaGreat.Aw
open Go Go.RowKit
set_option maxRecDepth 10000
attribute [local irreducible] AWp AOL QS One AOLg QSg NX QX TRg TX AllO Fin3
variable {A : Ar} (hA : A = real)
include hA
end Go.Proofs.YtkkjlmcnfoncdaaGreat.Aw

/- Law IfgMore. -/
set_option linter.unusedVariables false
set_option linter.unusedSimpArgs false
set_option linter.unusedSectionVars false
namespace Go.Proofs.YtkkjlmcnfoncdaaGreat.Aw
open Go Go.RowKit
set_option maxRecDepth 10000
attribute [local irreducible] AWp AOL QS One AOLg QSg NX QX TRg TX AllO Fin3
variable {A : Ar} (hA : A = real)
include hA
end Go.Proofs.YtkkjlmcnfoncdaaGreat.Aw

/- Graphs out of the row's data; the laws of layer 12, as their rows ask for them. -/
set_option linter.unusedVariables false
set_option linter.unusedSimpArgs false
set_option linter.unusedSectionVars false
namespace Go.Proofs.YtkkjlmcnfoncdaaGreat.Aw
open Go Go.RowKit
set_option maxRecDepth 10000
theorem decSgs {rows : List (List IC)} (h : ∀ r ∈ rows, Dec (.st [.str, .str]) r) : ∃ l : List Sg, rows = hid real (List.map (encG real) l) ∧ FitG l := by
  induction rows with
  | nil => exact ⟨[], rfl, by simp [FitG]⟩
  | cons r rs ih =>
    obtain ⟨l, hl, hb⟩ := ih fun x hx => h x (List.mem_cons_of_mem _ hx)
    obtain ⟨a1, b1, rfl, ⟨n, rfl, hn⟩, a2, b2, rfl, ⟨g, rfl, hg⟩, rfl⟩ := h r List.mem_cons_self
    refine ⟨(n, g) :: l, by rw [hl]; rfl, fun x hx => ?_⟩
    rcases List.mem_cons.1 hx with rfl | hx
    · exact ⟨by show n.size ≤ _; omega, by show g.size ≤ _; omega⟩
    · exact hb x hx
theorem decKeys2 {rows : List (List IC)} (h : ∀ r ∈ rows, Dec (.sl 8 (.int .i64)) r) : ∃ K : List (List Int), rows = hid real (List.map (encK real) K) ∧ ∀ x ∈ K, x.length ≤ 140737488351232 := by
  induction rows with
  | nil => exact ⟨[], rfl, by simp⟩
  | cons r rs ih =>
    obtain ⟨K, hK, hb⟩ := ih fun x hx => h x (List.mem_cons_of_mem _ hx)
    obtain ⟨q, e, h1, h2⟩ := h r List.mem_cons_self
    obtain ⟨l, rfl, _⟩ := decInts h1
    simp only [List.length_map] at h2
    refine ⟨l :: K, by rw [hK, e]; rfl, fun x hx => ?_⟩
    rcases List.mem_cons.1 hx with rfl | hx
    · omega
    · exact hb x hx
def shGraph : List Sh := [.sl 8 (.int .i64), .st shCells, .sl 24 (.sl 8 (.int .i64)), .sl 24 (.sl 8 (.int .i64))]
theorem decGraph {ics : List IC} (h : Decs shGraph ics) : ∃ (R V : List Int) (N : List (Int × Int)) (M : List Int) (P Q : List (List Int)), ics = [.sl 1 false (List.map encI R), .sl 1 false (List.map encI V), .sl 2 false (List.map encN N), .sl 1 false (List.map encI M), .sl 1 false (hid real (List.map (encK real) P)), .sl 1 false (hid real (List.map (encK real) Q))] ∧ FitGr R V N M P Q := by
  obtain ⟨a0, b0, rfl, ⟨r, rfl, h3, h4⟩, a1, b1, rfl, h1, a2, b2, rfl, ⟨r2, e2, g2, k2⟩, a3, b3, rfl, ⟨r3, e3, g3, k3⟩, rfl⟩ := h
  obtain ⟨c, rfl, hf⟩ := decCells h1
  obtain ⟨R, rfl, _⟩ := decInts h3
  obtain ⟨P, rfl, p2⟩ := decKeys2 g2
  obtain ⟨Q, rfl, q2⟩ := decKeys2 g3
  subst e2 e3
  have e1 : (List.map (encK real) P).length * 24 ≤ 140737488351232 := k2
  have e4 : (List.map (encK real) Q).length * 24 ≤ 140737488351232 := k3
  rw [List.length_map] at e1 e4
  simp only [List.length_map] at h4
  exact ⟨R, c.V, c.N, c.M, P, Q, rfl, ⟨by omega, hf.v, hf.n, hf.m, by omega, by omega, p2, q2⟩⟩
def shReps : List Sh := [.sl 32 (.st [.str, .str]), .st shKeyed, .st shGraph, .int .i64, .int .i64]
theorem decReps {ics : List IC} (h : Decs shReps ics) : ∃ (l : List Sg) (K : List (List Int)) (S R V : List Int) (N : List (Int × Int)) (M : List Int) (P Q : List (List Int)) (x y : Int), ics = [.sl 2 false (hid real (List.map (encG real) l)), .sl 1 false (hid real (List.map (encK real) K)), .sl 1 false (hid real (List.map encI S)), .sl 1 false (List.map encI R), .sl 1 false (List.map encI V), .sl 2 false (List.map encN N), .sl 1 false (List.map encI M), .sl 1 false (hid real (List.map (encK real) P)), .sl 1 false (hid real (List.map (encK real) Q)), I x, I y] ∧ FitG l ∧ FitsK K S ∧ FitGr R V N M P Q := by
  obtain ⟨a0, b0, rfl, ⟨r, rfl, h0, _⟩, a1, b1, rfl, h1, a2, b2, rfl, h2, a3, b3, rfl, ⟨x, rfl, _⟩, a4, b4, rfl, ⟨y, rfl, _⟩, rfl⟩ := h
  obtain ⟨l, rfl, hl⟩ := decSgs h0
  obtain ⟨K, S, rfl, hf⟩ := decKeyed h1
  obtain ⟨R, V, N, M, P, Q, rfl, hg⟩ := decGraph h2
  exact ⟨l, K, S, R, V, N, M, P, Q, x, y, rfl, hl, hf, hg⟩
def shMore : List Sh := [.sl 32 (.st [.str, .str]), .st shKeyed, .st shGraph, .int .u8]
variable {A : Ar} (hA : A = real)
include hA
end Go.Proofs.YtkkjlmcnfoncdaaGreat.Aw

/- Law IfgOnes, as its row asks for it. -/
set_option linter.unusedVariables false
set_option linter.unusedSectionVars false
namespace Go.Proofs.YtkkjlmcnfoncdaaGreat.Aw
open Go Go.RowKit
variable {A : Ar} (hA : A = real)
include hA
theorem ionesL (l : List Sg) (hl : FitG l) (K : List (List Int)) (S : List Int) (hk : FitsK K S) (R V : List Int) (N : List (Int × Int)) (M : List Int) (P Q : List (List Int)) (hg : FitGr R V N M P Q) (x y : Int) :
    PureCalls Tryz.prog 3 [.agg [.sl 2 false (hid A (List.map (encG A) l)), .sl 1 false (hid A (List.map (encK A) K)), .sl 1 false (hid A (List.map encI S)), .sl 1 false (List.map encI R), .sl 1 false (List.map encI V), .sl 2 false (List.map encN N), .sl 1 false (List.map encI M), .sl 1 false (hid A (List.map (encK A) P)), .sl 1 false (hid A (List.map (encK A) Q)), I x, I y]] (BP true) := by
  have := iones_law hA l hl K S hk R V N M P Q hg x y
  rwa [hid_eq hA (List.map encI R), hid_eq hA (List.map encI V), hid_eq hA (List.map encN N), hid_eq hA (List.map encI M)] at this
end Go.Proofs.YtkkjlmcnfoncdaaGreat.Aw
