/- Texts of the proof, put together: the abstract walk, contracts of the functions that the statement reaches, plain laws, part 6 of 6. -/
import Derived.Test.YtkkjlmcnfoncdaaCBe
import Derived.Test.YtkkjlmcnfoncdaaCBd
set_option linter.unusedVariables false
set_option linter.unusedSimpArgs false
set_option linter.unusedSectionVars false
namespace Go.Proofs.Ytkkjlmcnfoncdaa.Aw
open Go Go.RowKit
set_option maxRecDepth 10000
attribute [local irreducible] AWp AOL QS One AOLg QSg NX QX TRg TX AllO Fin3
theorem nx_two : nextM K4 [0, 1] [[], [2]] [[], [2]] 1 = [0] ∧ nextM K4 [0, 1] [[], [2]] [[], [2]] 0 = [1] := by
  have e : edgesM K4 [0, 1] [[], [2]] [[], [2]] 2 = [(1, 0), (0, 1)] := by decide +kernel
  have h1 : outM [(1, 0), (0, 1)] 1 = [0] := by decide +kernel
  have h0 : outM [(1, 0), (0, 1)] 0 = [1] := by decide +kernel
  unfold nextM
  rw [show ([0, 1] : List Int).length = 2 from rfl, e, h1, h0]
  refine ⟨?_, ?_⟩
  · rw [show sortZ [0] = [0] by simp [sortZ]]; decide +kernel
  · rw [show sortZ [1] = [1] by simp [sortZ]]; decide +kernel
theorem path_two {nx : Int → List Int} (h : nx 1 = [0]) : pathM nx 1 0 5 = [1, 0] := by
  have hs : sortZ [0] = [0] := by simp [sortZ]
  have l0 : levP nx 1 0 = ([(1, 1)], [1]) := rfl
  have l1 : levP nx 1 1 = ([(1, 1), (0, 1)], [0]) := by
    simp only [levP, List.foldl_cons, List.foldl_nil, visP, h, inP]
    rw [show (mapF [((1 : Int), (1 : Int))] 0).isSome = false by decide]
    simp [hs]
  have g0 : goesP nx 1 0 5 0 = true := by unfold goesP; rw [l0]; decide +kernel
  have g1 : goesP nx 1 0 5 1 = false := by unfold goesP; rw [l1]; decide +kernel
  have hst : stopP nx 1 0 5 5 0 = 1 := by
    simp only [stopP, g0, g1, if_true, Nat.zero_add]
    rfl
  have hf : finP nx 1 0 5 = [(1, 1), (0, 1)] := by
    unfold finP
    rw [show (5 : Int).toNat = 5 from rfl, hst, l1]
  unfold pathM
  rw [hf]
  decide +kernel
variable {A : Ar} (hA : A = real)
include hA
theorem shown13_c : PureCalls Try.prog 18 [] (BP true) := by
  have hl := refLay_c hA K4 (by decide +kernel)
  have hn := refNew12_c hA
  obtain ⟨z1, x1, q1, b1, a1⟩ := refAdd_c3 hA K4 (layM K4) k4_ok [] [0, 1] [(-1, 0), (-1, 0)] [] [[], []] [[], []] v2_right (by decide) (by decide) rfl rfl (by decide) (by decide) 2 3 2 3 0 1 (by decide +kernel) (by decide +kernel) (by decide +kernel) (by decide +kernel) (by decide) (by decide) (by decide) (by decide +kernel) (by decide +kernel) (by decide)
  rw [show (([[], []] : List (List Int)).set (Int.toNat 1) (layI (([[], []] : List (List Int)).getD (Int.toNat 1) default) 2)) = [[], [2]] by decide +kernel] at a1
  obtain ⟨z2, x2, q2, b2, a2⟩ := refAdd_c2 hA K4 (layM K4) k4_ok [] [0, 1] [(-1, 0), (-1, 0)] [] [[], [2]] [[], []] v2_right (by decide) (by decide) rfl rfl (by decide) (by decide) 3 2 3 2 1 0 (by decide +kernel) (by decide +kernel) (by decide +kernel) (by decide +kernel) (by decide) (by decide) (by decide) (by decide) (by decide +kernel)
  rw [show (([[], []] : List (List Int)).set (Int.toNat 1) (layI (([[], []] : List (List Int)).getD (Int.toNat 1) default) 2)) = [[], [2]] by decide +kernel] at a2
  have hp := path_c hA K4 (layM K4) k4_ok [] [0, 1] [(-1, 0), (-1, 0)] [] [[], [2]] [[], [2]] v2_right (by decide) rfl rfl (by decide) (by decide) 1 0 (by decide) (by decide) (by decide) (by decide) 5 (by decide) (by decide)
  have hx := next_c hA K4 (layM K4) k4_ok [] [0, 1] [(-1, 0), (-1, 0)] [] [[], [2]] [[], [2]] v2_right (by decide) rfl rfl (by decide) (by decide) 0 (by decide) (by decide)
  rw [v2_find.1, v2_find.2, path_two (by unfold nxG; rw [v2_find.2]; exact nx_two.1)] at hp
  rw [v2_find.1, nx_two.2] at hx
  have e1 : ([1, 0] : List Int).length = 2 := rfl
  have e2 : ([1] : List Int).length = 1 := rfl
  have e3 : ([1, 0] : List Int).getD (Int.toNat 0) default = 1 := rfl
  have e4 : ([1, 0] : List Int).getD (Int.toNat 1) default = 0 := rfl
  have e5 : ([1] : List Int).getD (Int.toNat 0) default = 1 := rfl
  refine PureCalls.of Try.func18 rfl (by kernel_rfl) rfl ?_
  try first | refine AOLg.of [15] ?_ | refine QSg.of [15] ?_
  repeat' (first | (refine AWp.pass ?_; first | refine AWp.seq ?_ | refine AWp.block ?_ | refine AWp.skip ?_ | refine AWp.regG [15] Zc ?_ | refine AWp.cond_t rfl ?_ | refine AWp.cond_f rfl ?_ | (refine AWp.cond rfl ?_ ?_ <;> intro hc <;> (try rw [hc]) <;> ((try simp only [zn] at hc) <;> (try simp (disch := omega) only [zz hA, zb, zy, reduceCtorEq, Bool.false_eq_true, Int.reduceLT, Int.reduceLE, Int.reduceNeg] at hc) <;> (try simp only [zw] at hc)) <;> (try (exfalso; omega))) | refine AWp.exit ?_ | refine AWp.ret ⟨.inr rfl, _, RetOk.ev tabOk Zc, ?_⟩ | refine AWp.drawVG [15] rfl (by decide +kernel) Zc ?_) | (refine AOLg.pass ?_; refine AOLg.nx hA tabOk Zc ?_; first | refine NX.done ?_ | refine NX.gt ?_ | refine NX.gf ?_ | (refine NX.gs ?_ ?_ <;> intro hc <;> rw [hc] <;> ((try simp only [zn] at hc) <;> (try simp (disch := omega) only [zz hA, zb, zy, reduceCtorEq, Bool.false_eq_true, Int.reduceLT, Int.reduceLE, Int.reduceNeg] at hc) <;> (try simp only [zw] at hc)) <;> (try (exfalso; omega))) | (refine NX.kC ?_; first | (with_reducible refine NX.call (hl) ?_) | (with_reducible refine NX.call (hn) ?_) | (with_reducible refine NX.call (a1) ?_) | (with_reducible refine NX.call (a2) ?_) | (with_reducible refine NX.call (hp) ?_) | (with_reducible refine NX.call (hx) ?_) | ((first | refine NX.call (hl) ?_ | refine NX.call (hn) ?_ | refine NX.call (a1) ?_ | refine NX.call (a2) ?_ | refine NX.call (hp) ?_ | refine NX.call (hx) ?_)) | fail) | (refine NX.kO ?_; (first | refine NX.callO (hl) (by simp [allEq]) rfl ?_ | refine NX.callO (hn) (by simp [allEq]) rfl ?_ | refine NX.callO (a1) (by simp [allEq]) rfl ?_ | refine NX.callO (a2) (by simp [allEq]) rfl ?_ | refine NX.callO (hp) (by simp [allEq]) rfl ?_ | refine NX.callO (hx) (by simp [allEq]) rfl ?_)) | refine NX.k 1 (NX.one Z1 ?_) | refine NX.k 8 (NX.one Z8 ?_) | refine NX.k 10 (NX.one Z10 ?_) | refine NX.k 14 (NX.one Z14 ?_) | refine NX.k 15 (NX.one Z15 ?_) | refine NX.k 17 (NX.one Z17 ?_) | (refine NX.one (One.weakE (One.weakX (One.ev hA tabOk Zc) (k4_rows hA))) ?_) | (refine NX.one (One.buildArr tabOk rfl rfl rfl rfl rfl rfl) ?_) | refine NX.raw ?_) | (refine TRg.pass ?_; refine TRg.nx hA tabOk Zc ?_; first | refine TX.done ?_ | refine TX.gt ?_ | refine TX.gf ?_ | (refine TX.gs ?_ ?_ <;> intro hc <;> rw [hc] <;> ((try simp only [zn] at hc) <;> (try simp (disch := omega) only [zz hA, zb, zy, reduceCtorEq, Bool.false_eq_true, Int.reduceLT, Int.reduceLE, Int.reduceNeg] at hc) <;> (try simp only [zw] at hc)) <;> (try (exfalso; omega))) | (refine TX.kC ?_; first | (with_reducible refine TX.call (hl) ?_) | (with_reducible refine TX.call (hn) ?_) | (with_reducible refine TX.call (a1) ?_) | (with_reducible refine TX.call (a2) ?_) | (with_reducible refine TX.call (hp) ?_) | (with_reducible refine TX.call (hx) ?_) | ((first | refine TX.call (hl) ?_ | refine TX.call (hn) ?_ | refine TX.call (a1) ?_ | refine TX.call (a2) ?_ | refine TX.call (hp) ?_ | refine TX.call (hx) ?_)) | fail) | (refine TX.kO ?_; (first | refine TX.callO (hl) (by simp [allEq]) rfl ?_ | refine TX.callO (hn) (by simp [allEq]) rfl ?_ | refine TX.callO (a1) (by simp [allEq]) rfl ?_ | refine TX.callO (a2) (by simp [allEq]) rfl ?_ | refine TX.callO (hp) (by simp [allEq]) rfl ?_ | refine TX.callO (hx) (by simp [allEq]) rfl ?_)) | refine TX.k 1 (TX.one Z1 ?_) | refine TX.k 8 (TX.one Z8 ?_) | refine TX.k 10 (TX.one Z10 ?_) | refine TX.k 14 (TX.one Z14 ?_) | refine TX.k 15 (TX.one Z15 ?_) | refine TX.k 17 (TX.one Z17 ?_) | (refine TX.one (One.weakE (One.weakX (One.ev hA tabOk Zc) (k4_rows hA))) ?_) | (refine TX.one (One.buildArr tabOk rfl rfl rfl rfl rfl rfl) ?_) | refine TX.raw ?_) | refine Fin3.of Zc (by repeat' (first | exact True.intro | exact rfl | refine And.intro ?_ ?_)) ?_ ?_ | (refine AllO.pass ?_; first | exact AllO.nil | (refine AllO.cons (One.ev hA tabOk ?_) ?_ <;> (first | refine AllO.pass ?_ | ((conv => lhs; cbv); done))) | (refine AllO.cons (One.skipB ?_) ?_ <;> (first | refine AllO.pass ?_ | ((conv => lhs; cbv); done))) | ((with_reducible refine AllO.call Zc (hl) ?_ ?_) <;> (first | refine AllO.pass ?_ | exact rfl | exact Zd)) | ((with_reducible refine AllO.call Zc (hn) ?_ ?_) <;> (first | refine AllO.pass ?_ | exact rfl | exact Zd)) | ((with_reducible refine AllO.call Zc (a1) ?_ ?_) <;> (first | refine AllO.pass ?_ | exact rfl | exact Zd)) | ((with_reducible refine AllO.call Zc (a2) ?_ ?_) <;> (first | refine AllO.pass ?_ | exact rfl | exact Zd)) | ((with_reducible refine AllO.call Zc (hp) ?_ ?_) <;> (first | refine AllO.pass ?_ | exact rfl | exact Zd)) | ((with_reducible refine AllO.call Zc (hx) ?_ ?_) <;> (first | refine AllO.pass ?_ | exact rfl | exact Zd)) | refine AllO.consX ZX rfl rfl ?_ | ((refine AllO.consX (One.weakE (One.weakX (One.ev hA tabOk Zc) (k4_rows hA))) rfl rfl ?_) <;> (first | refine AllO.pass ?_ | exact Zd)) | ((refine AllO.consX (One.buildArr tabOk rfl rfl rfl rfl rfl rfl) rfl rfl ?_) <;> (first | refine AllO.pass ?_ | exact Zd))) | refine Thn.exit ?_ | refine Blk.here ?_ | refine Blk.other (by decide) ?_ | refine ⟨.inl rfl, _, RetOk.ev tabOk Zc, ?_⟩ | fail)
  all_goals first | (exfalso; omega) | (refine rPV_then (by conv => lhs; cbv) ?_; rfl) | (refine rPV_then (by conv => lhs; cbv) ?_; simp only [rhid hA]; simp [hA, real]; done) | fail
end Go.Proofs.Ytkkjlmcnfoncdaa.Aw

namespace Go.Proofs.Ytkkjlmcnfoncdaa.Aw
open Go Go.RowKit
end Go.Proofs.Ytkkjlmcnfoncdaa.Aw

namespace Go.Proofs.Ytkkjlmcnfoncdaa.Aw
open Go Go.RowKit
set_option maxRecDepth 10000
attribute [local irreducible] AWp AOL QS One AOLg QSg NX QX TRg TX AllO Fin3
def thereB (n : Nat) (l : List Int) : Bool := allB l.length fun i => decide (0 ≤ l.getD i default ∧ l.getD i default < (n : Int))
variable {A : Ar} (hA : A = real)
include hA
theorem there_c (R V : List Int) (N : List (Int × Int)) (M : List Int) (P Q : List (List Int)) (l : List Int) (hl : l.length ≤ 1000000) :
    PureCalls Try.prog 20 [grP A R V N M P Q, intsP A l] (BP (hid A (thereB V.length l))) := by
  refine PureCalls.of Try.func20 rfl (by kernel_rfl) rfl ?_
  try first | refine AOLg.of [] ?_ | refine QSg.of [] ?_
  repeat' (first | (refine AWp.pass ?_; first | refine AWp.seq ?_ | refine AWp.block ?_ | refine AWp.skip ?_ | refine AWp.regG [] Zc ?_ | refine AWp.cond_t rfl ?_ | refine AWp.cond_f rfl ?_ | (refine AWp.cond rfl ?_ ?_ <;> intro hc <;> (try rw [hc]) <;> ((try simp only [zn] at hc) <;> (try simp (disch := omega) only [zz hA, zb, zy, reduceCtorEq, Bool.false_eq_true, Int.reduceLT, Int.reduceLE, Int.reduceNeg] at hc) <;> (try simp only [zw] at hc)) <;> (try (exfalso; omega))) | refine AWp.exit ?_ | refine AWp.ret ⟨.inr rfl, _, RetOk.ev tabOk Zc, ?_⟩ | refine AWp.drawVG [] rfl (by decide +kernel) Zc ?_) | (refine AOLg.pass ?_; refine AOLg.nx hA tabOk Zc ?_; first | refine NX.done ?_ | refine NX.gt ?_ | refine NX.gf ?_ | (refine NX.gs ?_ ?_ <;> intro hc <;> rw [hc] <;> ((try simp only [zn] at hc) <;> (try simp (disch := omega) only [zz hA, zb, zy, reduceCtorEq, Bool.false_eq_true, Int.reduceLT, Int.reduceLE, Int.reduceNeg] at hc) <;> (try simp only [zw] at hc)) <;> (try (exfalso; omega))) | refine NX.k 1 (NX.one Z1 ?_) | refine NX.k 7 (NX.one Z7 ?_) | refine NX.k 10 (NX.one Z10 ?_) | refine NX.k 14 (NX.one Z14 ?_) | refine NX.k 18 (NX.one Z18 ?_) | refine NX.raw ?_) | (refine TRg.pass ?_; refine TRg.nx hA tabOk Zc ?_; first | refine TX.done ?_ | refine TX.gt ?_ | refine TX.gf ?_ | (refine TX.gs ?_ ?_ <;> intro hc <;> rw [hc] <;> ((try simp only [zn] at hc) <;> (try simp (disch := omega) only [zz hA, zb, zy, reduceCtorEq, Bool.false_eq_true, Int.reduceLT, Int.reduceLE, Int.reduceNeg] at hc) <;> (try simp only [zw] at hc)) <;> (try (exfalso; omega))) | refine TX.k 1 (TX.one Z1 ?_) | refine TX.k 7 (TX.one Z7 ?_) | refine TX.k 10 (TX.one Z10 ?_) | refine TX.k 14 (TX.one Z14 ?_) | refine TX.k 18 (TX.one Z18 ?_) | refine TX.raw ?_) | refine Fin3.of Zc (by repeat' (first | exact True.intro | exact rfl | refine And.intro ?_ ?_)) ?_ ?_ | (refine AllO.pass ?_; first | exact AllO.nil | (refine AllO.cons (One.ev hA tabOk ?_) ?_ <;> (first | refine AllO.pass ?_ | ((conv => lhs; cbv); done))) | (refine AllO.cons (One.skipB ?_) ?_ <;> (first | refine AllO.pass ?_ | ((conv => lhs; cbv); done))) | refine AllO.consX ZX rfl rfl ?_) | refine Thn.exit ?_ | refine Blk.here ?_ | refine Blk.other (by decide) ?_ | refine ⟨.inl rfl, _, RetOk.ev tabOk Zc, ?_⟩ | fail)
  refine AWp.loopU (fun k : Nat => [(5, .ic (.lit (.int .i64 (hid A (cN k)))))]) (fun _ => _) (fun k => l.length - k) (fun k => k ≤ l.length ∧ ∀ j, j < k → 0 ≤ l.getD j default ∧ l.getD j default < (V.length : Int)) 0 (by conv => lhs; cbv) ⟨Nat.zero_le _, by simp⟩ (by ((repeat' (first | exact subE.nil | refine subE.cons rfl ?_ | refine subE.int rfl ?_ ?_ | refine subE.bool rfl ?_ ?_ | refine subE.str rfl ?_ ?_ | refine subE.sl rfl ?_ ?_))) <;> simp [hA, real, hid, cN]) rfl ?_
  rintro k ⟨hk, hall⟩
  by_cases hlt : k < l.length
  · by_cases hok : 0 ≤ l.getD k default ∧ l.getD k default < (V.length : Int)
    · try first | refine AOLg.of [] ?_ | refine QSg.of [] ?_
      repeat' (first | (refine AWp.pass ?_; first | refine AWp.seq ?_ | refine AWp.block ?_ | refine AWp.skip ?_ | refine AWp.regG [] Zc ?_ | refine AWp.cond_t rfl ?_ | refine AWp.cond_f rfl ?_ | (refine AWp.cond rfl ?_ ?_ <;> intro hc <;> (try rw [hc]) <;> ((try simp only [zn] at hc) <;> (try simp (disch := omega) only [zz hA, zb, zy, reduceCtorEq, Bool.false_eq_true, Int.reduceLT, Int.reduceLE, Int.reduceNeg] at hc) <;> (try simp only [zw] at hc)) <;> (try (exfalso; omega))) | refine AWp.exit ?_ | refine AWp.ret ⟨.inr rfl, _, RetOk.ev tabOk Zc, ?_⟩ | refine AWp.drawVG [] rfl (by decide +kernel) Zc ?_) | (refine AOLg.pass ?_; refine AOLg.nx hA tabOk Zc ?_; first | refine NX.done ?_ | refine NX.gt ?_ | refine NX.gf ?_ | (refine NX.gs ?_ ?_ <;> intro hc <;> rw [hc] <;> ((try simp only [zn] at hc) <;> (try simp (disch := omega) only [zz hA, zb, zy, reduceCtorEq, Bool.false_eq_true, Int.reduceLT, Int.reduceLE, Int.reduceNeg] at hc) <;> (try simp only [zw] at hc)) <;> (try (exfalso; omega))) | refine NX.k 1 (NX.one Z1 ?_) | refine NX.k 7 (NX.one Z7 ?_) | refine NX.k 10 (NX.one Z10 ?_) | refine NX.k 14 (NX.one Z14 ?_) | refine NX.k 18 (NX.one Z18 ?_) | refine NX.raw ?_) | (refine TRg.pass ?_; refine TRg.nx hA tabOk Zc ?_; first | refine TX.done ?_ | refine TX.gt ?_ | refine TX.gf ?_ | (refine TX.gs ?_ ?_ <;> intro hc <;> rw [hc] <;> ((try simp only [zn] at hc) <;> (try simp (disch := omega) only [zz hA, zb, zy, reduceCtorEq, Bool.false_eq_true, Int.reduceLT, Int.reduceLE, Int.reduceNeg] at hc) <;> (try simp only [zw] at hc)) <;> (try (exfalso; omega))) | refine TX.k 1 (TX.one Z1 ?_) | refine TX.k 7 (TX.one Z7 ?_) | refine TX.k 10 (TX.one Z10 ?_) | refine TX.k 14 (TX.one Z14 ?_) | refine TX.k 18 (TX.one Z18 ?_) | refine TX.raw ?_) | refine Fin3.of Zc (by repeat' (first | exact True.intro | exact rfl | refine And.intro ?_ ?_)) ?_ ?_ | (refine AllO.pass ?_; first | exact AllO.nil | (refine AllO.cons (One.ev hA tabOk ?_) ?_ <;> (first | refine AllO.pass ?_ | ((conv => lhs; cbv); done))) | (refine AllO.cons (One.skipB ?_) ?_ <;> (first | refine AllO.pass ?_ | ((conv => lhs; cbv); done))) | refine AllO.consX ZX rfl rfl ?_) | refine Thn.exit ?_ | refine Blk.here ?_ | refine Blk.other (by decide) ?_ | refine ⟨.inl rfl, _, RetOk.ev tabOk Zc, ?_⟩ | fail)
      all_goals try (exfalso; omega)
      refine ⟨k + 1, ?_, ?_, rfl, rfl, ?_, Zk⟩ <;> (try omega)
      repeat' (first | exact subE.nil | refine subE.cons rfl ?_ | refine subE.int rfl ?_ ?_ | refine subE.bool rfl ?_ ?_ | refine subE.str rfl ?_ ?_ | refine subE.sl rfl ?_ ?_)
      all_goals first | exact Zd | skip
      refine ⟨by omega, fun j hj => ?_⟩
      rcases Nat.lt_or_ge j k with h | h
      · exact hall j h
      · obtain rfl : j = k := by omega
        exact hok
    · have hf : thereB V.length l = false := by
        unfold thereB
        cases h : allB l.length _ with
        | false => rfl
        | true => exact absurd (by simpa using allB_get h hlt) hok
      rw [hf]
      try first | refine AOLg.of [] ?_ | refine QSg.of [] ?_
      repeat' (first | (refine AWp.pass ?_; first | refine AWp.seq ?_ | refine AWp.block ?_ | refine AWp.skip ?_ | refine AWp.regG [] Zc ?_ | refine AWp.cond_t rfl ?_ | refine AWp.cond_f rfl ?_ | (refine AWp.cond rfl ?_ ?_ <;> intro hc <;> (try rw [hc]) <;> ((try simp only [zn] at hc) <;> (try simp (disch := omega) only [zz hA, zb, zy, reduceCtorEq, Bool.false_eq_true, Int.reduceLT, Int.reduceLE, Int.reduceNeg] at hc) <;> (try simp only [zw] at hc)) <;> (try (exfalso; omega))) | refine AWp.exit ?_ | refine AWp.ret ⟨.inr rfl, _, RetOk.ev tabOk Zc, ?_⟩ | refine AWp.drawVG [] rfl (by decide +kernel) Zc ?_) | (refine AOLg.pass ?_; refine AOLg.nx hA tabOk Zc ?_; first | refine NX.done ?_ | refine NX.gt ?_ | refine NX.gf ?_ | (refine NX.gs ?_ ?_ <;> intro hc <;> rw [hc] <;> ((try simp only [zn] at hc) <;> (try simp (disch := omega) only [zz hA, zb, zy, reduceCtorEq, Bool.false_eq_true, Int.reduceLT, Int.reduceLE, Int.reduceNeg] at hc) <;> (try simp only [zw] at hc)) <;> (try (exfalso; omega))) | refine NX.k 1 (NX.one Z1 ?_) | refine NX.k 7 (NX.one Z7 ?_) | refine NX.k 10 (NX.one Z10 ?_) | refine NX.k 14 (NX.one Z14 ?_) | refine NX.k 18 (NX.one Z18 ?_) | refine NX.raw ?_) | (refine TRg.pass ?_; refine TRg.nx hA tabOk Zc ?_; first | refine TX.done ?_ | refine TX.gt ?_ | refine TX.gf ?_ | (refine TX.gs ?_ ?_ <;> intro hc <;> rw [hc] <;> ((try simp only [zn] at hc) <;> (try simp (disch := omega) only [zz hA, zb, zy, reduceCtorEq, Bool.false_eq_true, Int.reduceLT, Int.reduceLE, Int.reduceNeg] at hc) <;> (try simp only [zw] at hc)) <;> (try (exfalso; omega))) | refine TX.k 1 (TX.one Z1 ?_) | refine TX.k 7 (TX.one Z7 ?_) | refine TX.k 10 (TX.one Z10 ?_) | refine TX.k 14 (TX.one Z14 ?_) | refine TX.k 18 (TX.one Z18 ?_) | refine TX.raw ?_) | refine Fin3.of Zc (by repeat' (first | exact True.intro | exact rfl | refine And.intro ?_ ?_)) ?_ ?_ | (refine AllO.pass ?_; first | exact AllO.nil | (refine AllO.cons (One.ev hA tabOk ?_) ?_ <;> (first | refine AllO.pass ?_ | ((conv => lhs; cbv); done))) | (refine AllO.cons (One.skipB ?_) ?_ <;> (first | refine AllO.pass ?_ | ((conv => lhs; cbv); done))) | refine AllO.consX ZX rfl rfl ?_) | refine Thn.exit ?_ | refine Blk.here ?_ | refine Blk.other (by decide) ?_ | refine ⟨.inl rfl, _, RetOk.ev tabOk Zc, ?_⟩ | fail)
      all_goals try (exfalso; omega)
      all_goals (refine rPV_then (by conv => lhs; cbv) ?_; simp only [hid_eq hA])
  · have hf : thereB V.length l = true := by
      unfold thereB
      exact allB_t fun j hj => by simpa using hall j (by omega)
    rw [hf]
    try first | refine AOLg.of [] ?_ | refine QSg.of [] ?_
    repeat' (first | (refine AWp.pass ?_; first | refine AWp.seq ?_ | refine AWp.block ?_ | refine AWp.skip ?_ | refine AWp.regG [] Zc ?_ | refine AWp.cond_t rfl ?_ | refine AWp.cond_f rfl ?_ | (refine AWp.cond rfl ?_ ?_ <;> intro hc <;> (try rw [hc]) <;> ((try simp only [zn] at hc) <;> (try simp (disch := omega) only [zz hA, zb, zy, reduceCtorEq, Bool.false_eq_true, Int.reduceLT, Int.reduceLE, Int.reduceNeg] at hc) <;> (try simp only [zw] at hc)) <;> (try (exfalso; omega))) | refine AWp.exit ?_ | refine AWp.ret ⟨.inr rfl, _, RetOk.ev tabOk Zc, ?_⟩ | refine AWp.drawVG [] rfl (by decide +kernel) Zc ?_) | (refine AOLg.pass ?_; refine AOLg.nx hA tabOk Zc ?_; first | refine NX.done ?_ | refine NX.gt ?_ | refine NX.gf ?_ | (refine NX.gs ?_ ?_ <;> intro hc <;> rw [hc] <;> ((try simp only [zn] at hc) <;> (try simp (disch := omega) only [zz hA, zb, zy, reduceCtorEq, Bool.false_eq_true, Int.reduceLT, Int.reduceLE, Int.reduceNeg] at hc) <;> (try simp only [zw] at hc)) <;> (try (exfalso; omega))) | refine NX.k 1 (NX.one Z1 ?_) | refine NX.k 7 (NX.one Z7 ?_) | refine NX.k 10 (NX.one Z10 ?_) | refine NX.k 14 (NX.one Z14 ?_) | refine NX.k 18 (NX.one Z18 ?_) | refine NX.raw ?_) | (refine TRg.pass ?_; refine TRg.nx hA tabOk Zc ?_; first | refine TX.done ?_ | refine TX.gt ?_ | refine TX.gf ?_ | (refine TX.gs ?_ ?_ <;> intro hc <;> rw [hc] <;> ((try simp only [zn] at hc) <;> (try simp (disch := omega) only [zz hA, zb, zy, reduceCtorEq, Bool.false_eq_true, Int.reduceLT, Int.reduceLE, Int.reduceNeg] at hc) <;> (try simp only [zw] at hc)) <;> (try (exfalso; omega))) | refine TX.k 1 (TX.one Z1 ?_) | refine TX.k 7 (TX.one Z7 ?_) | refine TX.k 10 (TX.one Z10 ?_) | refine TX.k 14 (TX.one Z14 ?_) | refine TX.k 18 (TX.one Z18 ?_) | refine TX.raw ?_) | refine Fin3.of Zc (by repeat' (first | exact True.intro | exact rfl | refine And.intro ?_ ?_)) ?_ ?_ | (refine AllO.pass ?_; first | exact AllO.nil | (refine AllO.cons (One.ev hA tabOk ?_) ?_ <;> (first | refine AllO.pass ?_ | ((conv => lhs; cbv); done))) | (refine AllO.cons (One.skipB ?_) ?_ <;> (first | refine AllO.pass ?_ | ((conv => lhs; cbv); done))) | refine AllO.consX ZX rfl rfl ?_) | refine Thn.exit ?_ | refine Blk.here ?_ | refine Blk.other (by decide) ?_ | refine ⟨.inl rfl, _, RetOk.ev tabOk Zc, ?_⟩ | fail)
    all_goals try (exfalso; omega)
    all_goals (refine rPV_then (by conv => lhs; cbv) ?_; simp only [hid_eq hA])
set_option maxHeartbeats 2000000 in
theorem of13_c (l : List Sg) (hl : FitG l) (K : List (List Int)) (S : List Int) (hk : FitsK K S) (R V : List Int) (N : List (Int × Int)) (M : List Int) (P Q : List (List Int)) (hg : FitGr R V N M P Q) :
    ∃ b : Bool, PureCalls Try.prog 19 [slP A 2 (encG A) l, keyedPV A K S, grP A R V N M P Q] (BP b) ∧ (b = true → OfG l K S R V N M P Q ∧ V.length ≤ 40) := by
  obtain ⟨k1, k2, k3⟩ := hk
  by_cases h64 : l.length ≤ 64
  · have c1 := sigRight_c hA l hl
    cases e1 : rightG l with
    | false =>
      rw [e1, hid_eq hA (α := Bool)] at c1
      refine ⟨false, ?_, fun h => by cases h⟩
      refine PureCalls.of Try.func19 rfl (by kernel_rfl) rfl ?_
      try first | refine AOLg.of [] ?_ | refine QSg.of [] ?_
      repeat' (first | (refine AWp.pass ?_; first | refine AWp.seq ?_ | refine AWp.block ?_ | refine AWp.skip ?_ | refine AWp.regG [] Zc ?_ | refine AWp.cond_t rfl ?_ | refine AWp.cond_f rfl ?_ | (refine AWp.cond rfl ?_ ?_ <;> intro hc <;> (try rw [hc]) <;> ((try simp only [zn] at hc) <;> (try simp (disch := omega) only [zz hA, zb, zy, reduceCtorEq, Bool.false_eq_true, Int.reduceLT, Int.reduceLE, Int.reduceNeg] at hc) <;> (try simp only [zw] at hc)) <;> (try (exfalso; omega))) | refine AWp.exit ?_ | refine AWp.ret ⟨.inr rfl, _, RetOk.ev tabOk Zc, ?_⟩) | (refine AOLg.pass ?_; refine AOLg.nx hA tabOk Zc ?_; first | refine NX.done ?_ | refine NX.gt ?_ | refine NX.gf ?_ | (refine NX.gs ?_ ?_ <;> intro hc <;> rw [hc] <;> ((try simp only [zn] at hc) <;> (try simp (disch := omega) only [zz hA, zb, zy, reduceCtorEq, Bool.false_eq_true, Int.reduceLT, Int.reduceLE, Int.reduceNeg] at hc) <;> (try simp only [zw] at hc)) <;> (try (exfalso; omega))) | (refine NX.kC ?_; first | (with_reducible refine NX.call (c1) ?_) | ((first | refine NX.call (c1) ?_)) | fail) | (refine NX.kO ?_; (first | refine NX.callO (c1) (by simp [allEq]) rfl ?_)) | refine NX.k 10 (NX.one Z10 ?_) | refine NX.k 14 (NX.one Z14 ?_) | refine NX.k 18 (NX.one Z18 ?_) | refine NX.raw ?_) | refine Thn.exit ?_ | refine Blk.here ?_ | refine Blk.other (by decide) ?_ | refine ⟨.inl rfl, _, RetOk.ev tabOk Zc, ?_⟩ | fail)
      all_goals exact Ze
    | true =>
      rw [e1, hid_eq hA (α := Bool)] at c1
      have c2 := refFew_c hA K S k1 k2 k3
      cases e2 : fewM K S with
      | false =>
        rw [e2, hid_eq hA (α := Bool)] at c2
        refine ⟨false, ?_, fun h => by cases h⟩
        refine PureCalls.of Try.func19 rfl (by kernel_rfl) rfl ?_
        try first | refine AOLg.of [] ?_ | refine QSg.of [] ?_
        repeat' (first | (refine AWp.pass ?_; first | refine AWp.seq ?_ | refine AWp.block ?_ | refine AWp.skip ?_ | refine AWp.regG [] Zc ?_ | refine AWp.cond_t rfl ?_ | refine AWp.cond_f rfl ?_ | (refine AWp.cond rfl ?_ ?_ <;> intro hc <;> (try rw [hc]) <;> ((try simp only [zn] at hc) <;> (try simp (disch := omega) only [zz hA, zb, zy, reduceCtorEq, Bool.false_eq_true, Int.reduceLT, Int.reduceLE, Int.reduceNeg] at hc) <;> (try simp only [zw] at hc)) <;> (try (exfalso; omega))) | refine AWp.exit ?_ | refine AWp.ret ⟨.inr rfl, _, RetOk.ev tabOk Zc, ?_⟩) | (refine AOLg.pass ?_; refine AOLg.nx hA tabOk Zc ?_; first | refine NX.done ?_ | refine NX.gt ?_ | refine NX.gf ?_ | (refine NX.gs ?_ ?_ <;> intro hc <;> rw [hc] <;> ((try simp only [zn] at hc) <;> (try simp (disch := omega) only [zz hA, zb, zy, reduceCtorEq, Bool.false_eq_true, Int.reduceLT, Int.reduceLE, Int.reduceNeg] at hc) <;> (try simp only [zw] at hc)) <;> (try (exfalso; omega))) | (refine NX.kC ?_; first | (with_reducible refine NX.call (c1) ?_) | (with_reducible refine NX.call (c2) ?_) | ((first | refine NX.call (c1) ?_ | refine NX.call (c2) ?_)) | fail) | (refine NX.kO ?_; (first | refine NX.callO (c1) (by simp [allEq]) rfl ?_ | refine NX.callO (c2) (by simp [allEq]) rfl ?_)) | refine NX.k 10 (NX.one Z10 ?_) | refine NX.k 14 (NX.one Z14 ?_) | refine NX.k 18 (NX.one Z18 ?_) | refine NX.raw ?_) | refine Thn.exit ?_ | refine Blk.here ?_ | refine Blk.other (by decide) ?_ | refine ⟨.inl rfl, _, RetOk.ev tabOk Zc, ?_⟩ | fail)
        all_goals exact Ze
      | true =>
        rw [e2, hid_eq hA (α := Bool)] at c2
        obtain ⟨b1, b2, b3⟩ := few_bounds e2
        have c3 := refTRight_c hA l K S (by omega) hl (by omega) (fun x hx => by have := b3 x hx; omega)
        cases e3 : rightT l K S with
        | false =>
          rw [e3, hid_eq hA (α := Bool)] at c3
          refine ⟨false, ?_, fun h => by cases h⟩
          refine PureCalls.of Try.func19 rfl (by kernel_rfl) rfl ?_
          try first | refine AOLg.of [] ?_ | refine QSg.of [] ?_
          repeat' (first | (refine AWp.pass ?_; first | refine AWp.seq ?_ | refine AWp.block ?_ | refine AWp.skip ?_ | refine AWp.regG [] Zc ?_ | refine AWp.cond_t rfl ?_ | refine AWp.cond_f rfl ?_ | (refine AWp.cond rfl ?_ ?_ <;> intro hc <;> (try rw [hc]) <;> ((try simp only [zn] at hc) <;> (try simp (disch := omega) only [zz hA, zb, zy, reduceCtorEq, Bool.false_eq_true, Int.reduceLT, Int.reduceLE, Int.reduceNeg] at hc) <;> (try simp only [zw] at hc)) <;> (try (exfalso; omega))) | refine AWp.exit ?_ | refine AWp.ret ⟨.inr rfl, _, RetOk.ev tabOk Zc, ?_⟩) | (refine AOLg.pass ?_; refine AOLg.nx hA tabOk Zc ?_; first | refine NX.done ?_ | refine NX.gt ?_ | refine NX.gf ?_ | (refine NX.gs ?_ ?_ <;> intro hc <;> rw [hc] <;> ((try simp only [zn] at hc) <;> (try simp (disch := omega) only [zz hA, zb, zy, reduceCtorEq, Bool.false_eq_true, Int.reduceLT, Int.reduceLE, Int.reduceNeg] at hc) <;> (try simp only [zw] at hc)) <;> (try (exfalso; omega))) | (refine NX.kC ?_; first | (with_reducible refine NX.call (c1) ?_) | (with_reducible refine NX.call (c2) ?_) | (with_reducible refine NX.call (c3) ?_) | ((first | refine NX.call (c1) ?_ | refine NX.call (c2) ?_ | refine NX.call (c3) ?_)) | fail) | (refine NX.kO ?_; (first | refine NX.callO (c1) (by simp [allEq]) rfl ?_ | refine NX.callO (c2) (by simp [allEq]) rfl ?_ | refine NX.callO (c3) (by simp [allEq]) rfl ?_)) | refine NX.k 10 (NX.one Z10 ?_) | refine NX.k 14 (NX.one Z14 ?_) | refine NX.k 18 (NX.one Z18 ?_) | refine NX.raw ?_) | refine Thn.exit ?_ | refine Blk.here ?_ | refine Blk.other (by decide) ?_ | refine ⟨.inl rfl, _, RetOk.ev tabOk Zc, ?_⟩ | fail)
          all_goals exact Ze
        | true =>
          rw [e3, hid_eq hA (α := Bool)] at c3
          obtain ⟨o1, o2, o3⟩ := okK e3
          have hst : StK K S := ⟨o1, o2, by omega, fun x hx => by have := b3 x hx; omega⟩
          have c4 := refGFew_c hA R V N M P Q hg
          cases e4 : fewGr R V N M P Q with
          | false =>
            rw [e4, hid_eq hA (α := Bool)] at c4
            refine ⟨false, ?_, fun h => by cases h⟩
            refine PureCalls.of Try.func19 rfl (by kernel_rfl) rfl ?_
            try first | refine AOLg.of [] ?_ | refine QSg.of [] ?_
            repeat' (first | (refine AWp.pass ?_; first | refine AWp.seq ?_ | refine AWp.block ?_ | refine AWp.skip ?_ | refine AWp.regG [] Zc ?_ | refine AWp.cond_t rfl ?_ | refine AWp.cond_f rfl ?_ | (refine AWp.cond rfl ?_ ?_ <;> intro hc <;> (try rw [hc]) <;> ((try simp only [zn] at hc) <;> (try simp (disch := omega) only [zz hA, zb, zy, reduceCtorEq, Bool.false_eq_true, Int.reduceLT, Int.reduceLE, Int.reduceNeg] at hc) <;> (try simp only [zw] at hc)) <;> (try (exfalso; omega))) | refine AWp.exit ?_ | refine AWp.ret ⟨.inr rfl, _, RetOk.ev tabOk Zc, ?_⟩) | (refine AOLg.pass ?_; refine AOLg.nx hA tabOk Zc ?_; first | refine NX.done ?_ | refine NX.gt ?_ | refine NX.gf ?_ | (refine NX.gs ?_ ?_ <;> intro hc <;> rw [hc] <;> ((try simp only [zn] at hc) <;> (try simp (disch := omega) only [zz hA, zb, zy, reduceCtorEq, Bool.false_eq_true, Int.reduceLT, Int.reduceLE, Int.reduceNeg] at hc) <;> (try simp only [zw] at hc)) <;> (try (exfalso; omega))) | (refine NX.kC ?_; first | (with_reducible refine NX.call (c1) ?_) | (with_reducible refine NX.call (c2) ?_) | (with_reducible refine NX.call (c3) ?_) | (with_reducible refine NX.call (c4) ?_) | ((first | refine NX.call (c1) ?_ | refine NX.call (c2) ?_ | refine NX.call (c3) ?_ | refine NX.call (c4) ?_)) | fail) | (refine NX.kO ?_; (first | refine NX.callO (c1) (by simp [allEq]) rfl ?_ | refine NX.callO (c2) (by simp [allEq]) rfl ?_ | refine NX.callO (c3) (by simp [allEq]) rfl ?_ | refine NX.callO (c4) (by simp [allEq]) rfl ?_)) | refine NX.k 10 (NX.one Z10 ?_) | refine NX.k 14 (NX.one Z14 ?_) | refine NX.k 18 (NX.one Z18 ?_) | refine NX.raw ?_) | refine Thn.exit ?_ | refine Blk.here ?_ | refine Blk.other (by decide) ?_ | refine ⟨.inl rfl, _, RetOk.ev tabOk Zc, ?_⟩ | fail)
            all_goals exact Ze
          | true =>
            rw [e4, hid_eq hA (α := Bool)] at c4
            have hfew : baseG R V N M P Q + sumL P P.length + sumL Q Q.length ≤ 1000 := by simpa [fewGr] using e4
            have hbs := hfew
            unfold baseG at hbs
            have hps : ∀ x ∈ P, x.length ≤ 1000000 := fun x hx => by have := sumL_mem P hx; omega
            have hqs : ∀ x ∈ Q, x.length ≤ 1000000 := fun x hx => by have := sumL_mem Q hx; omega
            by_cases h40 : V.length ≤ 40
            · have c5 := refGRight_c hA K S hst R V N M P Q (by omega) ⟨by simp only; omega, by simp only; omega, by simp only; omega⟩ ⟨by omega, hps⟩ ⟨by omega, hqs⟩
              cases e5 : rightGr K R V N M P Q with
              | false =>
                rw [e5, hid_eq hA (α := Bool)] at c5
                refine ⟨false, ?_, fun h => by cases h⟩
                refine PureCalls.of Try.func19 rfl (by kernel_rfl) rfl ?_
                try first | refine AOLg.of [] ?_ | refine QSg.of [] ?_
                repeat' (first | (refine AWp.pass ?_; first | refine AWp.seq ?_ | refine AWp.block ?_ | refine AWp.skip ?_ | refine AWp.regG [] Zc ?_ | refine AWp.cond_t rfl ?_ | refine AWp.cond_f rfl ?_ | (refine AWp.cond rfl ?_ ?_ <;> intro hc <;> (try rw [hc]) <;> ((try simp only [zn] at hc) <;> (try simp (disch := omega) only [zz hA, zb, zy, reduceCtorEq, Bool.false_eq_true, Int.reduceLT, Int.reduceLE, Int.reduceNeg] at hc) <;> (try simp only [zw] at hc)) <;> (try (exfalso; omega))) | refine AWp.exit ?_ | refine AWp.ret ⟨.inr rfl, _, RetOk.ev tabOk Zc, ?_⟩) | (refine AOLg.pass ?_; refine AOLg.nx hA tabOk Zc ?_; first | refine NX.done ?_ | refine NX.gt ?_ | refine NX.gf ?_ | (refine NX.gs ?_ ?_ <;> intro hc <;> rw [hc] <;> ((try simp only [zn] at hc) <;> (try simp (disch := omega) only [zz hA, zb, zy, reduceCtorEq, Bool.false_eq_true, Int.reduceLT, Int.reduceLE, Int.reduceNeg] at hc) <;> (try simp only [zw] at hc)) <;> (try (exfalso; omega))) | (refine NX.kC ?_; first | (with_reducible refine NX.call (c1) ?_) | (with_reducible refine NX.call (c2) ?_) | (with_reducible refine NX.call (c3) ?_) | (with_reducible refine NX.call (c4) ?_) | (with_reducible refine NX.call (c5) ?_) | ((first | refine NX.call (c1) ?_ | refine NX.call (c2) ?_ | refine NX.call (c3) ?_ | refine NX.call (c4) ?_ | refine NX.call (c5) ?_)) | fail) | (refine NX.kO ?_; (first | refine NX.callO (c1) (by simp [allEq]) rfl ?_ | refine NX.callO (c2) (by simp [allEq]) rfl ?_ | refine NX.callO (c3) (by simp [allEq]) rfl ?_ | refine NX.callO (c4) (by simp [allEq]) rfl ?_ | refine NX.callO (c5) (by simp [allEq]) rfl ?_)) | refine NX.k 10 (NX.one Z10 ?_) | refine NX.k 14 (NX.one Z14 ?_) | refine NX.k 18 (NX.one Z18 ?_) | refine NX.raw ?_) | refine Thn.exit ?_ | refine Blk.here ?_ | refine Blk.other (by decide) ?_ | refine ⟨.inl rfl, _, RetOk.ev tabOk Zc, ?_⟩ | fail)
                all_goals exact Ze
              | true =>
                rw [e5, hid_eq hA (α := Bool)] at c5
                have c6 := refAll_c hA K S R V N M P Q (by omega)
                have hru : RightU V R := by
                  have := e5
                  unfold rightGr at this
                  simp only [Bool.and_eq_true] at this
                  exact (rightB_iff V R).1 this.1.1
                refine ⟨allV K V.length, ?_, fun h => ⟨⟨hst, hru, h, hfew, e5⟩, h40⟩⟩
                rw [hid_eq hA (α := Bool)] at c6
                generalize allV K V.length = b at *
                refine PureCalls.of Try.func19 rfl (by kernel_rfl) rfl ?_
                try first | refine AOLg.of [] ?_ | refine QSg.of [] ?_
                repeat' (first | (refine AWp.pass ?_; first | refine AWp.seq ?_ | refine AWp.block ?_ | refine AWp.skip ?_ | refine AWp.regG [] Zc ?_ | refine AWp.cond_t rfl ?_ | refine AWp.cond_f rfl ?_ | (refine AWp.cond rfl ?_ ?_ <;> intro hc <;> (try rw [hc]) <;> ((try simp only [zn] at hc) <;> (try simp (disch := omega) only [zz hA, zb, zy, reduceCtorEq, Bool.false_eq_true, Int.reduceLT, Int.reduceLE, Int.reduceNeg] at hc) <;> (try simp only [zw] at hc)) <;> (try (exfalso; omega))) | refine AWp.exit ?_ | refine AWp.ret ⟨.inr rfl, _, RetOk.ev tabOk Zc, ?_⟩) | (refine AOLg.pass ?_; refine AOLg.nx hA tabOk Zc ?_; first | refine NX.done ?_ | refine NX.gt ?_ | refine NX.gf ?_ | (refine NX.gs ?_ ?_ <;> intro hc <;> rw [hc] <;> ((try simp only [zn] at hc) <;> (try simp (disch := omega) only [zz hA, zb, zy, reduceCtorEq, Bool.false_eq_true, Int.reduceLT, Int.reduceLE, Int.reduceNeg] at hc) <;> (try simp only [zw] at hc)) <;> (try (exfalso; omega))) | (refine NX.kC ?_; first | (with_reducible refine NX.call (c1) ?_) | (with_reducible refine NX.call (c2) ?_) | (with_reducible refine NX.call (c3) ?_) | (with_reducible refine NX.call (c4) ?_) | (with_reducible refine NX.call (c5) ?_) | (with_reducible refine NX.call (c6) ?_) | ((first | refine NX.call (c1) ?_ | refine NX.call (c2) ?_ | refine NX.call (c3) ?_ | refine NX.call (c4) ?_ | refine NX.call (c5) ?_ | refine NX.call (c6) ?_)) | fail) | (refine NX.kO ?_; (first | refine NX.callO (c1) (by simp [allEq]) rfl ?_ | refine NX.callO (c2) (by simp [allEq]) rfl ?_ | refine NX.callO (c3) (by simp [allEq]) rfl ?_ | refine NX.callO (c4) (by simp [allEq]) rfl ?_ | refine NX.callO (c5) (by simp [allEq]) rfl ?_ | refine NX.callO (c6) (by simp [allEq]) rfl ?_)) | refine NX.k 10 (NX.one Z10 ?_) | refine NX.k 14 (NX.one Z14 ?_) | refine NX.k 18 (NX.one Z18 ?_) | refine NX.raw ?_) | refine Thn.exit ?_ | refine Blk.here ?_ | refine Blk.other (by decide) ?_ | refine ⟨.inl rfl, _, RetOk.ev tabOk Zc, ?_⟩ | fail)
                all_goals first | exact Ze | (refine rPV_then (by conv => lhs; cbv) ?_; simp_all) | (refine rPV_then (by conv => lhs; cbv) ?_; rfl)
            · refine ⟨false, ?_, fun h => by cases h⟩
              refine PureCalls.of Try.func19 rfl (by kernel_rfl) rfl ?_
              try first | refine AOLg.of [] ?_ | refine QSg.of [] ?_
              repeat' (first | (refine AWp.pass ?_; first | refine AWp.seq ?_ | refine AWp.block ?_ | refine AWp.skip ?_ | refine AWp.regG [] Zc ?_ | refine AWp.cond_t rfl ?_ | refine AWp.cond_f rfl ?_ | (refine AWp.cond rfl ?_ ?_ <;> intro hc <;> (try rw [hc]) <;> ((try simp only [zn] at hc) <;> (try simp (disch := omega) only [zz hA, zb, zy, reduceCtorEq, Bool.false_eq_true, Int.reduceLT, Int.reduceLE, Int.reduceNeg] at hc) <;> (try simp only [zw] at hc)) <;> (try (exfalso; omega))) | refine AWp.exit ?_ | refine AWp.ret ⟨.inr rfl, _, RetOk.ev tabOk Zc, ?_⟩) | (refine AOLg.pass ?_; refine AOLg.nx hA tabOk Zc ?_; first | refine NX.done ?_ | refine NX.gt ?_ | refine NX.gf ?_ | (refine NX.gs ?_ ?_ <;> intro hc <;> rw [hc] <;> ((try simp only [zn] at hc) <;> (try simp (disch := omega) only [zz hA, zb, zy, reduceCtorEq, Bool.false_eq_true, Int.reduceLT, Int.reduceLE, Int.reduceNeg] at hc) <;> (try simp only [zw] at hc)) <;> (try (exfalso; omega))) | (refine NX.kC ?_; first | (with_reducible refine NX.call (c1) ?_) | (with_reducible refine NX.call (c2) ?_) | (with_reducible refine NX.call (c3) ?_) | (with_reducible refine NX.call (c4) ?_) | ((first | refine NX.call (c1) ?_ | refine NX.call (c2) ?_ | refine NX.call (c3) ?_ | refine NX.call (c4) ?_)) | fail) | (refine NX.kO ?_; (first | refine NX.callO (c1) (by simp [allEq]) rfl ?_ | refine NX.callO (c2) (by simp [allEq]) rfl ?_ | refine NX.callO (c3) (by simp [allEq]) rfl ?_ | refine NX.callO (c4) (by simp [allEq]) rfl ?_)) | refine NX.k 10 (NX.one Z10 ?_) | refine NX.k 14 (NX.one Z14 ?_) | refine NX.k 18 (NX.one Z18 ?_) | refine NX.raw ?_) | refine Thn.exit ?_ | refine Blk.here ?_ | refine Blk.other (by decide) ?_ | refine ⟨.inl rfl, _, RetOk.ev tabOk Zc, ?_⟩ | fail)
              all_goals exact Ze
  · refine ⟨false, ?_, fun h => by cases h⟩
    refine PureCalls.of Try.func19 rfl (by kernel_rfl) rfl ?_
    try first | refine AOLg.of [] ?_ | refine QSg.of [] ?_
    repeat' (first | (refine AWp.pass ?_; first | refine AWp.seq ?_ | refine AWp.block ?_ | refine AWp.skip ?_ | refine AWp.regG [] Zc ?_ | refine AWp.cond_t rfl ?_ | refine AWp.cond_f rfl ?_ | (refine AWp.cond rfl ?_ ?_ <;> intro hc <;> (try rw [hc]) <;> ((try simp only [zn] at hc) <;> (try simp (disch := omega) only [zz hA, zb, zy, reduceCtorEq, Bool.false_eq_true, Int.reduceLT, Int.reduceLE, Int.reduceNeg] at hc) <;> (try simp only [zw] at hc)) <;> (try (exfalso; omega))) | refine AWp.exit ?_ | refine AWp.ret ⟨.inr rfl, _, RetOk.ev tabOk Zc, ?_⟩) | (refine AOLg.pass ?_; refine AOLg.nx hA tabOk Zc ?_; first | refine NX.done ?_ | refine NX.gt ?_ | refine NX.gf ?_ | (refine NX.gs ?_ ?_ <;> intro hc <;> rw [hc] <;> ((try simp only [zn] at hc) <;> (try simp (disch := omega) only [zz hA, zb, zy, reduceCtorEq, Bool.false_eq_true, Int.reduceLT, Int.reduceLE, Int.reduceNeg] at hc) <;> (try simp only [zw] at hc)) <;> (try (exfalso; omega))) | refine NX.k 10 (NX.one Z10 ?_) | refine NX.k 14 (NX.one Z14 ?_) | refine NX.k 18 (NX.one Z18 ?_) | refine NX.raw ?_) | refine Thn.exit ?_ | refine Blk.here ?_ | refine Blk.other (by decide) ?_ | refine ⟨.inl rfl, _, RetOk.ev tabOk Zc, ?_⟩ | fail)
    all_goals exact Ze
end Go.Proofs.Ytkkjlmcnfoncdaa.Aw

namespace Go.Proofs.Ytkkjlmcnfoncdaa.Aw
open Go Go.RowKit
structure GS where
  V : List Int
  N : List (Int × Int)
  P : List (List Int)
  Q : List (List Int)
  O : List (Int × Int)
def goneJ (R : List Int) (s : GS) (p q : Int) : Int := p + q - findU (joinV s.V R p q) p
def putJ (K : List (List Int)) (R : List Int) (s : GS) (p q : Int) : GS :=
  ⟨joinV s.V R p q, joinN s.V R s.N p q, s.P.set (goneJ R s p q).toNat [], s.Q.set (goneJ R s p q).toNat [], s.O ++ outs K (joinV s.V R p q) (findU (joinV s.V R p q) p) (s.P.getD (goneJ R s p q).toNat default) (s.Q.getD (goneJ R s p q).toNat default)⟩
def stepJ (K : List (List Int)) (R : List Int) (a : Int) (s : GS) (v : Int) : GS := if findU s.V a = findU s.V v then s else putJ K R s (findU s.V a) (findU s.V v)
def jkM (K : List (List Int)) (R : List Int) (s : GS) (l : List Int) (k : Nat) : GS := ((l.take k).drop 1).foldl (stepJ K R (l.getD 0 default)) s
theorem jk_zero (K : List (List Int)) (R : List Int) (s : GS) (l : List Int) : jkM K R s l 0 = s := by simp [jkM]
theorem jk_one (K : List (List Int)) (R : List Int) (s : GS) (l : List Int) : jkM K R s l 1 = s := by
  unfold jkM
  rw [List.drop_of_length_le (by simp; omega)]
  rfl
theorem jk_succ (K : List (List Int)) (R : List Int) (s : GS) (l : List Int) (k : Nat) (h0 : 0 < k) (h : k < l.length) : jkM K R s l (k + 1) = stepJ K R (l.getD 0 default) (jkM K R s l k) (l.getD k default) := by
  unfold jkM
  have e : (l.take (k + 1)).drop 1 = (l.take k).drop 1 ++ [l.getD k default] := by
    rw [List.take_add_one, List.getD_eq_getElem?_getD, List.getElem?_eq_getElem h, List.drop_append_of_le_length (by rw [List.length_take]; omega)]
    rfl
  rw [e, List.foldl_append]
  rfl
structure OkJ (K : List (List Int)) (R M : List Int) (n N0 k : Nat) (s : GS) : Prop where
  ru : RightU s.V R
  v : s.V.length = n
  p : s.P.length = n
  q : s.Q.length = n
  pl : ∀ x ∈ s.P, x.length ≤ 1000
  ql : ∀ x ∈ s.Q, x.length ≤ 1000
  nn : s.N.length ≤ N0 + k
  o : s.O.length ≤ k * 2000
  right : rightGr K R s.V s.N M s.P s.Q = true
theorem OkJ.mono {K : List (List Int)} {R M : List Int} {n N0 k k' : Nat} {s : GS} (h : OkJ K R M n N0 k s) (hk : k ≤ k') : OkJ K R M n N0 k' s :=
  ⟨h.ru, h.v, h.p, h.q, h.pl, h.ql, Nat.le_trans h.nn (by omega), Nat.le_trans h.o (by omega), h.right⟩
theorem rows_set {T : List (List Int)} {g : Nat} (h : ∀ x ∈ T, x.length ≤ 1000) : ∀ x ∈ T.set g [], x.length ≤ 1000 := fun x hx => by
  rcases List.mem_or_eq_of_mem_set hx with h1 | h1
  · exact h x h1
  · rw [h1]; simp
theorem row_get {T : List (List Int)} {g : Nat} (h : ∀ x ∈ T, x.length ≤ 1000) (hg : g < T.length) : (T.getD g default).length ≤ 1000 :=
  h _ (by rw [List.getD_eq_getElem?_getD, List.getElem?_eq_getElem hg]; exact List.getElem_mem _)
section
variable {K : List (List Int)} {R M : List Int} {n N0 k : Nat} {s : GS} (h : OkJ K R M n N0 k s) {a v : Int} (a0 : 0 ≤ a) (a1 : a < n) (v0 : 0 ≤ v) (v1 : v < n)
include h a0 a1 v0 v1
theorem put_joined (hne : findU s.V a ≠ findU s.V v) : Joined s.V R a v (findU s.V a) (findU s.V v) (findU (joinV s.V R (findU s.V a) (findU s.V v)) (findU s.V a)) (goneJ R s (findU s.V a) (findU s.V v)) (joinV s.V R (findU s.V a) (findU s.V v)) := by
  obtain ⟨first, gone, j⟩ := joined h.ru (x := a) (y := v) a0 (by rw [h.v]; exact a1) v0 (by rw [h.v]; exact v1) hne
  have e1 := j.fp
  have e2 := j.go
  have e3 : goneJ R s (findU s.V a) (findU s.V v) = gone := by unfold goneJ; rw [e1, e2]
  rw [e3, e1]
  exact j
theorem step_ok : OkJ K R M n N0 (k + 1) (stepJ K R a s v) := by
  unfold stepJ
  split
  · exact h.mono (by omega)
  · rename_i hne
    have j := put_joined h a0 a1 v0 v1 hne
    have hr := joined_right h.right j h.ru
    have hn := joinN_len s.V R s.N (findU s.V a) (findU s.V v)
    have hg := j.g0
    have hp1 := row_get (g := (goneJ R s (findU s.V a) (findU s.V v)).toNat) h.pl (by rw [h.p, ← h.v]; omega)
    have hq1 := row_get (g := (goneJ R s (findU s.V a) (findU s.V v)).toNat) h.ql (by rw [h.q, ← h.v]; omega)
    unfold putJ
    refine ⟨j.ru, j.len.trans h.v, by rw [List.length_set]; exact h.p, by rw [List.length_set]; exact h.q, rows_set h.pl, rows_set h.ql, ?_, ?_, hr⟩
    · have := h.nn
      simp only
      omega
    · have := h.o
      simp only
      rw [List.length_append, outs_len]
      omega
theorem step_find {z : Int} (z0 : 0 ≤ z) (z1 : z < n) : findU (stepJ K R a s v).V z = if findU s.V z = findU s.V a ∨ findU s.V z = findU s.V v then findU (stepJ K R a s v).V a else findU s.V z := by
  unfold stepJ
  split
  · rename_i he
    rw [← he]
    split
    · rename_i h1
      rcases h1 with h1 | h1 <;> exact h1
    · rfl
  · rename_i hne
    have hv := h.v
    have hp := find_range h.ru (n := a) a0 (by omega)
    have hq := find_range h.ru (n := v) v0 (by omega)
    have ep := find_find h.ru (n := a) a0 (by omega)
    have eq := find_find h.ru (n := v) v0 (by omega)
    have f1 := joinV_find h.ru hp.1 hp.2 hq.1 hq.2 (n := z) z0 (by omega)
    have f2 := joinV_find h.ru hp.1 hp.2 hq.1 hq.2 (n := a) a0 (by omega)
    rw [ep, eq] at f1 f2
    rw [if_pos (.inl rfl)] at f2
    show findU (joinV s.V R (findU s.V a) (findU s.V v)) z = _
    rw [f1]
    split
    · show _ = findU (joinV s.V R (findU s.V a) (findU s.V v)) a
      rw [f2]
    · rfl
end
structure OneJ (n : Nat) (V0 : List Int) (l : List Int) (k : Nat) (s : GS) : Prop where
  all : ∀ j : Nat, j < k → j < l.length → findU s.V (l.getD j default) = findU s.V (l.getD 0 default)
  old : ∀ z : Int, 0 ≤ z → z < n → findU s.V z = findU s.V (l.getD 0 default) ∨ findU s.V z = findU V0 z
  own : ∃ j : Nat, j < l.length ∧ findU V0 (l.getD j default) = findU s.V (l.getD 0 default)
theorem join_ok {K : List (List Int)} {R M : List Int} {n N0 : Nat} {s : GS} (h : OkJ K R M n N0 0 s) {l : List Int} (hl : ∀ j : Nat, j < l.length → 0 ≤ l.getD j default ∧ l.getD j default < n) (h0 : 0 < l.length) : ∀ k, k ≤ l.length → OkJ K R M n N0 k (jkM K R s l k) ∧ OneJ n s.V l k (jkM K R s l k)
  | 0, _ => by
    rw [jk_zero]
    exact ⟨h, ⟨fun j hj => by omega, fun z _ _ => .inr rfl, ⟨0, h0, rfl⟩⟩⟩
  | 1, _ => by
    rw [jk_one]
    refine ⟨h.mono (by omega), ⟨fun j hj _ => ?_, fun z _ _ => .inr rfl, ⟨0, h0, rfl⟩⟩⟩
    obtain rfl : j = 0 := by omega
    rfl
  | k + 2, hk => by
    obtain ⟨ih1, ih2⟩ := join_ok h hl h0 (k + 1) (by omega)
    have ha := hl 0 h0
    have hv := hl (k + 1) (by omega)
    rw [jk_succ K R s l (k + 1) (by omega) (by omega)]
    have hs := step_ok ih1 ha.1 ha.2 hv.1 hv.2
    have hf := fun (z : Int) (z0 : 0 ≤ z) (z1 : z < n) => step_find ih1 ha.1 ha.2 hv.1 hv.2 (z := z) z0 z1
    have hfa := hf _ ha.1 ha.2
    generalize hs2 : stepJ K R (l.getD 0 default) (jkM K R s l (k + 1)) (l.getD (k + 1) default) = t at *
    generalize jkM K R s l (k + 1) = u at *
    refine ⟨hs, ⟨fun j hj hjl => ?_, fun z z0 z1 => ?_, ?_⟩⟩
    · have hzj := hl j hjl
      rw [hf _ hzj.1 hzj.2]
      rcases Nat.lt_or_ge j (k + 1) with h1 | h1
      · rw [if_pos (.inl (ih2.all j h1 hjl))]
      · obtain rfl : j = k + 1 := by omega
        rw [if_pos (.inr rfl)]
    · rw [hf z z0 z1]
      split
      · exact .inl rfl
      · rename_i hno
        rcases ih2.old z z0 z1 with h1 | h1
        · exact absurd (.inl h1) hno
        · exact .inr h1
    · -- the first one is one of both
      have hu := ih1.ru
      have huv := ih1.v
      by_cases he : findU u.V (l.getD 0 default) = findU u.V (l.getD (k + 1) default)
      · have : t = u := by rw [← hs2]; unfold stepJ; rw [if_pos he]
        rw [this]
        exact ih2.own
      · have j := put_joined ih1 ha.1 ha.2 hv.1 hv.2 he
        have ht : t.V = joinV u.V R (findU u.V (l.getD 0 default)) (findU u.V (l.getD (k + 1) default)) := by rw [← hs2]; unfold stepJ; rw [if_neg he]; rfl
        rw [ht, j.fx]
        rcases j.own with h1 | h1
        · rw [h1]
          exact ih2.own
        · rw [h1]
          rcases ih2.old _ hv.1 hv.2 with h2 | h2
          · exact absurd h2.symm he
          · exact ⟨k + 1, by omega, h2.symm⟩
theorem jk_same {K : List (List Int)} {R : List Int} {s : GS} {l : List Int} (hl : ∀ j : Nat, j < l.length → findU s.V (l.getD j default) = findU s.V (l.getD 0 default)) : ∀ k, k ≤ l.length → jkM K R s l k = s
  | 0, _ => jk_zero K R s l
  | 1, _ => jk_one K R s l
  | k + 2, h => by
    rw [jk_succ K R s l (k + 1) (by omega) (by omega), jk_same hl (k + 1) (by omega)]
    unfold stepJ
    rw [if_pos (hl (k + 1) (by omega)).symm]
end Go.Proofs.Ytkkjlmcnfoncdaa.Aw

namespace Go.Proofs.Ytkkjlmcnfoncdaa.Aw
open Go Go.RowKit
set_option maxRecDepth 10000
attribute [local irreducible] AWp AOL QS One AOLg QSg NX QX TRg TX AllO Fin3
attribute [local irreducible] W.TRg W.TX W.AllO W.Fin3
theorem take_map {α β : Type} [Inhabited α] (f : α → β) (l : List α) (k : Nat) (h : k < l.length) : (l.take (k + 1)).map f = (l.take k).map f ++ [f (l.getD k default)] := by
  rw [List.take_add_one, List.map_append, List.getD_eq_getElem?_getD, List.getElem?_eq_getElem h]
  rfl
theorem rPV_gr2 {st : List AObj} {i j k v u w e e' e2 sz sz' s2 : Nat} {m m' m2 : Bool} {xs ys zs : List (List IC)} {a b c d : IC} (h2 : st[i]? = some (.row m v e sz xs)) (h3 : st[j]? = some (.row m' u e' sz' ys)) (h4 : st[k]? = some (.row m2 w e2 s2 zs)) :
    rPV st (.tup [.agg [.ic a, .ic b, .ic c, .ic d, .own i v, .own j u], .own k w]) = some (.tup [.agg [a, b, c, d, .sl sz false xs, .sl sz' false ys], .c (.sl s2 false zs)]) := by
  simp [rPV, rPVs, rICs, rIC, toIC, h2, h3, h4]
variable {A : Ar} (hA : A = real)
include hA
theorem cloneK_4 (p0 p1 p2 p3 : AObj) (P : List (List Int)) (hl : P.length ≤ 1000000) : ACalls Try.prog 43 [.ic (.sl 1 false (hid A (List.map (encK A) P)))] [p0, p1, p2, p3] (fun x st' => x = .own 4 1 ∧ st' = [p0, p1, p2, p3, .row true 1 24 1 (hid A (List.map (encK A) P))]) := by
  refine ACalls.of Try.func43 rfl (by kernel_rfl) rfl ?_
  try first | refine AOLg.of [] ?_ | refine QSg.of [] ?_
  repeat' (first | (refine AWp.pass ?_; first | refine AWp.seq ?_ | refine AWp.block ?_ | refine AWp.skip ?_ | refine AWp.regG [] Zc ?_ | refine AWp.cond_t rfl ?_ | refine AWp.cond_f rfl ?_ | (refine AWp.cond rfl ?_ ?_ <;> intro hc <;> (try rw [hc]) <;> ((try simp only [zn] at hc) <;> (try simp (disch := omega) only [zz hA, zb, zy, reduceCtorEq, Bool.false_eq_true, Int.reduceLT, Int.reduceLE, Int.reduceNeg] at hc) <;> (try simp only [zw] at hc)) <;> (try (exfalso; omega))) | refine AWp.exit ?_ | refine AWp.ret ⟨.inr rfl, _, RetOk.ev tabOk Zc, ?_⟩) | (refine AOLg.pass ?_; refine AOLg.nx hA tabOk Zc ?_; first | refine NX.done ?_ | refine NX.gt ?_ | refine NX.gf ?_ | (refine NX.gs ?_ ?_ <;> intro hc <;> rw [hc] <;> ((try simp only [zn] at hc) <;> (try simp (disch := omega) only [zz hA, zb, zy, reduceCtorEq, Bool.false_eq_true, Int.reduceLT, Int.reduceLE, Int.reduceNeg] at hc) <;> (try simp only [zw] at hc)) <;> (try (exfalso; omega))) | refine NX.k 8 (NX.one Z8 ?_) | refine NX.k 11 (NX.one Z11 ?_) | refine NX.k 17 (NX.one Z17 ?_) | refine NX.raw ?_) | refine Thn.exit ?_ | refine Blk.here ?_ | refine Blk.other (by decide) ?_ | refine ⟨.inl rfl, _, RetOk.ev tabOk Zc, ?_⟩ | fail)
  refine AOL.eqNil tabOk rfl rfl rfl ?_
  intro b hb
  cases b with
  | true =>
    have hP : P = [] := by have := hb rfl; simpa [hid_eq hA] using this
    subst hP
    try first | refine AOLg.of [2] ?_ | refine QSg.of [2] ?_
    repeat' (first | (refine AWp.pass ?_; first | refine AWp.seq ?_ | refine AWp.block ?_ | refine AWp.skip ?_ | refine AWp.regG [2] Zc ?_ | refine AWp.cond_t rfl ?_ | refine AWp.cond_f rfl ?_ | (refine AWp.cond rfl ?_ ?_ <;> intro hc <;> (try rw [hc]) <;> ((try simp only [zn] at hc) <;> (try simp (disch := omega) only [zz hA, zb, zy, reduceCtorEq, Bool.false_eq_true, Int.reduceLT, Int.reduceLE, Int.reduceNeg] at hc) <;> (try simp only [zw] at hc)) <;> (try (exfalso; omega))) | refine AWp.exit ?_ | refine AWp.ret ⟨.inr rfl, _, RetOk.ev tabOk Zc, ?_⟩) | (refine AOLg.pass ?_; refine AOLg.nx hA tabOk Zc ?_; first | refine NX.done ?_ | refine NX.gt ?_ | refine NX.gf ?_ | (refine NX.gs ?_ ?_ <;> intro hc <;> rw [hc] <;> ((try simp only [zn] at hc) <;> (try simp (disch := omega) only [zz hA, zb, zy, reduceCtorEq, Bool.false_eq_true, Int.reduceLT, Int.reduceLE, Int.reduceNeg] at hc) <;> (try simp only [zw] at hc)) <;> (try (exfalso; omega))) | refine NX.k 8 (NX.one Z8 ?_) | refine NX.k 11 (NX.one Z11 ?_) | refine NX.k 17 (NX.one Z17 ?_) | (refine NX.one (One.nilOwn1 tabOk 2 23 rfl rfl rfl) ?_) | refine NX.raw ?_) | refine Thn.exit ?_ | refine Blk.here ?_ | refine Blk.other (by decide) ?_ | refine ⟨.inl rfl, _, RetOk.ev tabOk Zc, ?_⟩ | fail)
    exact ⟨rfl, by simp [hid_eq hA]⟩
  | false =>
    try first | refine AOLg.of [] ?_ | refine QSg.of [] ?_
    repeat' (first | (refine AWp.pass ?_; first | refine AWp.seq ?_ | refine AWp.block ?_ | refine AWp.skip ?_ | refine AWp.regG [] Zc ?_ | refine AWp.cond_t rfl ?_ | refine AWp.cond_f rfl ?_ | (refine AWp.cond rfl ?_ ?_ <;> intro hc <;> (try rw [hc]) <;> ((try simp only [zn] at hc) <;> (try simp (disch := omega) only [zz hA, zb, zy, reduceCtorEq, Bool.false_eq_true, Int.reduceLT, Int.reduceLE, Int.reduceNeg] at hc) <;> (try simp only [zw] at hc)) <;> (try (exfalso; omega))) | refine AWp.exit ?_ | refine AWp.ret ⟨.inr rfl, _, RetOk.ev tabOk Zc, ?_⟩) | (refine AOLg.pass ?_; refine AOLg.nx hA tabOk Zc ?_; first | refine NX.done ?_ | refine NX.gt ?_ | refine NX.gf ?_ | (refine NX.gs ?_ ?_ <;> intro hc <;> rw [hc] <;> ((try simp only [zn] at hc) <;> (try simp (disch := omega) only [zz hA, zb, zy, reduceCtorEq, Bool.false_eq_true, Int.reduceLT, Int.reduceLE, Int.reduceNeg] at hc) <;> (try simp only [zw] at hc)) <;> (try (exfalso; omega))) | refine NX.k 8 (NX.one Z8 ?_) | refine NX.k 11 (NX.one Z11 ?_) | refine NX.k 17 (NX.one Z17 ?_) | (refine NX.one (One.build0 tabOk rfl rfl) ?_) | (refine NX.one (One.appendOwn0 hA tabOk rfl rfl rfl rfl rfl rfl Zd Zd) ?_) | refine NX.raw ?_) | refine Thn.exit ?_ | refine Blk.here ?_ | refine Blk.other (by decide) ?_ | refine ⟨.inl rfl, _, RetOk.ev tabOk Zc, ?_⟩ | fail)
    exact ⟨rfl, rfl⟩
theorem one_c0 (K : List (List Int)) (S : List Int) (R V : List Int) (N : List (Int × Int)) (M : List Int) (P Q : List (List Int)) (hru : RightU V R) (x y : Int) (x0 : 0 ≤ x) (x1 : x < V.length) (y0 : 0 ≤ y) (y1 : y < V.length) (h : findU V x = findU V y) :
    PureCalls Try.prog 26 [keyedPV A K S, grP A R V N M P Q, IP x, IP y] (.tup [grP A R V N M P Q, .c (.sl 0 true [])]) := by
  have fx := ufind_c hA V N M R hru x x0 x1
  have fy := ufind_c hA V N M R hru y y0 y1
  rw [← h] at fy
  generalize findU V x = p at *
  refine PureCalls.of Try.func26 rfl (by kernel_rfl) rfl ?_
  try first | refine AOLg.of [] ?_ | refine QSg.of [] ?_
  repeat' (first | (refine AWp.pass ?_; first | refine AWp.seq ?_ | refine AWp.block ?_ | refine AWp.skip ?_ | refine AWp.regG [] Zc ?_ | refine AWp.cond_t rfl ?_ | refine AWp.cond_f rfl ?_ | (refine AWp.cond rfl ?_ ?_ <;> intro hc <;> (try rw [hc]) <;> ((try simp only [zn] at hc) <;> (try simp (disch := omega) only [zz hA, zb, zy, reduceCtorEq, Bool.false_eq_true, Int.reduceLT, Int.reduceLE, Int.reduceNeg] at hc) <;> (try simp only [zw] at hc)) <;> (try (exfalso; omega))) | refine AWp.exit ?_ | refine AWp.ret ⟨.inr rfl, _, RetOk.ev tabOk Zc, ?_⟩ | refine AWp.drawVG [] rfl (by decide +kernel) Zc ?_) | (refine AOLg.pass ?_; refine AOLg.nx hA tabOk Zc ?_; first | refine NX.done ?_ | refine NX.gt ?_ | refine NX.gf ?_ | (refine NX.gs ?_ ?_ <;> intro hc <;> rw [hc] <;> ((try simp only [zn] at hc) <;> (try simp (disch := omega) only [zz hA, zb, zy, reduceCtorEq, Bool.false_eq_true, Int.reduceLT, Int.reduceLE, Int.reduceNeg] at hc) <;> (try simp only [zw] at hc)) <;> (try (exfalso; omega))) | (refine NX.kC ?_; first | (with_reducible refine NX.call (fx) ?_) | (with_reducible refine NX.call (fy) ?_) | ((first | refine NX.call (fx) ?_ | refine NX.call (fy) ?_)) | fail) | (refine NX.kO ?_; (first | refine NX.callO (fx) (by simp [allEq]) rfl ?_ | refine NX.callO (fy) (by simp [allEq]) rfl ?_)) | refine NX.k 1 (NX.one Z1 ?_) | refine NX.k 7 (NX.one Z7 ?_) | refine NX.k 8 (NX.one Z8 ?_) | refine NX.k 10 (NX.one Z10 ?_) | refine NX.k 11 (NX.one Z11 ?_) | refine NX.k 14 (NX.one Z14 ?_) | refine NX.k 15 (NX.one Z15 ?_) | refine NX.k 17 (NX.one Z17 ?_) | refine NX.k 18 (NX.one Z18 ?_) | refine NX.raw ?_) | (refine TRg.pass ?_; refine TRg.nx hA tabOk Zc ?_; first | refine TX.done ?_ | refine TX.gt ?_ | refine TX.gf ?_ | (refine TX.gs ?_ ?_ <;> intro hc <;> rw [hc] <;> ((try simp only [zn] at hc) <;> (try simp (disch := omega) only [zz hA, zb, zy, reduceCtorEq, Bool.false_eq_true, Int.reduceLT, Int.reduceLE, Int.reduceNeg] at hc) <;> (try simp only [zw] at hc)) <;> (try (exfalso; omega))) | (refine TX.kC ?_; first | (with_reducible refine TX.call (fx) ?_) | (with_reducible refine TX.call (fy) ?_) | ((first | refine TX.call (fx) ?_ | refine TX.call (fy) ?_)) | fail) | (refine TX.kO ?_; (first | refine TX.callO (fx) (by simp [allEq]) rfl ?_ | refine TX.callO (fy) (by simp [allEq]) rfl ?_)) | refine TX.k 1 (TX.one Z1 ?_) | refine TX.k 7 (TX.one Z7 ?_) | refine TX.k 8 (TX.one Z8 ?_) | refine TX.k 10 (TX.one Z10 ?_) | refine TX.k 11 (TX.one Z11 ?_) | refine TX.k 14 (TX.one Z14 ?_) | refine TX.k 15 (TX.one Z15 ?_) | refine TX.k 17 (TX.one Z17 ?_) | refine TX.k 18 (TX.one Z18 ?_) | refine TX.raw ?_) | refine Fin3.of Zc (by repeat' (first | exact True.intro | exact rfl | refine And.intro ?_ ?_)) ?_ ?_ | (refine AllO.pass ?_; first | exact AllO.nil | (refine AllO.cons (One.ev hA tabOk ?_) ?_ <;> (first | refine AllO.pass ?_ | ((conv => lhs; cbv); done))) | (refine AllO.cons (One.skipB ?_) ?_ <;> (first | refine AllO.pass ?_ | ((conv => lhs; cbv); done))) | ((with_reducible refine AllO.call Zc (fx) ?_ ?_) <;> (first | refine AllO.pass ?_ | exact rfl | exact Zd)) | ((with_reducible refine AllO.call Zc (fy) ?_ ?_) <;> (first | refine AllO.pass ?_ | exact rfl | exact Zd)) | refine AllO.consX ZX rfl rfl ?_) | refine Thn.exit ?_ | refine Blk.here ?_ | refine Blk.other (by decide) ?_ | refine ⟨.inl rfl, _, RetOk.ev tabOk Zc, ?_⟩ | fail)
  all_goals first | (exfalso; omega) | (refine rPV_then (by conv => lhs; cbv) ?_; rfl)
set_option maxHeartbeats 4000000 in
theorem one_c1 (K : List (List Int)) (S : List Int) (hst : StK K S) (R V : List Int) (N : List (Int × Int)) (M : List Int) (P Q : List (List Int)) (hru : RightU V R) (hR : R.length ≤ 1000) (hV : V.length ≤ 1000) (hN : N.length ≤ 100000) (hP : P.length = V.length) (hQ : Q.length = V.length) (hPl : ∀ x ∈ P, x.length ≤ 1000) (hQl : ∀ x ∈ Q, x.length ≤ 1000)
    (x y p q first gone : Int) (V' : List Int) (N' : List (Int × Int)) (x0 : 0 ≤ x) (x1 : x < V.length) (y0 : 0 ≤ y) (y1 : y < V.length) (hp : findU V x = p) (hq : findU V y = q) (hne : p ≠ q) (hV' : joinV V R p q = V') (hN' : joinN V R N p q = N') (hf : findU V' p = first) (hgo : gone = p + q - first) (hg0 : 0 ≤ gone ∧ gone < V.length) (hru' : RightU V' R) (hp0 : 0 ≤ p ∧ p < V.length) (hq0 : 0 ≤ q ∧ q < V.length) (hf0 : 0 ≤ first ∧ first < V.length) (hVl : V'.length = V.length) :
    PureCalls Try.prog 26 [keyedPV A K S, grP A R V N M P Q, IP x, IP y] (.tup [grP A R V' N' M (P.set gone.toNat []) (Q.set gone.toNat []), slP A 2 encN (outs K V' first (P.getD gone.toNat default) (Q.getD gone.toNat default))]) := by
  have fx := ufind_c hA V N M R hru x x0 x1
  have fy := ufind_c hA V N M R hru y y0 y1
  rw [hp] at fx
  rw [hq] at fy
  have hj : PureCalls Try.prog 57 [clP A V N M, intsP A R, IP (hid A p), IP (hid A q)] (clP A V' N' M) := by
    rw [hid_eq hA p, hid_eq hA q, ← hV', ← hN']
    exact join_c hA V N M R hru p q hp0 hq0 (by omega) (by omega) (by omega)
  have ff : PureCalls Try.prog 41 [clP A V' N' M, IP (hid A p)] (IP (hid A first)) := by
    rw [hid_eq hA p, ← hf]
    exact ufind_c hA V' N' M R hru' p hp0.1 (by omega)
  have hrep : ∀ (P1 Q1 : List (List Int)) (z : Int), PureCalls Try.prog 13 [keyedPV A K S, grP A R V' N' M P1 Q1, IP z] (IP (hid A (repM K V' z))) := fun P1 Q1 z => rep_c hA K S hst R V' N' M P1 Q1 hru' z
  have hat : PureCalls Try.prog 40 [keyedPV A K S, IP (hid A first)] (IP (hid A (atV K first))) := by
    rw [hid_eq hA first]; exact at_c hA K S hst first
  have hpre : (P.getD gone.toNat default).length ≤ 1000 := hPl _ (by rw [List.getD_eq_getElem?_getD, List.getElem?_eq_getElem (by omega)]; exact List.getElem_mem _)
  have hsuc : (Q.getD gone.toNat default).length ≤ 1000 := hQl _ (by rw [List.getD_eq_getElem?_getD, List.getElem?_eq_getElem (by omega)]; exact List.getElem_mem _)
  clear hPl hQl hV' hN' hf
  refine PureCalls.of Try.func26 rfl (by kernel_rfl) rfl ?_
  try first | refine AOLg.of [16] ?_ | refine QSg.of [16] ?_
  repeat' (first | (refine AWp.pass ?_; first | refine AWp.seq ?_ | refine AWp.block ?_ | refine AWp.skip ?_ | refine AWp.regG [16] Zc ?_ | refine AWp.cond_t rfl ?_ | refine AWp.cond_f rfl ?_ | (refine AWp.cond rfl ?_ ?_ <;> intro hc <;> (try rw [hc]) <;> ((try simp only [zn] at hc) <;> (try simp (disch := omega) only [zz hA, zb, zy, reduceCtorEq, Bool.false_eq_true, Int.reduceLT, Int.reduceLE, Int.reduceNeg] at hc) <;> (try simp only [zw] at hc)) <;> (try (exfalso; omega))) | refine AWp.exit ?_ | refine AWp.ret ⟨.inr rfl, _, RetOk.ev tabOk Zc, ?_⟩ | refine W.AWp.drawVG [16] rfl (by decide +kernel) Zc ?_) | (refine AOLg.pass ?_; refine AOLg.nx hA tabOk Zc ?_; first | refine NX.done ?_ | refine NX.gt ?_ | refine NX.gf ?_ | (refine NX.gs ?_ ?_ <;> intro hc <;> rw [hc] <;> ((try simp only [zn] at hc) <;> (try simp (disch := omega) only [zz hA, zb, zy, reduceCtorEq, Bool.false_eq_true, Int.reduceLT, Int.reduceLE, Int.reduceNeg] at hc) <;> (try simp only [zw] at hc)) <;> (try (exfalso; omega))) | (refine NX.kC ?_; first | (with_reducible refine NX.call (fx) ?_) | (with_reducible refine NX.call (fy) ?_) | (with_reducible refine NX.call (hj) ?_) | (with_reducible refine NX.call (ff) ?_) | ((first | refine NX.call (fx) ?_ | refine NX.call (fy) ?_ | refine NX.call (hj) ?_ | refine NX.call (ff) ?_)) | fail) | (refine NX.kO ?_; (first | refine NX.callO (fx) (by simp [allEq]) rfl ?_ | refine NX.callO (fy) (by simp [allEq]) rfl ?_ | refine NX.callO (hj) (by simp [allEq]) rfl ?_ | refine NX.callO (ff) (by simp [allEq]) rfl ?_)) | refine NX.k 1 (NX.one Z1 ?_) | refine NX.k 7 (NX.one Z7 ?_) | refine NX.k 8 (NX.one Z8 ?_) | refine NX.k 10 (NX.one Z10 ?_) | refine NX.k 11 (NX.one Z11 ?_) | refine NX.k 14 (NX.one Z14 ?_) | refine NX.k 15 (NX.one Z15 ?_) | refine NX.k 17 (NX.one Z17 ?_) | refine NX.k 18 (NX.one Z18 ?_) | (refine NX.one (One.scallT rfl rfl (cloneK_3 hA _ _ _ P (by omega))) ?_) | (refine NX.one (One.scallT rfl rfl (cloneK_4 hA _ _ _ _ Q (by omega))) ?_) | (refine NX.one (One.storeNilM hA tabOk rfl rfl rfl rfl rfl rfl Zd) ?_) | (refine NX.one (One.nilOwn tabOk 16 53 rfl rfl rfl) ?_) | refine NX.raw ?_) | (refine W.TRg.pass ?_; refine W.TRg.nx hA tabOk Zc ?_; first | refine W.TX.done ?_ | refine W.TX.gt ?_ | refine W.TX.gf ?_ | (refine W.TX.gs ?_ ?_ <;> intro hc <;> rw [hc] <;> ((try simp only [zn] at hc) <;> (try simp (disch := omega) only [zz hA, zb, zy, reduceCtorEq, Bool.false_eq_true, Int.reduceLT, Int.reduceLE, Int.reduceNeg] at hc) <;> (try simp only [zw] at hc)) <;> (try (exfalso; omega))) | (refine W.TX.kC ?_; first | (with_reducible refine W.TX.call (fx) ?_) | (with_reducible refine W.TX.call (fy) ?_) | (with_reducible refine W.TX.call (hj) ?_) | (with_reducible refine W.TX.call (ff) ?_) | ((first | refine W.TX.call (fx) ?_ | refine W.TX.call (fy) ?_ | refine W.TX.call (hj) ?_ | refine W.TX.call (ff) ?_)) | fail) | (refine W.TX.kO ?_; (first | refine W.TX.callO (fx) (by simp [allEq]) rfl ?_ | refine W.TX.callO (fy) (by simp [allEq]) rfl ?_ | refine W.TX.callO (hj) (by simp [allEq]) rfl ?_ | refine W.TX.callO (ff) (by simp [allEq]) rfl ?_)) | refine W.TX.k 1 (W.TX.one Z1 ?_) | refine W.TX.k 7 (W.TX.one Z7 ?_) | refine W.TX.k 8 (W.TX.one Z8 ?_) | refine W.TX.k 10 (W.TX.one Z10 ?_) | refine W.TX.k 11 (W.TX.one Z11 ?_) | refine W.TX.k 14 (W.TX.one Z14 ?_) | refine W.TX.k 15 (W.TX.one Z15 ?_) | refine W.TX.k 17 (W.TX.one Z17 ?_) | refine W.TX.k 18 (W.TX.one Z18 ?_) | (refine W.TX.one (One.scallT rfl rfl (cloneK_3 hA _ _ _ P (by omega))) ?_) | (refine W.TX.one (One.scallT rfl rfl (cloneK_4 hA _ _ _ _ Q (by omega))) ?_) | (refine W.TX.one (One.storeNilM hA tabOk rfl rfl rfl rfl rfl rfl Zd) ?_) | (refine W.TX.one (One.nilOwn tabOk 16 53 rfl rfl rfl) ?_) | refine W.TX.raw ?_) | refine W.Fin3.of Zc (by repeat' (first | exact True.intro | exact rfl | refine And.intro ?_ ?_)) ?_ ?_ | (refine W.AllO.pass ?_; first | exact W.AllO.nil | (refine W.AllO.cons (One.ev hA tabOk ?_) ?_ <;> (first | refine W.AllO.pass ?_ | ((conv => lhs; cbv); done))) | (refine W.AllO.cons (One.skipB ?_) ?_ <;> (first | refine W.AllO.pass ?_ | ((conv => lhs; cbv); done))) | ((with_reducible refine W.AllO.call Zc (fx) ?_ ?_) <;> (first | refine W.AllO.pass ?_ | exact rfl | exact Zd)) | ((with_reducible refine W.AllO.call Zc (fy) ?_ ?_) <;> (first | refine W.AllO.pass ?_ | exact rfl | exact Zd)) | ((with_reducible refine W.AllO.call Zc (hj) ?_ ?_) <;> (first | refine W.AllO.pass ?_ | exact rfl | exact Zd)) | ((with_reducible refine W.AllO.call Zc (ff) ?_ ?_) <;> (first | refine W.AllO.pass ?_ | exact rfl | exact Zd)) | refine W.AllO.consX ZX rfl rfl ?_ | ((refine W.AllO.consX (One.storeNilM hA tabOk rfl rfl rfl rfl rfl rfl Zd) rfl rfl ?_) <;> (first | refine W.AllO.pass ?_ | exact Zd))) | refine Thn.exit ?_ | refine Blk.here ?_ | refine Blk.other (by decide) ?_ | refine ⟨.inl rfl, _, RetOk.ev tabOk Zc, ?_⟩ | fail)
  all_goals try (exfalso; omega)
  have hexp : A .sub .i64 (A .add .i64 (hid A p) (hid A q)) (hid A first) = gone := by exact Zd
  have hidn : (A (.hid Nat) fun _ => gone.toNat) = gone.toNat := rhid hA _
  rw [hexp, hidn]
  obtain ⟨P1, hP1⟩ : ∃ P1, P1 = P.set gone.toNat [] := ⟨_, rfl⟩
  obtain ⟨Q1, hQ1⟩ : ∃ Q1, Q1 = Q.set gone.toNat [] := ⟨_, rfl⟩
  rw [← hP1, ← hQ1]
  generalize P.getD gone.toNat default = pre at *
  generalize Q.getD gone.toNat default = suc at *
  obtain ⟨f1, hf1⟩ : ∃ f1 : Int → Int × Int, f1 = fun id => (repM K V' id, atV K first) := ⟨_, rfl⟩
  obtain ⟨f2, hf2⟩ : ∃ f2 : Int → Int × Int, f2 = fun id => (atV K first, repM K V' id) := ⟨_, rfl⟩
  have ho : outs K V' first pre suc = pre.map f1 ++ suc.map f2 := by rw [hf1, hf2]; rfl
  rw [ho]
  refine AWp.loopU (fun x : Nat × Nat => [(78, .ic (.lit (.int .i64 (hid A (cN x.1))))), (16, .own 5 x.2)]) (fun x => [.var true 26 [.ic (.sl 1 false (hid A (List.map (encK A) K))), .ic (.sl 1 false (hid A (List.map encI S)))], .var true 31 [.ic (.sl 1 false (hid A (List.map encI R))), .ic (.sl 1 false (hid A (List.map encI V'))), .ic (.sl 2 false (hid A (List.map encN N'))), .ic (.sl 1 false (hid A (List.map encI M))), .own 3 1, .own 4 1], .var true 31 [.ic (.sl 0 true []), .ic (.sl 0 true []), .ic (.sl 0 true []), .ic (.sl 0 true []), .ic (.sl 0 true []), .ic (.sl 0 true [])], .row true 1 24 1 (hid A (List.map (encK A) P1)), .row true 1 24 1 (hid A (List.map (encK A) Q1)), .row true x.2 58 2 (hid A (List.map encN ((pre.take x.1).map f1)))])
    (fun x => pre.length - x.1) (fun x => x.1 ≤ pre.length) (0, 0) (by conv => lhs; cbv) (Nat.zero_le _) (by ((repeat' (first | exact subE.nil | refine subE.cons rfl ?_ | refine subE.int rfl ?_ ?_ | refine subE.bool rfl ?_ ?_ | refine subE.str rfl ?_ ?_ | refine subE.sl rfl ?_ ?_))) <;> first | rfl | simp [hA, real, hid, cN]) (by simp [hid_eq hA]) ?_
  rintro ⟨k, v⟩ hk
  simp only at hk ⊢
  by_cases hlt : k < pre.length
  · have hln : ((pre.take k).map f1).length = k := by simp; omega
    have hnx := take_map f1 pre k hlt
    generalize hT2 : (pre.take (k + 1)).map f1 = T2 at *
    generalize (pre.take k).map f1 = T at *
    try first | refine AOLg.of [] ?_ | refine QSg.of [] ?_
    repeat' (first | (refine AWp.pass ?_; first | refine AWp.seq ?_ | refine AWp.block ?_ | refine AWp.skip ?_ | refine AWp.regG [] Zc ?_ | refine AWp.cond_t rfl ?_ | refine AWp.cond_f rfl ?_ | (refine AWp.cond rfl ?_ ?_ <;> intro hc <;> (try rw [hc]) <;> ((try simp only [zn] at hc) <;> (try simp (disch := omega) only [zz hA, zb, zy, reduceCtorEq, Bool.false_eq_true, Int.reduceLT, Int.reduceLE, Int.reduceNeg] at hc) <;> (try simp only [zw] at hc)) <;> (try (exfalso; omega))) | refine AWp.exit ?_ | refine AWp.ret ⟨.inr rfl, _, RetOk.ev tabOk Zc, ?_⟩ | refine W.AWp.drawVG [] rfl (by decide +kernel) Zc ?_) | (refine AOLg.pass ?_; refine AOLg.nx hA tabOk Zc ?_; first | refine NX.done ?_ | refine NX.gt ?_ | refine NX.gf ?_ | (refine NX.gs ?_ ?_ <;> intro hc <;> rw [hc] <;> ((try simp only [zn] at hc) <;> (try simp (disch := omega) only [zz hA, zb, zy, reduceCtorEq, Bool.false_eq_true, Int.reduceLT, Int.reduceLE, Int.reduceNeg] at hc) <;> (try simp only [zw] at hc)) <;> (try (exfalso; omega))) | (refine NX.kC ?_; first | (with_reducible refine NX.call (hrep _ _ _) ?_) | (with_reducible refine NX.call (hat) ?_) | ((first | refine NX.call (hrep _ _ _) ?_ | refine NX.call (hat) ?_)) | fail) | (refine NX.kO ?_; (first | refine NX.callO (hrep _ _ _) (by simp [allEq]) rfl ?_ | refine NX.callO (hat) (by simp [allEq]) rfl ?_)) | refine NX.k 1 (NX.one Z1 ?_) | refine NX.k 7 (NX.one Z7 ?_) | refine NX.k 8 (NX.one Z8 ?_) | refine NX.k 10 (NX.one Z10 ?_) | refine NX.k 11 (NX.one Z11 ?_) | refine NX.k 14 (NX.one Z14 ?_) | refine NX.k 15 (NX.one Z15 ?_) | refine NX.k 17 (NX.one Z17 ?_) | refine NX.k 18 (NX.one Z18 ?_) | (refine NX.one (One.buildArr tabOk rfl rfl rfl rfl rfl rfl) ?_) | (refine NX.one (One.appendOwnM hA tabOk (f := encN) (f1 (pre.getD k default)) rfl rfl rfl rfl rfl rfl (by simp only [encN, hf1, hid_eq hA, cN, Int.toNat_natCast]) Zd Zd) ?_) | refine NX.raw ?_) | (refine W.TRg.pass ?_; refine W.TRg.nx hA tabOk Zc ?_; first | refine W.TX.done ?_ | refine W.TX.gt ?_ | refine W.TX.gf ?_ | (refine W.TX.gs ?_ ?_ <;> intro hc <;> rw [hc] <;> ((try simp only [zn] at hc) <;> (try simp (disch := omega) only [zz hA, zb, zy, reduceCtorEq, Bool.false_eq_true, Int.reduceLT, Int.reduceLE, Int.reduceNeg] at hc) <;> (try simp only [zw] at hc)) <;> (try (exfalso; omega))) | (refine W.TX.kC ?_; first | (with_reducible refine W.TX.call (hrep _ _ _) ?_) | (with_reducible refine W.TX.call (hat) ?_) | ((first | refine W.TX.call (hrep _ _ _) ?_ | refine W.TX.call (hat) ?_)) | fail) | (refine W.TX.kO ?_; (first | refine W.TX.callO (hrep _ _ _) (by simp [allEq]) rfl ?_ | refine W.TX.callO (hat) (by simp [allEq]) rfl ?_)) | refine W.TX.k 1 (W.TX.one Z1 ?_) | refine W.TX.k 7 (W.TX.one Z7 ?_) | refine W.TX.k 8 (W.TX.one Z8 ?_) | refine W.TX.k 10 (W.TX.one Z10 ?_) | refine W.TX.k 11 (W.TX.one Z11 ?_) | refine W.TX.k 14 (W.TX.one Z14 ?_) | refine W.TX.k 15 (W.TX.one Z15 ?_) | refine W.TX.k 17 (W.TX.one Z17 ?_) | refine W.TX.k 18 (W.TX.one Z18 ?_) | (refine W.TX.one (One.buildArr tabOk rfl rfl rfl rfl rfl rfl) ?_) | (refine W.TX.one (One.appendOwnM hA tabOk (f := encN) (f1 (pre.getD k default)) rfl rfl rfl rfl rfl rfl (by simp only [encN, hf1, hid_eq hA, cN, Int.toNat_natCast]) Zd Zd) ?_) | refine W.TX.raw ?_) | refine W.Fin3.of Zc (by repeat' (first | exact True.intro | exact rfl | refine And.intro ?_ ?_)) ?_ ?_ | (refine W.AllO.pass ?_; first | exact W.AllO.nil | (refine W.AllO.cons (One.ev hA tabOk ?_) ?_ <;> (first | refine W.AllO.pass ?_ | ((conv => lhs; cbv); done))) | (refine W.AllO.cons (One.skipB ?_) ?_ <;> (first | refine W.AllO.pass ?_ | ((conv => lhs; cbv); done))) | ((with_reducible refine W.AllO.call Zc (hrep _ _ _) ?_ ?_) <;> (first | refine W.AllO.pass ?_ | exact rfl | exact Zd)) | ((with_reducible refine W.AllO.call Zc (hat) ?_ ?_) <;> (first | refine W.AllO.pass ?_ | exact rfl | exact Zd)) | refine W.AllO.consX ZX rfl rfl ?_ | ((refine W.AllO.consX (One.buildArr tabOk rfl rfl rfl rfl rfl rfl) rfl rfl ?_) <;> (first | refine W.AllO.pass ?_ | exact Zd))) | refine Thn.exit ?_ | refine Blk.here ?_ | refine Blk.other (by decide) ?_ | refine ⟨.inl rfl, _, RetOk.ev tabOk Zc, ?_⟩ | fail)
    refine ⟨(k + 1, v + 1), by simp only; omega, by simp only; omega, rfl, ?_, ?_, Zk⟩
    · simp only [hT2, hnx]
    · (repeat' (first | exact subE.nil | refine subE.cons rfl ?_ | refine subE.int rfl ?_ ?_ | refine subE.bool rfl ?_ ?_ | refine subE.str rfl ?_ ?_ | refine subE.sl rfl ?_ ?_))
      all_goals first | rfl | exact Zd
  · rw [show pre.take k = pre from List.take_of_length_le (by omega)]
    try first | refine AOLg.of [] ?_ | refine QSg.of [] ?_
    repeat' (first | (refine AWp.pass ?_; first | refine AWp.seq ?_ | refine AWp.block ?_ | refine AWp.skip ?_ | refine AWp.regG [] Zc ?_ | refine AWp.cond_t rfl ?_ | refine AWp.cond_f rfl ?_ | (refine AWp.cond rfl ?_ ?_ <;> intro hc <;> (try rw [hc]) <;> ((try simp only [zn] at hc) <;> (try simp (disch := omega) only [zz hA, zb, zy, reduceCtorEq, Bool.false_eq_true, Int.reduceLT, Int.reduceLE, Int.reduceNeg] at hc) <;> (try simp only [zw] at hc)) <;> (try (exfalso; omega))) | refine AWp.exit ?_ | refine AWp.ret ⟨.inr rfl, _, RetOk.ev tabOk Zc, ?_⟩ | refine W.AWp.drawVG [] rfl (by decide +kernel) Zc ?_) | (refine AOLg.pass ?_; refine AOLg.nx hA tabOk Zc ?_; first | refine NX.done ?_ | refine NX.gt ?_ | refine NX.gf ?_ | (refine NX.gs ?_ ?_ <;> intro hc <;> rw [hc] <;> ((try simp only [zn] at hc) <;> (try simp (disch := omega) only [zz hA, zb, zy, reduceCtorEq, Bool.false_eq_true, Int.reduceLT, Int.reduceLE, Int.reduceNeg] at hc) <;> (try simp only [zw] at hc)) <;> (try (exfalso; omega))) | refine NX.k 1 (NX.one Z1 ?_) | refine NX.k 7 (NX.one Z7 ?_) | refine NX.k 8 (NX.one Z8 ?_) | refine NX.k 10 (NX.one Z10 ?_) | refine NX.k 11 (NX.one Z11 ?_) | refine NX.k 14 (NX.one Z14 ?_) | refine NX.k 15 (NX.one Z15 ?_) | refine NX.k 17 (NX.one Z17 ?_) | refine NX.k 18 (NX.one Z18 ?_) | refine NX.raw ?_) | (refine W.TRg.pass ?_; refine W.TRg.nx hA tabOk Zc ?_; first | refine W.TX.done ?_ | refine W.TX.gt ?_ | refine W.TX.gf ?_ | (refine W.TX.gs ?_ ?_ <;> intro hc <;> rw [hc] <;> ((try simp only [zn] at hc) <;> (try simp (disch := omega) only [zz hA, zb, zy, reduceCtorEq, Bool.false_eq_true, Int.reduceLT, Int.reduceLE, Int.reduceNeg] at hc) <;> (try simp only [zw] at hc)) <;> (try (exfalso; omega))) | refine W.TX.k 1 (W.TX.one Z1 ?_) | refine W.TX.k 7 (W.TX.one Z7 ?_) | refine W.TX.k 8 (W.TX.one Z8 ?_) | refine W.TX.k 10 (W.TX.one Z10 ?_) | refine W.TX.k 11 (W.TX.one Z11 ?_) | refine W.TX.k 14 (W.TX.one Z14 ?_) | refine W.TX.k 15 (W.TX.one Z15 ?_) | refine W.TX.k 17 (W.TX.one Z17 ?_) | refine W.TX.k 18 (W.TX.one Z18 ?_) | refine W.TX.raw ?_) | refine W.Fin3.of Zc (by repeat' (first | exact True.intro | exact rfl | refine And.intro ?_ ?_)) ?_ ?_ | (refine W.AllO.pass ?_; first | exact W.AllO.nil | (refine W.AllO.cons (One.ev hA tabOk ?_) ?_ <;> (first | refine W.AllO.pass ?_ | ((conv => lhs; cbv); done))) | (refine W.AllO.cons (One.skipB ?_) ?_ <;> (first | refine W.AllO.pass ?_ | ((conv => lhs; cbv); done))) | refine W.AllO.consX ZX rfl rfl ?_) | refine Thn.exit ?_ | refine Blk.here ?_ | refine Blk.other (by decide) ?_ | refine ⟨.inl rfl, _, RetOk.ev tabOk Zc, ?_⟩ | fail)
    all_goals try (exfalso; omega)
    generalize hT0 : pre.map f1 = T0 at *
    have hT0l : T0.length = pre.length := by rw [← hT0, List.length_map]
    refine AWp.loopU (fun x : Nat × Nat => [(96, .ic (.lit (.int .i64 (hid A (cN x.1))))), (16, .own 5 x.2)]) (fun x => [.var true 26 [.ic (.sl 1 false (hid A (List.map (encK A) K))), .ic (.sl 1 false (hid A (List.map encI S)))], .var true 31 [.ic (.sl 1 false (hid A (List.map encI R))), .ic (.sl 1 false (hid A (List.map encI V'))), .ic (.sl 2 false (hid A (List.map encN N'))), .ic (.sl 1 false (hid A (List.map encI M))), .own 3 1, .own 4 1], .var true 31 [.ic (.sl 0 true []), .ic (.sl 0 true []), .ic (.sl 0 true []), .ic (.sl 0 true []), .ic (.sl 0 true []), .ic (.sl 0 true [])], .row true 1 24 1 (hid A (List.map (encK A) P1)), .row true 1 24 1 (hid A (List.map (encK A) Q1)), .row true x.2 58 2 (hid A (List.map encN (T0 ++ (suc.take x.1).map f2)))])
      (fun x => suc.length - x.1) (fun x => x.1 ≤ suc.length) (0, v) (by conv => lhs; cbv) (Nat.zero_le _) (by ((repeat' (first | exact subE.nil | refine subE.cons rfl ?_ | refine subE.int rfl ?_ ?_ | refine subE.bool rfl ?_ ?_ | refine subE.str rfl ?_ ?_ | refine subE.sl rfl ?_ ?_))) <;> first | rfl | simp [hA, real, hid, cN]) (by simp [hid_eq hA]) ?_
    rintro ⟨n, u⟩ hn
    simp only at hn ⊢
    by_cases hlt2 : n < suc.length
    · have hln : (T0 ++ (suc.take n).map f2).length = pre.length + n := by rw [List.length_append, List.length_map, List.length_take, hT0l]; omega
      have hnx : T0 ++ (suc.take (n + 1)).map f2 = (T0 ++ (suc.take n).map f2) ++ [f2 (suc.getD n default)] := by rw [take_map f2 suc n hlt2, List.append_assoc]
      generalize hT2 : T0 ++ (suc.take (n + 1)).map f2 = T2 at *
      generalize T0 ++ (suc.take n).map f2 = T at *
      try first | refine AOLg.of [] ?_ | refine QSg.of [] ?_
      repeat' (first | (refine AWp.pass ?_; first | refine AWp.seq ?_ | refine AWp.block ?_ | refine AWp.skip ?_ | refine AWp.regG [] Zc ?_ | refine AWp.cond_t rfl ?_ | refine AWp.cond_f rfl ?_ | (refine AWp.cond rfl ?_ ?_ <;> intro hc <;> (try rw [hc]) <;> ((try simp only [zn] at hc) <;> (try simp (disch := omega) only [zz hA, zb, zy, reduceCtorEq, Bool.false_eq_true, Int.reduceLT, Int.reduceLE, Int.reduceNeg] at hc) <;> (try simp only [zw] at hc)) <;> (try (exfalso; omega))) | refine AWp.exit ?_ | refine AWp.ret ⟨.inr rfl, _, RetOk.ev tabOk Zc, ?_⟩ | refine W.AWp.drawVG [] rfl (by decide +kernel) Zc ?_) | (refine AOLg.pass ?_; refine AOLg.nx hA tabOk Zc ?_; first | refine NX.done ?_ | refine NX.gt ?_ | refine NX.gf ?_ | (refine NX.gs ?_ ?_ <;> intro hc <;> rw [hc] <;> ((try simp only [zn] at hc) <;> (try simp (disch := omega) only [zz hA, zb, zy, reduceCtorEq, Bool.false_eq_true, Int.reduceLT, Int.reduceLE, Int.reduceNeg] at hc) <;> (try simp only [zw] at hc)) <;> (try (exfalso; omega))) | (refine NX.kC ?_; first | (with_reducible refine NX.call (hrep _ _ _) ?_) | (with_reducible refine NX.call (hat) ?_) | ((first | refine NX.call (hrep _ _ _) ?_ | refine NX.call (hat) ?_)) | fail) | (refine NX.kO ?_; (first | refine NX.callO (hrep _ _ _) (by simp [allEq]) rfl ?_ | refine NX.callO (hat) (by simp [allEq]) rfl ?_)) | refine NX.k 1 (NX.one Z1 ?_) | refine NX.k 7 (NX.one Z7 ?_) | refine NX.k 8 (NX.one Z8 ?_) | refine NX.k 10 (NX.one Z10 ?_) | refine NX.k 11 (NX.one Z11 ?_) | refine NX.k 14 (NX.one Z14 ?_) | refine NX.k 15 (NX.one Z15 ?_) | refine NX.k 17 (NX.one Z17 ?_) | refine NX.k 18 (NX.one Z18 ?_) | (refine NX.one (One.buildArr tabOk rfl rfl rfl rfl rfl rfl) ?_) | (refine NX.one (One.appendOwnM hA tabOk (f := encN) (f2 (suc.getD n default)) rfl rfl rfl rfl rfl rfl (by simp only [encN, hf2, hid_eq hA, cN, Int.toNat_natCast]) Zd Zd) ?_) | refine NX.raw ?_) | (refine W.TRg.pass ?_; refine W.TRg.nx hA tabOk Zc ?_; first | refine W.TX.done ?_ | refine W.TX.gt ?_ | refine W.TX.gf ?_ | (refine W.TX.gs ?_ ?_ <;> intro hc <;> rw [hc] <;> ((try simp only [zn] at hc) <;> (try simp (disch := omega) only [zz hA, zb, zy, reduceCtorEq, Bool.false_eq_true, Int.reduceLT, Int.reduceLE, Int.reduceNeg] at hc) <;> (try simp only [zw] at hc)) <;> (try (exfalso; omega))) | (refine W.TX.kC ?_; first | (with_reducible refine W.TX.call (hrep _ _ _) ?_) | (with_reducible refine W.TX.call (hat) ?_) | ((first | refine W.TX.call (hrep _ _ _) ?_ | refine W.TX.call (hat) ?_)) | fail) | (refine W.TX.kO ?_; (first | refine W.TX.callO (hrep _ _ _) (by simp [allEq]) rfl ?_ | refine W.TX.callO (hat) (by simp [allEq]) rfl ?_)) | refine W.TX.k 1 (W.TX.one Z1 ?_) | refine W.TX.k 7 (W.TX.one Z7 ?_) | refine W.TX.k 8 (W.TX.one Z8 ?_) | refine W.TX.k 10 (W.TX.one Z10 ?_) | refine W.TX.k 11 (W.TX.one Z11 ?_) | refine W.TX.k 14 (W.TX.one Z14 ?_) | refine W.TX.k 15 (W.TX.one Z15 ?_) | refine W.TX.k 17 (W.TX.one Z17 ?_) | refine W.TX.k 18 (W.TX.one Z18 ?_) | (refine W.TX.one (One.buildArr tabOk rfl rfl rfl rfl rfl rfl) ?_) | (refine W.TX.one (One.appendOwnM hA tabOk (f := encN) (f2 (suc.getD n default)) rfl rfl rfl rfl rfl rfl (by simp only [encN, hf2, hid_eq hA, cN, Int.toNat_natCast]) Zd Zd) ?_) | refine W.TX.raw ?_) | refine W.Fin3.of Zc (by repeat' (first | exact True.intro | exact rfl | refine And.intro ?_ ?_)) ?_ ?_ | (refine W.AllO.pass ?_; first | exact W.AllO.nil | (refine W.AllO.cons (One.ev hA tabOk ?_) ?_ <;> (first | refine W.AllO.pass ?_ | ((conv => lhs; cbv); done))) | (refine W.AllO.cons (One.skipB ?_) ?_ <;> (first | refine W.AllO.pass ?_ | ((conv => lhs; cbv); done))) | ((with_reducible refine W.AllO.call Zc (hrep _ _ _) ?_ ?_) <;> (first | refine W.AllO.pass ?_ | exact rfl | exact Zd)) | ((with_reducible refine W.AllO.call Zc (hat) ?_ ?_) <;> (first | refine W.AllO.pass ?_ | exact rfl | exact Zd)) | refine W.AllO.consX ZX rfl rfl ?_ | ((refine W.AllO.consX (One.buildArr tabOk rfl rfl rfl rfl rfl rfl) rfl rfl ?_) <;> (first | refine W.AllO.pass ?_ | exact Zd))) | refine Thn.exit ?_ | refine Blk.here ?_ | refine Blk.other (by decide) ?_ | refine ⟨.inl rfl, _, RetOk.ev tabOk Zc, ?_⟩ | fail)
      refine ⟨(n + 1, u + 1), by simp only; omega, by simp only; omega, rfl, ?_, ?_, Zk⟩
      · simp only [hT2, hnx]
      · (repeat' (first | exact subE.nil | refine subE.cons rfl ?_ | refine subE.int rfl ?_ ?_ | refine subE.bool rfl ?_ ?_ | refine subE.str rfl ?_ ?_ | refine subE.sl rfl ?_ ?_))
        all_goals first | rfl | exact Zd
    · rw [show suc.take n = suc from List.take_of_length_le (by omega)]
      try first | refine AOLg.of [] ?_ | refine QSg.of [] ?_
      repeat' (first | (refine AWp.pass ?_; first | refine AWp.seq ?_ | refine AWp.block ?_ | refine AWp.skip ?_ | refine AWp.regG [] Zc ?_ | refine AWp.cond_t rfl ?_ | refine AWp.cond_f rfl ?_ | (refine AWp.cond rfl ?_ ?_ <;> intro hc <;> (try rw [hc]) <;> ((try simp only [zn] at hc) <;> (try simp (disch := omega) only [zz hA, zb, zy, reduceCtorEq, Bool.false_eq_true, Int.reduceLT, Int.reduceLE, Int.reduceNeg] at hc) <;> (try simp only [zw] at hc)) <;> (try (exfalso; omega))) | refine AWp.exit ?_ | refine AWp.ret ⟨.inr rfl, _, RetOk.ev tabOk Zc, ?_⟩ | refine W.AWp.drawVG [] rfl (by decide +kernel) Zc ?_) | (refine AOLg.pass ?_; refine AOLg.nx hA tabOk Zc ?_; first | refine NX.done ?_ | refine NX.gt ?_ | refine NX.gf ?_ | (refine NX.gs ?_ ?_ <;> intro hc <;> rw [hc] <;> ((try simp only [zn] at hc) <;> (try simp (disch := omega) only [zz hA, zb, zy, reduceCtorEq, Bool.false_eq_true, Int.reduceLT, Int.reduceLE, Int.reduceNeg] at hc) <;> (try simp only [zw] at hc)) <;> (try (exfalso; omega))) | refine NX.k 1 (NX.one Z1 ?_) | refine NX.k 7 (NX.one Z7 ?_) | refine NX.k 8 (NX.one Z8 ?_) | refine NX.k 10 (NX.one Z10 ?_) | refine NX.k 11 (NX.one Z11 ?_) | refine NX.k 14 (NX.one Z14 ?_) | refine NX.k 15 (NX.one Z15 ?_) | refine NX.k 17 (NX.one Z17 ?_) | refine NX.k 18 (NX.one Z18 ?_) | refine NX.raw ?_) | (refine W.TRg.pass ?_; refine W.TRg.nx hA tabOk Zc ?_; first | refine W.TX.done ?_ | refine W.TX.gt ?_ | refine W.TX.gf ?_ | (refine W.TX.gs ?_ ?_ <;> intro hc <;> rw [hc] <;> ((try simp only [zn] at hc) <;> (try simp (disch := omega) only [zz hA, zb, zy, reduceCtorEq, Bool.false_eq_true, Int.reduceLT, Int.reduceLE, Int.reduceNeg] at hc) <;> (try simp only [zw] at hc)) <;> (try (exfalso; omega))) | refine W.TX.k 1 (W.TX.one Z1 ?_) | refine W.TX.k 7 (W.TX.one Z7 ?_) | refine W.TX.k 8 (W.TX.one Z8 ?_) | refine W.TX.k 10 (W.TX.one Z10 ?_) | refine W.TX.k 11 (W.TX.one Z11 ?_) | refine W.TX.k 14 (W.TX.one Z14 ?_) | refine W.TX.k 15 (W.TX.one Z15 ?_) | refine W.TX.k 17 (W.TX.one Z17 ?_) | refine W.TX.k 18 (W.TX.one Z18 ?_) | refine W.TX.raw ?_) | refine W.Fin3.of Zc (by repeat' (first | exact True.intro | exact rfl | refine And.intro ?_ ?_)) ?_ ?_ | (refine W.AllO.pass ?_; first | exact W.AllO.nil | (refine W.AllO.cons (One.ev hA tabOk ?_) ?_ <;> (first | refine W.AllO.pass ?_ | ((conv => lhs; cbv); done))) | (refine W.AllO.cons (One.skipB ?_) ?_ <;> (first | refine W.AllO.pass ?_ | ((conv => lhs; cbv); done))) | refine W.AllO.consX ZX rfl rfl ?_) | refine Thn.exit ?_ | refine Blk.here ?_ | refine Blk.other (by decide) ?_ | refine ⟨.inl rfl, _, RetOk.ev tabOk Zc, ?_⟩ | fail)
      all_goals try (exfalso; omega)
      rw [hP1, hQ1]
      exact rPV_gr2 rfl rfl rfl
end Go.Proofs.Ytkkjlmcnfoncdaa.Aw

namespace Go.Proofs.Ytkkjlmcnfoncdaa.Aw
open Go Go.RowKit
set_option maxRecDepth 10000
attribute [local irreducible] AWp AOL QS One AOLg QSg NX QX TRg TX AllO Fin3
theorem rPV_gr5 {st : List AObj} {k w e2 s2 : Nat} {m2 : Bool} {zs : List (List IC)} {a b c d x y : IC} (h4 : st[k]? = some (.row m2 w e2 s2 zs)) :
    rPV st (.tup [.agg [.ic a, .ic b, .ic c, .ic d, .ic x, .ic y], .own k w]) = some (.tup [.agg [a, b, c, d, x, y], .c (.sl s2 false zs)]) := by
  simp [rPV, rPVs, rICs, rIC, toIC, h4]
theorem PureCalls.weakT {P : Program} {f : FuncId} {pvs xs ys : List PV} (h : PureCalls P f pvs (.tup xs)) (k : PLes xs ys) : PureCalls P f pvs (.tup ys) :=
  ⟨h.1, fun ok w vals hsz hv => (h.2 ok w vals hsz hv).mono fun e w' ⟨v, he, hp, hb⟩ => ⟨v, he, by
    cases hp with
    | tup _ vs h1 h2 =>
      exact .tup _ _ (by rw [h1, k.get.1]) fun i y hy => by
        obtain ⟨x, hx, hle⟩ := k.get.2 i y hy
        exact (h2 i x hx).le hle, hb⟩⟩
variable {A : Ar} (hA : A = real)
include hA
theorem one_cs (K : List (List Int)) (S : List Int) (hst : StK K S) (R M : List Int) (n N0 k : Nat) (hR : R.length ≤ 1000) (hn : n ≤ 1000) (hN : N0 + k ≤ 100000) (s : GS) (h : OkJ K R M n N0 k s) (a v : Int) (a0 : 0 ≤ a) (a1 : a < n) (v0 : 0 ≤ v) (v1 : v < n) (hne : findU s.V a ≠ findU s.V v) :
    PureCalls Try.prog 26 [keyedPV A K S, grP A R s.V s.N M s.P s.Q, IP a, IP v] (.tup [grP A R (putJ K R s (findU s.V a) (findU s.V v)).V (putJ K R s (findU s.V a) (findU s.V v)).N M (putJ K R s (findU s.V a) (findU s.V v)).P (putJ K R s (findU s.V a) (findU s.V v)).Q, slP A 2 encN (outs K (putJ K R s (findU s.V a) (findU s.V v)).V (findU (putJ K R s (findU s.V a) (findU s.V v)).V (findU s.V a)) (s.P.getD (goneJ R s (findU s.V a) (findU s.V v)).toNat default) (s.Q.getD (goneJ R s (findU s.V a) (findU s.V v)).toNat default))]) := by
  have j := put_joined h a0 a1 v0 v1 hne
  have hnn := h.nn
  exact one_c1 hA K S hst R s.V s.N M s.P s.Q h.ru hR (by rw [h.v]; exact hn) (by omega) (h.p.trans h.v.symm) (h.q.trans h.v.symm) h.pl h.ql a v _ _ _ _ _ _ a0 (by rw [h.v]; exact a1) v0 (by rw [h.v]; exact v1) rfl rfl hne rfl rfl rfl rfl j.g0 j.ru j.p0 j.q0 j.f0 j.len
theorem one_step (K : List (List Int)) (S : List Int) (hst : StK K S) (R M : List Int) (n N0 k : Nat) (hR : R.length ≤ 1000) (hn : n ≤ 1000) (hN : N0 + k ≤ 100000) (s : GS) (h : OkJ K R M n N0 k s) (a v : Int) (a0 : 0 ≤ a) (a1 : a < n) (v0 : 0 ≤ v) (v1 : v < n) (t : GS) (ht : t = stepJ K R a s v) :
    ∃ X : List (Int × Int), (∀ y z : Int, y = a → z = v → PureCalls Try.prog 26 [keyedPV A K S, grP A R s.V s.N M s.P s.Q, IP y, IP z] (.tup [grP A R t.V t.N M t.P t.Q, slP A 2 encN X])) ∧ t.O = s.O ++ X ∧ X.length ≤ 2000 := by
  by_cases he : findU s.V a = findU s.V v
  · have hv := h.v
    refine ⟨[], ?_, ?_, by simp⟩
    · rintro y z rfl rfl
      have e : t = s := by rw [ht]; unfold stepJ; rw [if_pos he]
      rw [e]
      exact PureCalls.weakT (one_c0 hA K S R s.V s.N M s.P s.Q h.ru y z a0 (by rw [hv]; exact a1) v0 (by rw [hv]; exact v1) he) (.cons (PLe.refl _) (.cons (PLe.c (ILe.nilM hA encN 0 2 true)) .nil))
    · rw [ht]; unfold stepJ; rw [if_pos he, List.append_nil]
  · have e : t = putJ K R s (findU s.V a) (findU s.V v) := by rw [ht]; unfold stepJ; rw [if_neg he]
    have j := put_joined h a0 a1 v0 v1 he
    have hg := j.g0
    have hp1 := row_get (g := (goneJ R s (findU s.V a) (findU s.V v)).toNat) h.pl (by rw [h.p, ← h.v]; omega)
    have hq1 := row_get (g := (goneJ R s (findU s.V a) (findU s.V v)).toNat) h.ql (by rw [h.q, ← h.v]; omega)
    refine ⟨_, ?_, by rw [e]; rfl, by rw [outs_len]; omega⟩
    rintro y z rfl rfl
    rw [e]
    exact one_cs hA K S hst R M n N0 k hR hn hN s h y z a0 a1 v0 v1 he
set_option maxHeartbeats 4000000 in
theorem join13_c (K : List (List Int)) (S : List Int) (hst : StK K S) (R M : List Int) (n N0 : Nat) (hR : R.length ≤ 1000) (hn : n ≤ 1000) (hN : N0 ≤ 2000) (s : GS) (h : OkJ K R M n N0 0 s) (l : List Int) (hl : ∀ j : Nat, j < l.length → 0 ≤ l.getD j default ∧ l.getD j default < n) (h0 : 0 < l.length) (h40 : l.length ≤ 1000) (hO : s.O = []) :
    PureCalls Try.prog 29 [keyedPV A K S, grP A R s.V s.N M s.P s.Q, intsP A l] (.tup [grP A R (jkM K R s l l.length).V (jkM K R s l l.length).N M (jkM K R s l l.length).P (jkM K R s l l.length).Q, slP A 2 encN (jkM K R s l l.length).O]) := by
  have hjk := join_ok h hl h0
  have j0 := jk_zero K R s l
  have j1 := jk_one K R s l
  have js := jk_succ K R s l
  refine PureCalls.of Try.func29 rfl (by kernel_rfl) rfl ?_
  try first | refine AOLg.of [8] ?_ | refine QSg.of [8] ?_
  repeat' (first | (refine AWp.pass ?_; first | refine AWp.seq ?_ | refine AWp.block ?_ | refine AWp.skip ?_ | refine AWp.regG [8] Zc ?_ | refine AWp.cond_t rfl ?_ | refine AWp.cond_f rfl ?_ | (refine AWp.cond rfl ?_ ?_ <;> intro hc <;> (try rw [hc]) <;> ((try simp only [zn] at hc) <;> (try simp (disch := omega) only [zz hA, zb, zy, reduceCtorEq, Bool.false_eq_true, Int.reduceLT, Int.reduceLE, Int.reduceNeg] at hc) <;> (try simp only [zw] at hc)) <;> (try (exfalso; omega))) | refine AWp.exit ?_ | refine AWp.ret ⟨.inr rfl, _, RetOk.ev tabOk Zc, ?_⟩ | refine AWp.drawVG [8] rfl (by decide +kernel) Zc ?_) | (refine AOLg.pass ?_; refine AOLg.nx hA tabOk Zc ?_; first | refine NX.done ?_ | refine NX.gt ?_ | refine NX.gf ?_ | (refine NX.gs ?_ ?_ <;> intro hc <;> rw [hc] <;> ((try simp only [zn] at hc) <;> (try simp (disch := omega) only [zz hA, zb, zy, reduceCtorEq, Bool.false_eq_true, Int.reduceLT, Int.reduceLE, Int.reduceNeg] at hc) <;> (try simp only [zw] at hc)) <;> (try (exfalso; omega))) | refine NX.k 1 (NX.one Z1 ?_) | refine NX.k 7 (NX.one Z7 ?_) | refine NX.k 8 (NX.one Z8 ?_) | refine NX.k 10 (NX.one Z10 ?_) | refine NX.k 11 (NX.one Z11 ?_) | refine NX.k 14 (NX.one Z14 ?_) | refine NX.k 15 (NX.one Z15 ?_) | (refine NX.one (One.nilOwn tabOk 8 53 rfl rfl rfl) ?_) | refine NX.raw ?_) | (refine TRg.pass ?_; refine TRg.nx hA tabOk Zc ?_; first | refine TX.done ?_ | refine TX.gt ?_ | refine TX.gf ?_ | (refine TX.gs ?_ ?_ <;> intro hc <;> rw [hc] <;> ((try simp only [zn] at hc) <;> (try simp (disch := omega) only [zz hA, zb, zy, reduceCtorEq, Bool.false_eq_true, Int.reduceLT, Int.reduceLE, Int.reduceNeg] at hc) <;> (try simp only [zw] at hc)) <;> (try (exfalso; omega))) | refine TX.k 1 (TX.one Z1 ?_) | refine TX.k 7 (TX.one Z7 ?_) | refine TX.k 8 (TX.one Z8 ?_) | refine TX.k 10 (TX.one Z10 ?_) | refine TX.k 11 (TX.one Z11 ?_) | refine TX.k 14 (TX.one Z14 ?_) | refine TX.k 15 (TX.one Z15 ?_) | (refine TX.one (One.nilOwn tabOk 8 53 rfl rfl rfl) ?_) | refine TX.raw ?_) | refine Fin3.of Zc (by repeat' (first | exact True.intro | exact rfl | refine And.intro ?_ ?_)) ?_ ?_ | (refine AllO.pass ?_; first | exact AllO.nil | (refine AllO.cons (One.ev hA tabOk ?_) ?_ <;> (first | refine AllO.pass ?_ | ((conv => lhs; cbv); done))) | (refine AllO.cons (One.skipB ?_) ?_ <;> (first | refine AllO.pass ?_ | ((conv => lhs; cbv); done))) | refine AllO.consX ZX rfl rfl ?_) | refine Thn.exit ?_ | refine Blk.here ?_ | refine Blk.other (by decide) ?_ | refine ⟨.inl rfl, _, RetOk.ev tabOk Zc, ?_⟩ | fail)
  refine AWp.loopT 4 (fun x : Nat × Nat => [(15, .ic (.lit (.int .i64 (hid A (cN x.1))))), (8, .own 3 x.2)]) (fun x => [.var true 26 [.ic (.sl 1 false (hid A (List.map (encK A) K))), .ic (.sl 1 false (hid A (List.map encI S)))], .var true 31 [.ic (.sl 1 false (hid A (List.map encI R))), .ic (.sl 1 false (hid A (List.map encI (jkM K R s l x.1).V))), .ic (.sl 2 false (hid A (List.map encN (jkM K R s l x.1).N))), .ic (.sl 1 false (hid A (List.map encI M))), .ic (.sl 1 false (hid A (List.map (encK A) (jkM K R s l x.1).P))), .ic (.sl 1 false (hid A (List.map (encK A) (jkM K R s l x.1).Q)))], .var true 31 [.ic (.sl 0 true []), .ic (.sl 0 true []), .ic (.sl 0 true []), .ic (.sl 0 true []), .ic (.sl 0 true []), .ic (.sl 0 true [])], .row true x.2 58 2 (hid A (List.map encN (jkM K R s l x.1).O))]) (fun x => l.length - x.1) (fun x => x.1 ≤ l.length) (0, 0) (by conv => lhs; cbv) (Nat.zero_le _) (by ((repeat' (first | exact subE.nil | refine subE.cons rfl ?_ | refine subE.int rfl ?_ ?_ | refine subE.bool rfl ?_ ?_ | refine subE.str rfl ?_ ?_ | refine subE.sl rfl ?_ ?_))) <;> first | rfl | simp [hA, real, hid, cN]) (by simp only [j0, hO]; simp [hA, real, hid]) (fun _ => rfl) (fun _ => rfl) ?_
  rintro ⟨k, u⟩ hk
  simp only at hk ⊢
  obtain ⟨hok, _⟩ := hjk k hk
  by_cases hlt : k < l.length
  · by_cases hk0 : k = 0
    · subst hk0
      rw [j0]
      try first | refine AOLg.of [] ?_ | refine QSg.of [] ?_
      repeat' (first | (refine AWp.pass ?_; first | refine AWp.seq ?_ | refine AWp.block ?_ | refine AWp.skip ?_ | refine AWp.regG [] Zc ?_ | refine AWp.cond_t rfl ?_ | refine AWp.cond_f rfl ?_ | (refine AWp.cond rfl ?_ ?_ <;> intro hc <;> (try rw [hc]) <;> ((try simp only [zn] at hc) <;> (try simp (disch := omega) only [zz hA, zb, zy, reduceCtorEq, Bool.false_eq_true, Int.reduceLT, Int.reduceLE, Int.reduceNeg] at hc) <;> (try simp only [zw] at hc)) <;> (try (exfalso; omega))) | refine AWp.exit ?_ | refine AWp.ret ⟨.inr rfl, _, RetOk.ev tabOk Zc, ?_⟩ | refine AWp.drawVG [] rfl (by decide +kernel) Zc ?_) | (refine AOLg.pass ?_; refine AOLg.nx hA tabOk Zc ?_; first | refine NX.done ?_ | refine NX.gt ?_ | refine NX.gf ?_ | (refine NX.gs ?_ ?_ <;> intro hc <;> rw [hc] <;> ((try simp only [zn] at hc) <;> (try simp (disch := omega) only [zz hA, zb, zy, reduceCtorEq, Bool.false_eq_true, Int.reduceLT, Int.reduceLE, Int.reduceNeg] at hc) <;> (try simp only [zw] at hc)) <;> (try (exfalso; omega))) | refine NX.k 1 (NX.one Z1 ?_) | refine NX.k 7 (NX.one Z7 ?_) | refine NX.k 8 (NX.one Z8 ?_) | refine NX.k 10 (NX.one Z10 ?_) | refine NX.k 11 (NX.one Z11 ?_) | refine NX.k 14 (NX.one Z14 ?_) | refine NX.k 15 (NX.one Z15 ?_) | refine NX.raw ?_) | (refine TRg.pass ?_; refine TRg.nx hA tabOk Zc ?_; first | refine TX.done ?_ | refine TX.gt ?_ | refine TX.gf ?_ | (refine TX.gs ?_ ?_ <;> intro hc <;> rw [hc] <;> ((try simp only [zn] at hc) <;> (try simp (disch := omega) only [zz hA, zb, zy, reduceCtorEq, Bool.false_eq_true, Int.reduceLT, Int.reduceLE, Int.reduceNeg] at hc) <;> (try simp only [zw] at hc)) <;> (try (exfalso; omega))) | refine TX.k 1 (TX.one Z1 ?_) | refine TX.k 7 (TX.one Z7 ?_) | refine TX.k 8 (TX.one Z8 ?_) | refine TX.k 10 (TX.one Z10 ?_) | refine TX.k 11 (TX.one Z11 ?_) | refine TX.k 14 (TX.one Z14 ?_) | refine TX.k 15 (TX.one Z15 ?_) | refine TX.raw ?_) | refine Fin3.of Zc (by repeat' (first | exact True.intro | exact rfl | refine And.intro ?_ ?_)) ?_ ?_ | (refine AllO.pass ?_; first | exact AllO.nil | (refine AllO.cons (One.ev hA tabOk ?_) ?_ <;> (first | refine AllO.pass ?_ | ((conv => lhs; cbv); done))) | (refine AllO.cons (One.skipB ?_) ?_ <;> (first | refine AllO.pass ?_ | ((conv => lhs; cbv); done))) | refine AllO.consX ZX rfl rfl ?_) | refine Thn.exit ?_ | refine Blk.here ?_ | refine Blk.other (by decide) ?_ | refine ⟨.inl rfl, _, RetOk.ev tabOk Zc, ?_⟩ | fail)
      all_goals try (exfalso; omega)
      refine ⟨(1, u), by simp only; omega, by simp only; omega, rfl, rfl, (by repeat' (first | exact trimOk.nil | refine trimOk.same ?_ | refine trimOk.turn rfl ?_)), ?_, rfl, ?_, Zk⟩
      · simp only [j1]
        rfl
      · (repeat' (first | exact subE.nil | refine subE.cons rfl ?_ | refine subE.int rfl ?_ ?_ | refine subE.bool rfl ?_ ?_ | refine subE.str rfl ?_ ?_ | refine subE.sl rfl ?_ ?_))
        all_goals first | rfl | exact Zd
    · have hsx := js k (by omega) hlt
      have ha := hl 0 h0
      have hv := hl k hlt
      obtain ⟨X, hX, hXO, hXl⟩ := one_step hA K S hst R M n N0 k hR hn (by omega) _ hok (l.getD 0 default) (l.getD k default) ha.1 ha.2 hv.1 hv.2 _ hsx
      have hol := hok.o
      have hek : jkM K R s l k = jkM K R s l (k + 1) → True := fun _ => trivial
      obtain ⟨s2, hs2⟩ : ∃ s2, s2 = jkM K R s l (k + 1) := ⟨_, rfl⟩
      rw [← hs2] at hX hXO
      generalize jkM K R s l k = s1 at *
      clear hek hsx
      try first | refine AOLg.of [] ?_ | refine QSg.of [] ?_
      repeat' (first | (refine AWp.pass ?_; first | refine AWp.seq ?_ | refine AWp.block ?_ | refine AWp.skip ?_ | refine AWp.regG [] Zc ?_ | refine AWp.cond_t rfl ?_ | refine AWp.cond_f rfl ?_ | (refine AWp.cond rfl ?_ ?_ <;> intro hc <;> (try rw [hc]) <;> ((try simp only [zn] at hc) <;> (try simp (disch := omega) only [zz hA, zb, zy, reduceCtorEq, Bool.false_eq_true, Int.reduceLT, Int.reduceLE, Int.reduceNeg] at hc) <;> (try simp only [zw] at hc)) <;> (try (exfalso; omega))) | refine AWp.exit ?_ | refine AWp.ret ⟨.inr rfl, _, RetOk.ev tabOk Zc, ?_⟩ | refine AWp.drawVG [] rfl (by decide +kernel) Zc ?_) | (refine AOLg.pass ?_; refine AOLg.nx hA tabOk Zc ?_; first | refine NX.done ?_ | refine NX.gt ?_ | refine NX.gf ?_ | (refine NX.gs ?_ ?_ <;> intro hc <;> rw [hc] <;> ((try simp only [zn] at hc) <;> (try simp (disch := omega) only [zz hA, zb, zy, reduceCtorEq, Bool.false_eq_true, Int.reduceLT, Int.reduceLE, Int.reduceNeg] at hc) <;> (try simp only [zw] at hc)) <;> (try (exfalso; omega))) | (refine NX.kC ?_; first | (with_reducible refine NX.call (hX _ _ (by simp only [rhid hA, hid_eq hA, cN, Int.toNat_natCast, Int.toNat_zero]) (by simp only [rhid hA, hid_eq hA, cN, Int.toNat_natCast])) ?_) | ((first | refine NX.call (hX _ _ (by simp only [rhid hA, hid_eq hA, cN, Int.toNat_natCast, Int.toNat_zero]) (by simp only [rhid hA, hid_eq hA, cN, Int.toNat_natCast])) ?_)) | fail) | (refine NX.kO ?_; (first | refine NX.callO (hX _ _ (by simp only [rhid hA, hid_eq hA, cN, Int.toNat_natCast, Int.toNat_zero]) (by simp only [rhid hA, hid_eq hA, cN, Int.toNat_natCast])) (by simp [allEq]) rfl ?_)) | refine NX.k 1 (NX.one Z1 ?_) | refine NX.k 7 (NX.one Z7 ?_) | refine NX.k 8 (NX.one Z8 ?_) | refine NX.k 10 (NX.one Z10 ?_) | refine NX.k 11 (NX.one Z11 ?_) | refine NX.k 14 (NX.one Z14 ?_) | refine NX.k 15 (NX.one Z15 ?_) | (refine NX.one (One.elemM hA tabOk rfl rfl rfl rfl Zd Zd) ?_) | (refine NX.one (One.appendOwnMM hA tabOk rfl rfl rfl rfl rfl Zd Zd) ?_) | refine NX.raw ?_) | (refine TRg.pass ?_; refine TRg.nx hA tabOk Zc ?_; first | refine TX.done ?_ | refine TX.gt ?_ | refine TX.gf ?_ | (refine TX.gs ?_ ?_ <;> intro hc <;> rw [hc] <;> ((try simp only [zn] at hc) <;> (try simp (disch := omega) only [zz hA, zb, zy, reduceCtorEq, Bool.false_eq_true, Int.reduceLT, Int.reduceLE, Int.reduceNeg] at hc) <;> (try simp only [zw] at hc)) <;> (try (exfalso; omega))) | (refine TX.kC ?_; first | (with_reducible refine TX.call (hX _ _ (by simp only [rhid hA, hid_eq hA, cN, Int.toNat_natCast, Int.toNat_zero]) (by simp only [rhid hA, hid_eq hA, cN, Int.toNat_natCast])) ?_) | ((first | refine TX.call (hX _ _ (by simp only [rhid hA, hid_eq hA, cN, Int.toNat_natCast, Int.toNat_zero]) (by simp only [rhid hA, hid_eq hA, cN, Int.toNat_natCast])) ?_)) | fail) | (refine TX.kO ?_; (first | refine TX.callO (hX _ _ (by simp only [rhid hA, hid_eq hA, cN, Int.toNat_natCast, Int.toNat_zero]) (by simp only [rhid hA, hid_eq hA, cN, Int.toNat_natCast])) (by simp [allEq]) rfl ?_)) | refine TX.k 1 (TX.one Z1 ?_) | refine TX.k 7 (TX.one Z7 ?_) | refine TX.k 8 (TX.one Z8 ?_) | refine TX.k 10 (TX.one Z10 ?_) | refine TX.k 11 (TX.one Z11 ?_) | refine TX.k 14 (TX.one Z14 ?_) | refine TX.k 15 (TX.one Z15 ?_) | (refine TX.one (One.elemM hA tabOk rfl rfl rfl rfl Zd Zd) ?_) | (refine TX.one (One.appendOwnMM hA tabOk rfl rfl rfl rfl rfl Zd Zd) ?_) | refine TX.raw ?_) | refine Fin3.of Zc (by repeat' (first | exact True.intro | exact rfl | refine And.intro ?_ ?_)) ?_ ?_ | (refine AllO.pass ?_; first | exact AllO.nil | (refine AllO.cons (One.ev hA tabOk ?_) ?_ <;> (first | refine AllO.pass ?_ | ((conv => lhs; cbv); done))) | (refine AllO.cons (One.skipB ?_) ?_ <;> (first | refine AllO.pass ?_ | ((conv => lhs; cbv); done))) | ((with_reducible refine AllO.call Zc (hX _ _ (by simp only [rhid hA, hid_eq hA, cN, Int.toNat_natCast, Int.toNat_zero]) (by simp only [rhid hA, hid_eq hA, cN, Int.toNat_natCast])) ?_ ?_) <;> (first | refine AllO.pass ?_ | exact rfl | exact Zd)) | refine AllO.consX ZX rfl rfl ?_ | ((refine AllO.consX (One.elemM hA tabOk rfl rfl rfl rfl Zd Zd) rfl rfl ?_) <;> (first | refine AllO.pass ?_ | exact Zd))) | refine Thn.exit ?_ | refine Blk.here ?_ | refine Blk.other (by decide) ?_ | refine ⟨.inl rfl, _, RetOk.ev tabOk Zc, ?_⟩ | fail)
      all_goals try (exfalso; omega)
      all_goals
        refine ⟨(k + 1, u + 1), by simp only; omega, by simp only; omega, rfl, rfl, (by repeat' (first | exact trimOk.nil | refine trimOk.same ?_ | refine trimOk.turn rfl ?_)), ?_, rfl, ?_, Zk⟩
        · simp only [← hs2, hXO]
          rfl
        · (repeat' (first | exact subE.nil | refine subE.cons rfl ?_ | refine subE.int rfl ?_ ?_ | refine subE.bool rfl ?_ ?_ | refine subE.str rfl ?_ ?_ | refine subE.sl rfl ?_ ?_))
          all_goals first | rfl | exact Zd
  · obtain rfl : k = l.length := by omega
    generalize jkM K R s l l.length = s1 at *
    try first | refine AOLg.of [] ?_ | refine QSg.of [] ?_
    repeat' (first | (refine AWp.pass ?_; first | refine AWp.seq ?_ | refine AWp.block ?_ | refine AWp.skip ?_ | refine AWp.regG [] Zc ?_ | refine AWp.cond_t rfl ?_ | refine AWp.cond_f rfl ?_ | (refine AWp.cond rfl ?_ ?_ <;> intro hc <;> (try rw [hc]) <;> ((try simp only [zn] at hc) <;> (try simp (disch := omega) only [zz hA, zb, zy, reduceCtorEq, Bool.false_eq_true, Int.reduceLT, Int.reduceLE, Int.reduceNeg] at hc) <;> (try simp only [zw] at hc)) <;> (try (exfalso; omega))) | refine AWp.exit ?_ | refine AWp.ret ⟨.inr rfl, _, RetOk.ev tabOk Zc, ?_⟩ | refine AWp.drawVG [] rfl (by decide +kernel) Zc ?_) | (refine AOLg.pass ?_; refine AOLg.nx hA tabOk Zc ?_; first | refine NX.done ?_ | refine NX.gt ?_ | refine NX.gf ?_ | (refine NX.gs ?_ ?_ <;> intro hc <;> rw [hc] <;> ((try simp only [zn] at hc) <;> (try simp (disch := omega) only [zz hA, zb, zy, reduceCtorEq, Bool.false_eq_true, Int.reduceLT, Int.reduceLE, Int.reduceNeg] at hc) <;> (try simp only [zw] at hc)) <;> (try (exfalso; omega))) | refine NX.k 1 (NX.one Z1 ?_) | refine NX.k 7 (NX.one Z7 ?_) | refine NX.k 8 (NX.one Z8 ?_) | refine NX.k 10 (NX.one Z10 ?_) | refine NX.k 11 (NX.one Z11 ?_) | refine NX.k 14 (NX.one Z14 ?_) | refine NX.k 15 (NX.one Z15 ?_) | refine NX.raw ?_) | (refine TRg.pass ?_; refine TRg.nx hA tabOk Zc ?_; first | refine TX.done ?_ | refine TX.gt ?_ | refine TX.gf ?_ | (refine TX.gs ?_ ?_ <;> intro hc <;> rw [hc] <;> ((try simp only [zn] at hc) <;> (try simp (disch := omega) only [zz hA, zb, zy, reduceCtorEq, Bool.false_eq_true, Int.reduceLT, Int.reduceLE, Int.reduceNeg] at hc) <;> (try simp only [zw] at hc)) <;> (try (exfalso; omega))) | refine TX.k 1 (TX.one Z1 ?_) | refine TX.k 7 (TX.one Z7 ?_) | refine TX.k 8 (TX.one Z8 ?_) | refine TX.k 10 (TX.one Z10 ?_) | refine TX.k 11 (TX.one Z11 ?_) | refine TX.k 14 (TX.one Z14 ?_) | refine TX.k 15 (TX.one Z15 ?_) | refine TX.raw ?_) | refine Fin3.of Zc (by repeat' (first | exact True.intro | exact rfl | refine And.intro ?_ ?_)) ?_ ?_ | (refine AllO.pass ?_; first | exact AllO.nil | (refine AllO.cons (One.ev hA tabOk ?_) ?_ <;> (first | refine AllO.pass ?_ | ((conv => lhs; cbv); done))) | (refine AllO.cons (One.skipB ?_) ?_ <;> (first | refine AllO.pass ?_ | ((conv => lhs; cbv); done))) | refine AllO.consX ZX rfl rfl ?_) | refine Thn.exit ?_ | refine Blk.here ?_ | refine Blk.other (by decide) ?_ | refine ⟨.inl rfl, _, RetOk.ev tabOk Zc, ?_⟩ | fail)
    all_goals try (exfalso; omega)
    all_goals
      show rPV _ _ = some _
      rw [rPV_gr5 (k := 3) rfl]
end Go.Proofs.Ytkkjlmcnfoncdaa.Aw

namespace Go.Proofs.Ytkkjlmcnfoncdaa.Aw
open Go Go.RowKit
set_option maxRecDepth 10000
attribute [local irreducible] AWp AOL QS One AOLg QSg NX QX TRg TX AllO Fin3
variable {A : Ar} (hA : A = real)
include hA
theorem gsame_c (R V : List Int) (N : List (Int × Int)) (M : List Int) (P Q : List (List Int)) (hR : R.length ≤ 1000000) (hc0 : (⟨V, N, M⟩ : Cl).small) :
    PureCalls Try.prog 27 [grP A R V N M P Q, grP A R V N M P Q] (BP true) := by
  have h1 : PureCalls Try.prog 58 [clP A V N M, clP A V N M] (BP true) := by
    have := refSame hA ⟨V, N, M⟩ ⟨V, N, M⟩ hc0 hc0
    rw [decide_eq_true rfl, ← clP_eq hA ⟨V, N, M⟩] at this
    exact this
  have h2 := uInts_c hA R R hR hR
  rw [decide_eq_true rfl, hid_eq hA (α := Bool)] at h2
  have h3 := refRows_c hA P P
  rw [decide_eq_true rfl, hid_eq hA (α := Bool)] at h3
  have h4 := refRows_c hA Q Q
  rw [decide_eq_true rfl, hid_eq hA (α := Bool)] at h4
  refine PureCalls.of Try.func27 rfl (by kernel_rfl) rfl ?_
  try first | refine AOLg.of [] ?_ | refine QSg.of [] ?_
  repeat' (first | (refine AWp.pass ?_; first | refine AWp.seq ?_ | refine AWp.block ?_ | refine AWp.skip ?_ | refine AWp.regG [] Zc ?_ | refine AWp.cond_t rfl ?_ | refine AWp.cond_f rfl ?_ | (refine AWp.cond rfl ?_ ?_ <;> intro hc <;> (try rw [hc]) <;> ((try simp only [zn] at hc) <;> (try simp (disch := omega) only [zz hA, zb, zy, reduceCtorEq, Bool.false_eq_true, Int.reduceLT, Int.reduceLE, Int.reduceNeg] at hc) <;> (try simp only [zw] at hc)) <;> (try (exfalso; omega))) | refine AWp.exit ?_ | refine AWp.ret ⟨.inr rfl, _, RetOk.ev tabOk Zc, ?_⟩) | (refine AOLg.pass ?_; refine AOLg.nx hA tabOk Zc ?_; first | refine NX.done ?_ | refine NX.gt ?_ | refine NX.gf ?_ | (refine NX.gs ?_ ?_ <;> intro hc <;> rw [hc] <;> ((try simp only [zn] at hc) <;> (try simp (disch := omega) only [zz hA, zb, zy, reduceCtorEq, Bool.false_eq_true, Int.reduceLT, Int.reduceLE, Int.reduceNeg] at hc) <;> (try simp only [zw] at hc)) <;> (try (exfalso; omega))) | (refine NX.kC ?_; first | (with_reducible refine NX.call (h1) ?_) | (with_reducible refine NX.call (h2) ?_) | (with_reducible refine NX.call (h3) ?_) | (with_reducible refine NX.call (h4) ?_) | ((first | refine NX.call (h1) ?_ | refine NX.call (h2) ?_ | refine NX.call (h3) ?_ | refine NX.call (h4) ?_)) | fail) | (refine NX.kO ?_; (first | refine NX.callO (h1) (by simp [allEq]) rfl ?_ | refine NX.callO (h2) (by simp [allEq]) rfl ?_ | refine NX.callO (h3) (by simp [allEq]) rfl ?_ | refine NX.callO (h4) (by simp [allEq]) rfl ?_)) | refine NX.k 14 (NX.one Z14 ?_) | refine NX.k 18 (NX.one Z18 ?_) | refine NX.raw ?_) | refine Thn.exit ?_ | refine Blk.here ?_ | refine Blk.other (by decide) ?_ | refine ⟨.inl rfl, _, RetOk.ev tabOk Zc, ?_⟩ | fail)
  all_goals exact Ze
end Go.Proofs.Ytkkjlmcnfoncdaa.Aw

namespace Go.Proofs.Ytkkjlmcnfoncdaa.Aw
open Go Go.RowKit
set_option maxRecDepth 10000
attribute [local irreducible] AWp AOL QS One AOLg QSg NX QX TRg TX AllO Fin3
theorem there_all {n : Nat} {l : List Int} : thereB n l = true ↔ ∀ i : Nat, i < l.length → 0 ≤ l.getD i default ∧ l.getD i default < (n : Int) := by
  unfold thereB
  exact ⟨fun h i hi => by simpa using allB_get h hi, fun h => allB_t fun j hj => by simpa using h j hj⟩
def ownM (V row : List Int) (F : Int) (k : Nat) : Bool := (row.take k).any fun v => decide (findU V v = F)
theorem ownM_succ (V row : List Int) (F : Int) (k : Nat) (h : k < row.length) : ownM V row F (k + 1) = (ownM V row F k || decide (findU V (row.getD k default) = F)) := by
  unfold ownM
  rw [takeS row k h, List.any_append]
  simp
theorem ownM_all {V row : List Int} {F : Int} {j k : Nat} (h : j < row.length) (hk : row.length ≤ k) (he : findU V (row.getD j default) = F) : ownM V row F k = true := by
  unfold ownM
  rw [List.take_of_length_le hk, List.any_eq_true]
  exact ⟨row.getD j default, by rw [List.getD_eq_getElem?_getD, List.getElem?_eq_getElem h]; exact List.getElem_mem _, decide_eq_true he⟩
variable {A : Ar} (hA : A = real)
include hA
set_option maxHeartbeats 4000000 in
theorem cjoins_walk (l : List Sg) (K : List (List Int)) (S : List Int) (R V : List Int) (N : List (Int × Int)) (M : List Int) (P Q : List (List Int)) (row : List Int) (V' : List Int) (N' : List (Int × Int)) (P' Q' : List (List Int)) (O : List (Int × Int)) (F : Int)
    (h0 : 0 < row.length) (h40 : row.length ≤ 40) (hV : V'.length = V.length)
    (hof : PureCalls Try.prog 19 [slP A 2 (encG A) l, keyedPV A K S, grP A R V N M P Q] (BP true)) (hth : PureCalls Try.prog 20 [grP A R V N M P Q, intsP A row] (BP true))
    (hj : PureCalls Try.prog 29 [keyedPV A K S, grP A R V N M P Q, intsP A row] (.tup [grP A R V' N' M P' Q', slP A 2 encN O]))
    (hr : PureCalls Try.prog 28 [keyedPV A K S, grP A R V' N' M P' Q'] (BP true))
    (fh : ∀ (k : Nat) (z : Int), k < row.length → z = row.getD k default → PureCalls Try.prog 15 [clP A V' N' M, IP z] (IP (hid A F)))
    (fg : ∀ (k : Nat) (z : Int), k < row.length → z = row.getD k default → PureCalls Try.prog 15 [clP A V N M, IP z] (IP (hid A (findU V (row.getD k default)))))
    (how : ownM V row F row.length = true) :
    PureCalls Try.prog 9 [.agg [.sl 2 false (hid A (List.map (encG A) l)), .sl 1 false (hid A (List.map (encK A) K)), .sl 1 false (hid A (List.map encI S)), .sl 1 false (hid A (List.map encI R)), .sl 1 false (hid A (List.map encI V)), .sl 2 false (hid A (List.map encN N)), .sl 1 false (hid A (List.map encI M)), .sl 1 false (hid A (List.map (encK A) P)), .sl 1 false (hid A (List.map (encK A) Q)), .sl 1 false (hid A (List.map encI row))]] (BP true) := by
  have hsh := shown13_c hA
  have f0 : ∀ z : Int, z = row.getD 0 default → PureCalls Try.prog 15 [clP A V' N' M, IP z] (IP (hid A F)) := fun z hz => fh 0 z h0 hz
  refine PureCalls.of Try.func9 rfl (by kernel_rfl) rfl ?_
  try first | refine AOLg.of [] ?_ | refine QSg.of [] ?_
  repeat' (first | (refine AWp.pass ?_; first | refine AWp.seq ?_ | refine AWp.block ?_ | refine AWp.skip ?_ | refine AWp.regG [] Zc ?_ | refine AWp.cond_t rfl ?_ | refine AWp.cond_f rfl ?_ | (refine AWp.cond rfl ?_ ?_ <;> intro hc <;> (try rw [hc]) <;> ((try simp only [zn] at hc) <;> (try simp (disch := omega) only [zz hA, zb, zy, reduceCtorEq, Bool.false_eq_true, Int.reduceLT, Int.reduceLE, Int.reduceNeg] at hc) <;> (try simp only [zw] at hc)) <;> (try (exfalso; omega))) | refine AWp.exit ?_ | refine AWp.ret ⟨.inr rfl, _, RetOk.ev tabOk Zc, ?_⟩ | refine AWp.drawVG [] rfl (by decide +kernel) Zc ?_) | (refine AOLg.pass ?_; refine AOLg.nx hA tabOk Zc ?_; first | refine NX.done ?_ | refine NX.gt ?_ | refine NX.gf ?_ | (refine NX.gs ?_ ?_ <;> intro hc <;> rw [hc] <;> ((try simp only [zn] at hc) <;> (try simp (disch := omega) only [zz hA, zb, zy, reduceCtorEq, Bool.false_eq_true, Int.reduceLT, Int.reduceLE, Int.reduceNeg] at hc) <;> (try simp only [zw] at hc)) <;> (try (exfalso; omega))) | (refine NX.kC ?_; first | (with_reducible refine NX.call (hsh) ?_) | (with_reducible refine NX.call (hof) ?_) | (with_reducible refine NX.call (hth) ?_) | (with_reducible refine NX.call (hj) ?_) | (with_reducible refine NX.call (hr) ?_) | (with_reducible refine NX.call (f0 _ (by simp only [rhid hA, hid_eq hA, Int.toNat_zero])) ?_) | ((first | refine NX.call (hsh) ?_ | refine NX.call (hof) ?_ | refine NX.call (hth) ?_ | refine NX.call (hj) ?_ | refine NX.call (hr) ?_ | refine NX.call (f0 _ (by simp only [rhid hA, hid_eq hA, Int.toNat_zero])) ?_)) | fail) | (refine NX.kO ?_; (first | refine NX.callO (hsh) (by simp [allEq]) rfl ?_ | refine NX.callO (hof) (by simp [allEq]) rfl ?_ | refine NX.callO (hth) (by simp [allEq]) rfl ?_ | refine NX.callO (hj) (by simp [allEq]) rfl ?_ | refine NX.callO (hr) (by simp [allEq]) rfl ?_ | refine NX.callO (f0 _ (by simp only [rhid hA, hid_eq hA, Int.toNat_zero])) (by simp [allEq]) rfl ?_)) | refine NX.k 1 (NX.one Z1 ?_) | refine NX.k 7 (NX.one Z7 ?_) | refine NX.k 8 (NX.one Z8 ?_) | refine NX.k 9 (NX.one Z9 ?_) | refine NX.k 10 (NX.one Z10 ?_) | refine NX.k 14 (NX.one Z14 ?_) | refine NX.k 15 (NX.one Z15 ?_) | refine NX.k 18 (NX.one Z18 ?_) | refine NX.raw ?_) | (refine TRg.pass ?_; refine TRg.nx hA tabOk Zc ?_; first | refine TX.done ?_ | refine TX.gt ?_ | refine TX.gf ?_ | (refine TX.gs ?_ ?_ <;> intro hc <;> rw [hc] <;> ((try simp only [zn] at hc) <;> (try simp (disch := omega) only [zz hA, zb, zy, reduceCtorEq, Bool.false_eq_true, Int.reduceLT, Int.reduceLE, Int.reduceNeg] at hc) <;> (try simp only [zw] at hc)) <;> (try (exfalso; omega))) | (refine TX.kC ?_; first | (with_reducible refine TX.call (hsh) ?_) | (with_reducible refine TX.call (hof) ?_) | (with_reducible refine TX.call (hth) ?_) | (with_reducible refine TX.call (hj) ?_) | (with_reducible refine TX.call (hr) ?_) | (with_reducible refine TX.call (f0 _ (by simp only [rhid hA, hid_eq hA, Int.toNat_zero])) ?_) | ((first | refine TX.call (hsh) ?_ | refine TX.call (hof) ?_ | refine TX.call (hth) ?_ | refine TX.call (hj) ?_ | refine TX.call (hr) ?_ | refine TX.call (f0 _ (by simp only [rhid hA, hid_eq hA, Int.toNat_zero])) ?_)) | fail) | (refine TX.kO ?_; (first | refine TX.callO (hsh) (by simp [allEq]) rfl ?_ | refine TX.callO (hof) (by simp [allEq]) rfl ?_ | refine TX.callO (hth) (by simp [allEq]) rfl ?_ | refine TX.callO (hj) (by simp [allEq]) rfl ?_ | refine TX.callO (hr) (by simp [allEq]) rfl ?_ | refine TX.callO (f0 _ (by simp only [rhid hA, hid_eq hA, Int.toNat_zero])) (by simp [allEq]) rfl ?_)) | refine TX.k 1 (TX.one Z1 ?_) | refine TX.k 7 (TX.one Z7 ?_) | refine TX.k 8 (TX.one Z8 ?_) | refine TX.k 9 (TX.one Z9 ?_) | refine TX.k 10 (TX.one Z10 ?_) | refine TX.k 14 (TX.one Z14 ?_) | refine TX.k 15 (TX.one Z15 ?_) | refine TX.k 18 (TX.one Z18 ?_) | refine TX.raw ?_) | refine Fin3.of Zc (by repeat' (first | exact True.intro | exact rfl | refine And.intro ?_ ?_)) ?_ ?_ | (refine AllO.pass ?_; first | exact AllO.nil | (refine AllO.cons (One.ev hA tabOk ?_) ?_ <;> (first | refine AllO.pass ?_ | ((conv => lhs; cbv); done))) | (refine AllO.cons (One.skipB ?_) ?_ <;> (first | refine AllO.pass ?_ | ((conv => lhs; cbv); done))) | ((with_reducible refine AllO.call Zc (hsh) ?_ ?_) <;> (first | refine AllO.pass ?_ | exact rfl | exact Zd)) | ((with_reducible refine AllO.call Zc (hof) ?_ ?_) <;> (first | refine AllO.pass ?_ | exact rfl | exact Zd)) | ((with_reducible refine AllO.call Zc (hth) ?_ ?_) <;> (first | refine AllO.pass ?_ | exact rfl | exact Zd)) | ((with_reducible refine AllO.call Zc (hj) ?_ ?_) <;> (first | refine AllO.pass ?_ | exact rfl | exact Zd)) | ((with_reducible refine AllO.call Zc (hr) ?_ ?_) <;> (first | refine AllO.pass ?_ | exact rfl | exact Zd)) | ((with_reducible refine AllO.call Zc (f0 _ (by simp only [rhid hA, hid_eq hA, Int.toNat_zero])) ?_ ?_) <;> (first | refine AllO.pass ?_ | exact rfl | exact Zd)) | refine AllO.consX ZX rfl rfl ?_) | refine Thn.exit ?_ | refine Blk.here ?_ | refine Blk.other (by decide) ?_ | refine ⟨.inl rfl, _, RetOk.ev tabOk Zc, ?_⟩ | fail)
  all_goals try (exfalso; omega)
  refine AWp.loopU (fun k : Nat => [(12, .ic (.lit (.int .i64 (hid A (cN k))))), (11, .ic (.lit (.bool (hid A (ownM V row F k)))))]) (fun _ => _) (fun k => row.length - k) (fun k => k ≤ row.length) 0 (by conv => lhs; cbv) (Nat.zero_le _) (by ((repeat' (first | exact subE.nil | refine subE.cons rfl ?_ | refine subE.int rfl ?_ ?_ | refine subE.bool rfl ?_ ?_ | refine subE.str rfl ?_ ?_ | refine subE.sl rfl ?_ ?_))) <;> simp [hA, real, hid, cN, ownM]) rfl ?_
  intro k hk
  by_cases hkl : k < row.length
  · have hs := ownM_succ V row F k hkl
    have fhk := fun z => fh k z hkl
    have fgk := fun z => fg k z hkl
    generalize findU V (row.getD k default) = w at *
    obtain ⟨m, hm⟩ : ∃ m, m = ownM V row F k := ⟨_, rfl⟩
    rw [← hm] at hs ⊢
    clear hm
    cases m
    all_goals
      rw [hid_eq hA (α := Bool)]
      try first | refine AOLg.of [] ?_ | refine QSg.of [] ?_
      repeat' (first | (refine AWp.pass ?_; first | refine AWp.seq ?_ | refine AWp.block ?_ | refine AWp.skip ?_ | refine AWp.regG [] Zc ?_ | refine AWp.cond_t rfl ?_ | refine AWp.cond_f rfl ?_ | (refine AWp.cond rfl ?_ ?_ <;> intro hc <;> (try rw [hc]) <;> ((try simp only [zn] at hc) <;> (try simp (disch := omega) only [zz hA, zb, zy, reduceCtorEq, Bool.false_eq_true, Int.reduceLT, Int.reduceLE, Int.reduceNeg] at hc) <;> (try simp only [zw] at hc)) <;> (try (exfalso; omega))) | refine AWp.exit ?_ | refine AWp.ret ⟨.inr rfl, _, RetOk.ev tabOk Zc, ?_⟩ | refine AWp.drawVG [] rfl (by decide +kernel) Zc ?_) | (refine AOLg.pass ?_; refine AOLg.nx hA tabOk Zc ?_; first | refine NX.done ?_ | refine NX.gt ?_ | refine NX.gf ?_ | (refine NX.gs ?_ ?_ <;> intro hc <;> rw [hc] <;> ((try simp only [zn] at hc) <;> (try simp (disch := omega) only [zz hA, zb, zy, reduceCtorEq, Bool.false_eq_true, Int.reduceLT, Int.reduceLE, Int.reduceNeg] at hc) <;> (try simp only [zw] at hc)) <;> (try (exfalso; omega))) | (refine NX.kC ?_; first | (with_reducible refine NX.call (fhk _ (by simp only [rhid hA, hid_eq hA, cN, Int.toNat_natCast])) ?_) | (with_reducible refine NX.call (fgk _ (by simp only [rhid hA, hid_eq hA, cN, Int.toNat_natCast])) ?_) | ((first | refine NX.call (fhk _ (by simp only [rhid hA, hid_eq hA, cN, Int.toNat_natCast])) ?_ | refine NX.call (fgk _ (by simp only [rhid hA, hid_eq hA, cN, Int.toNat_natCast])) ?_)) | fail) | (refine NX.kO ?_; (first | refine NX.callO (fhk _ (by simp only [rhid hA, hid_eq hA, cN, Int.toNat_natCast])) (by simp [allEq]) rfl ?_ | refine NX.callO (fgk _ (by simp only [rhid hA, hid_eq hA, cN, Int.toNat_natCast])) (by simp [allEq]) rfl ?_)) | refine NX.k 1 (NX.one Z1 ?_) | refine NX.k 7 (NX.one Z7 ?_) | refine NX.k 8 (NX.one Z8 ?_) | refine NX.k 9 (NX.one Z9 ?_) | refine NX.k 10 (NX.one Z10 ?_) | refine NX.k 14 (NX.one Z14 ?_) | refine NX.k 15 (NX.one Z15 ?_) | refine NX.k 18 (NX.one Z18 ?_) | refine NX.raw ?_) | (refine TRg.pass ?_; refine TRg.nx hA tabOk Zc ?_; first | refine TX.done ?_ | refine TX.gt ?_ | refine TX.gf ?_ | (refine TX.gs ?_ ?_ <;> intro hc <;> rw [hc] <;> ((try simp only [zn] at hc) <;> (try simp (disch := omega) only [zz hA, zb, zy, reduceCtorEq, Bool.false_eq_true, Int.reduceLT, Int.reduceLE, Int.reduceNeg] at hc) <;> (try simp only [zw] at hc)) <;> (try (exfalso; omega))) | (refine TX.kC ?_; first | (with_reducible refine TX.call (fhk _ (by simp only [rhid hA, hid_eq hA, cN, Int.toNat_natCast])) ?_) | (with_reducible refine TX.call (fgk _ (by simp only [rhid hA, hid_eq hA, cN, Int.toNat_natCast])) ?_) | ((first | refine TX.call (fhk _ (by simp only [rhid hA, hid_eq hA, cN, Int.toNat_natCast])) ?_ | refine TX.call (fgk _ (by simp only [rhid hA, hid_eq hA, cN, Int.toNat_natCast])) ?_)) | fail) | (refine TX.kO ?_; (first | refine TX.callO (fhk _ (by simp only [rhid hA, hid_eq hA, cN, Int.toNat_natCast])) (by simp [allEq]) rfl ?_ | refine TX.callO (fgk _ (by simp only [rhid hA, hid_eq hA, cN, Int.toNat_natCast])) (by simp [allEq]) rfl ?_)) | refine TX.k 1 (TX.one Z1 ?_) | refine TX.k 7 (TX.one Z7 ?_) | refine TX.k 8 (TX.one Z8 ?_) | refine TX.k 9 (TX.one Z9 ?_) | refine TX.k 10 (TX.one Z10 ?_) | refine TX.k 14 (TX.one Z14 ?_) | refine TX.k 15 (TX.one Z15 ?_) | refine TX.k 18 (TX.one Z18 ?_) | refine TX.raw ?_) | refine Fin3.of Zc (by repeat' (first | exact True.intro | exact rfl | refine And.intro ?_ ?_)) ?_ ?_ | (refine AllO.pass ?_; first | exact AllO.nil | (refine AllO.cons (One.ev hA tabOk ?_) ?_ <;> (first | refine AllO.pass ?_ | ((conv => lhs; cbv); done))) | (refine AllO.cons (One.skipB ?_) ?_ <;> (first | refine AllO.pass ?_ | ((conv => lhs; cbv); done))) | ((with_reducible refine AllO.call Zc (fhk _ (by simp only [rhid hA, hid_eq hA, cN, Int.toNat_natCast])) ?_ ?_) <;> (first | refine AllO.pass ?_ | exact rfl | exact Zd)) | ((with_reducible refine AllO.call Zc (fgk _ (by simp only [rhid hA, hid_eq hA, cN, Int.toNat_natCast])) ?_ ?_) <;> (first | refine AllO.pass ?_ | exact rfl | exact Zd)) | refine AllO.consX ZX rfl rfl ?_) | refine Thn.exit ?_ | refine Blk.here ?_ | refine Blk.other (by decide) ?_ | refine ⟨.inl rfl, _, RetOk.ev tabOk Zc, ?_⟩ | fail)
      all_goals try (exfalso; omega)
      all_goals
        refine ⟨k + 1, ?_, ?_, rfl, rfl, ?_, Zk⟩
        · omega
        · omega
        · (repeat' (first | exact subE.nil | refine subE.cons rfl ?_ | refine subE.int rfl ?_ ?_ | refine subE.bool rfl ?_ ?_ | refine subE.str rfl ?_ ?_ | refine subE.sl rfl ?_ ?_))
          · exact Zd
          · rw [hs]; by_cases he : w = F <;> simp [hA, real, hid, he]
  · obtain rfl : k = row.length := by omega
    rw [how, hid_eq hA (α := Bool)]
    try first | refine AOLg.of [] ?_ | refine QSg.of [] ?_
    repeat' (first | (refine AWp.pass ?_; first | refine AWp.seq ?_ | refine AWp.block ?_ | refine AWp.skip ?_ | refine AWp.regG [] Zc ?_ | refine AWp.cond_t rfl ?_ | refine AWp.cond_f rfl ?_ | (refine AWp.cond rfl ?_ ?_ <;> intro hc <;> (try rw [hc]) <;> ((try simp only [zn] at hc) <;> (try simp (disch := omega) only [zz hA, zb, zy, reduceCtorEq, Bool.false_eq_true, Int.reduceLT, Int.reduceLE, Int.reduceNeg] at hc) <;> (try simp only [zw] at hc)) <;> (try (exfalso; omega))) | refine AWp.exit ?_ | refine AWp.ret ⟨.inr rfl, _, RetOk.ev tabOk Zc, ?_⟩ | refine AWp.drawVG [] rfl (by decide +kernel) Zc ?_) | (refine AOLg.pass ?_; refine AOLg.nx hA tabOk Zc ?_; first | refine NX.done ?_ | refine NX.gt ?_ | refine NX.gf ?_ | (refine NX.gs ?_ ?_ <;> intro hc <;> rw [hc] <;> ((try simp only [zn] at hc) <;> (try simp (disch := omega) only [zz hA, zb, zy, reduceCtorEq, Bool.false_eq_true, Int.reduceLT, Int.reduceLE, Int.reduceNeg] at hc) <;> (try simp only [zw] at hc)) <;> (try (exfalso; omega))) | refine NX.k 1 (NX.one Z1 ?_) | refine NX.k 7 (NX.one Z7 ?_) | refine NX.k 8 (NX.one Z8 ?_) | refine NX.k 9 (NX.one Z9 ?_) | refine NX.k 10 (NX.one Z10 ?_) | refine NX.k 14 (NX.one Z14 ?_) | refine NX.k 15 (NX.one Z15 ?_) | refine NX.k 18 (NX.one Z18 ?_) | refine NX.raw ?_) | (refine TRg.pass ?_; refine TRg.nx hA tabOk Zc ?_; first | refine TX.done ?_ | refine TX.gt ?_ | refine TX.gf ?_ | (refine TX.gs ?_ ?_ <;> intro hc <;> rw [hc] <;> ((try simp only [zn] at hc) <;> (try simp (disch := omega) only [zz hA, zb, zy, reduceCtorEq, Bool.false_eq_true, Int.reduceLT, Int.reduceLE, Int.reduceNeg] at hc) <;> (try simp only [zw] at hc)) <;> (try (exfalso; omega))) | refine TX.k 1 (TX.one Z1 ?_) | refine TX.k 7 (TX.one Z7 ?_) | refine TX.k 8 (TX.one Z8 ?_) | refine TX.k 9 (TX.one Z9 ?_) | refine TX.k 10 (TX.one Z10 ?_) | refine TX.k 14 (TX.one Z14 ?_) | refine TX.k 15 (TX.one Z15 ?_) | refine TX.k 18 (TX.one Z18 ?_) | refine TX.raw ?_) | refine Fin3.of Zc (by repeat' (first | exact True.intro | exact rfl | refine And.intro ?_ ?_)) ?_ ?_ | (refine AllO.pass ?_; first | exact AllO.nil | (refine AllO.cons (One.ev hA tabOk ?_) ?_ <;> (first | refine AllO.pass ?_ | ((conv => lhs; cbv); done))) | (refine AllO.cons (One.skipB ?_) ?_ <;> (first | refine AllO.pass ?_ | ((conv => lhs; cbv); done))) | refine AllO.consX ZX rfl rfl ?_) | refine Thn.exit ?_ | refine Blk.here ?_ | refine Blk.other (by decide) ?_ | refine ⟨.inl rfl, _, RetOk.ev tabOk Zc, ?_⟩ | fail)
    all_goals exact Ze
theorem cjoins_law (l : List Sg) (hl : FitG l) (K : List (List Int)) (S : List Int) (hk : FitsK K S) (R V : List Int) (N : List (Int × Int)) (M : List Int) (P Q : List (List Int)) (hg : FitGr R V N M P Q) (row : List Int) (hrow : row.length ≤ 1000000000000000) :
    PureCalls Try.prog 9 [.agg [.sl 2 false (hid A (List.map (encG A) l)), .sl 1 false (hid A (List.map (encK A) K)), .sl 1 false (hid A (List.map encI S)), .sl 1 false (hid A (List.map encI R)), .sl 1 false (hid A (List.map encI V)), .sl 2 false (hid A (List.map encN N)), .sl 1 false (hid A (List.map encI M)), .sl 1 false (hid A (List.map (encK A) P)), .sl 1 false (hid A (List.map (encK A) Q)), .sl 1 false (hid A (List.map encI row))]] (BP true) := by
  have hsh := shown13_c hA
  obtain ⟨b, hof, hb⟩ := of13_c hA l hl K S hk R V N M P Q hg
  cases b with
  | false =>
    refine PureCalls.of Try.func9 rfl (by kernel_rfl) rfl ?_
    try first | refine AOLg.of [] ?_ | refine QSg.of [] ?_
    repeat' (first | (refine AWp.pass ?_; first | refine AWp.seq ?_ | refine AWp.block ?_ | refine AWp.skip ?_ | refine AWp.regG [] Zc ?_ | refine AWp.cond_t rfl ?_ | refine AWp.cond_f rfl ?_ | (refine AWp.cond rfl ?_ ?_ <;> intro hc <;> (try rw [hc]) <;> ((try simp only [zn] at hc) <;> (try simp (disch := omega) only [zz hA, zb, zy, reduceCtorEq, Bool.false_eq_true, Int.reduceLT, Int.reduceLE, Int.reduceNeg] at hc) <;> (try simp only [zw] at hc)) <;> (try (exfalso; omega))) | refine AWp.exit ?_ | refine AWp.ret ⟨.inr rfl, _, RetOk.ev tabOk Zc, ?_⟩ | refine AWp.drawVG [] rfl (by decide +kernel) Zc ?_) | (refine AOLg.pass ?_; refine AOLg.nx hA tabOk Zc ?_; first | refine NX.done ?_ | refine NX.gt ?_ | refine NX.gf ?_ | (refine NX.gs ?_ ?_ <;> intro hc <;> rw [hc] <;> ((try simp only [zn] at hc) <;> (try simp (disch := omega) only [zz hA, zb, zy, reduceCtorEq, Bool.false_eq_true, Int.reduceLT, Int.reduceLE, Int.reduceNeg] at hc) <;> (try simp only [zw] at hc)) <;> (try (exfalso; omega))) | (refine NX.kC ?_; first | (with_reducible refine NX.call (hsh) ?_) | (with_reducible refine NX.call (hof) ?_) | ((first | refine NX.call (hsh) ?_ | refine NX.call (hof) ?_)) | fail) | (refine NX.kO ?_; (first | refine NX.callO (hsh) (by simp [allEq]) rfl ?_ | refine NX.callO (hof) (by simp [allEq]) rfl ?_)) | refine NX.k 1 (NX.one Z1 ?_) | refine NX.k 7 (NX.one Z7 ?_) | refine NX.k 8 (NX.one Z8 ?_) | refine NX.k 9 (NX.one Z9 ?_) | refine NX.k 10 (NX.one Z10 ?_) | refine NX.k 14 (NX.one Z14 ?_) | refine NX.k 15 (NX.one Z15 ?_) | refine NX.k 18 (NX.one Z18 ?_) | refine NX.raw ?_) | (refine TRg.pass ?_; refine TRg.nx hA tabOk Zc ?_; first | refine TX.done ?_ | refine TX.gt ?_ | refine TX.gf ?_ | (refine TX.gs ?_ ?_ <;> intro hc <;> rw [hc] <;> ((try simp only [zn] at hc) <;> (try simp (disch := omega) only [zz hA, zb, zy, reduceCtorEq, Bool.false_eq_true, Int.reduceLT, Int.reduceLE, Int.reduceNeg] at hc) <;> (try simp only [zw] at hc)) <;> (try (exfalso; omega))) | (refine TX.kC ?_; first | (with_reducible refine TX.call (hsh) ?_) | (with_reducible refine TX.call (hof) ?_) | ((first | refine TX.call (hsh) ?_ | refine TX.call (hof) ?_)) | fail) | (refine TX.kO ?_; (first | refine TX.callO (hsh) (by simp [allEq]) rfl ?_ | refine TX.callO (hof) (by simp [allEq]) rfl ?_)) | refine TX.k 1 (TX.one Z1 ?_) | refine TX.k 7 (TX.one Z7 ?_) | refine TX.k 8 (TX.one Z8 ?_) | refine TX.k 9 (TX.one Z9 ?_) | refine TX.k 10 (TX.one Z10 ?_) | refine TX.k 14 (TX.one Z14 ?_) | refine TX.k 15 (TX.one Z15 ?_) | refine TX.k 18 (TX.one Z18 ?_) | refine TX.raw ?_) | refine Fin3.of Zc (by repeat' (first | exact True.intro | exact rfl | refine And.intro ?_ ?_)) ?_ ?_ | (refine AllO.pass ?_; first | exact AllO.nil | (refine AllO.cons (One.ev hA tabOk ?_) ?_ <;> (first | refine AllO.pass ?_ | ((conv => lhs; cbv); done))) | (refine AllO.cons (One.skipB ?_) ?_ <;> (first | refine AllO.pass ?_ | ((conv => lhs; cbv); done))) | ((with_reducible refine AllO.call Zc (hsh) ?_ ?_) <;> (first | refine AllO.pass ?_ | exact rfl | exact Zd)) | ((with_reducible refine AllO.call Zc (hof) ?_ ?_) <;> (first | refine AllO.pass ?_ | exact rfl | exact Zd)) | refine AllO.consX ZX rfl rfl ?_) | refine Thn.exit ?_ | refine Blk.here ?_ | refine Blk.other (by decide) ?_ | refine ⟨.inl rfl, _, RetOk.ev tabOk Zc, ?_⟩ | fail)
    all_goals exact Ze
  | true =>
    by_cases h0 : 0 < row.length ∧ row.length ≤ 40
    · obtain ⟨h0, h40⟩ := h0
      have hth := there_c hA R V N M P Q row (by omega)
      cases hT : thereB V.length row with
      | false =>
        rw [hT, hid_eq hA (α := Bool)] at hth
        refine PureCalls.of Try.func9 rfl (by kernel_rfl) rfl ?_
        try first | refine AOLg.of [] ?_ | refine QSg.of [] ?_
        repeat' (first | (refine AWp.pass ?_; first | refine AWp.seq ?_ | refine AWp.block ?_ | refine AWp.skip ?_ | refine AWp.regG [] Zc ?_ | refine AWp.cond_t rfl ?_ | refine AWp.cond_f rfl ?_ | (refine AWp.cond rfl ?_ ?_ <;> intro hc <;> (try rw [hc]) <;> ((try simp only [zn] at hc) <;> (try simp (disch := omega) only [zz hA, zb, zy, reduceCtorEq, Bool.false_eq_true, Int.reduceLT, Int.reduceLE, Int.reduceNeg] at hc) <;> (try simp only [zw] at hc)) <;> (try (exfalso; omega))) | refine AWp.exit ?_ | refine AWp.ret ⟨.inr rfl, _, RetOk.ev tabOk Zc, ?_⟩ | refine AWp.drawVG [] rfl (by decide +kernel) Zc ?_) | (refine AOLg.pass ?_; refine AOLg.nx hA tabOk Zc ?_; first | refine NX.done ?_ | refine NX.gt ?_ | refine NX.gf ?_ | (refine NX.gs ?_ ?_ <;> intro hc <;> rw [hc] <;> ((try simp only [zn] at hc) <;> (try simp (disch := omega) only [zz hA, zb, zy, reduceCtorEq, Bool.false_eq_true, Int.reduceLT, Int.reduceLE, Int.reduceNeg] at hc) <;> (try simp only [zw] at hc)) <;> (try (exfalso; omega))) | (refine NX.kC ?_; first | (with_reducible refine NX.call (hsh) ?_) | (with_reducible refine NX.call (hof) ?_) | (with_reducible refine NX.call (hth) ?_) | ((first | refine NX.call (hsh) ?_ | refine NX.call (hof) ?_ | refine NX.call (hth) ?_)) | fail) | (refine NX.kO ?_; (first | refine NX.callO (hsh) (by simp [allEq]) rfl ?_ | refine NX.callO (hof) (by simp [allEq]) rfl ?_ | refine NX.callO (hth) (by simp [allEq]) rfl ?_)) | refine NX.k 1 (NX.one Z1 ?_) | refine NX.k 7 (NX.one Z7 ?_) | refine NX.k 8 (NX.one Z8 ?_) | refine NX.k 9 (NX.one Z9 ?_) | refine NX.k 10 (NX.one Z10 ?_) | refine NX.k 14 (NX.one Z14 ?_) | refine NX.k 15 (NX.one Z15 ?_) | refine NX.k 18 (NX.one Z18 ?_) | refine NX.raw ?_) | (refine TRg.pass ?_; refine TRg.nx hA tabOk Zc ?_; first | refine TX.done ?_ | refine TX.gt ?_ | refine TX.gf ?_ | (refine TX.gs ?_ ?_ <;> intro hc <;> rw [hc] <;> ((try simp only [zn] at hc) <;> (try simp (disch := omega) only [zz hA, zb, zy, reduceCtorEq, Bool.false_eq_true, Int.reduceLT, Int.reduceLE, Int.reduceNeg] at hc) <;> (try simp only [zw] at hc)) <;> (try (exfalso; omega))) | (refine TX.kC ?_; first | (with_reducible refine TX.call (hsh) ?_) | (with_reducible refine TX.call (hof) ?_) | (with_reducible refine TX.call (hth) ?_) | ((first | refine TX.call (hsh) ?_ | refine TX.call (hof) ?_ | refine TX.call (hth) ?_)) | fail) | (refine TX.kO ?_; (first | refine TX.callO (hsh) (by simp [allEq]) rfl ?_ | refine TX.callO (hof) (by simp [allEq]) rfl ?_ | refine TX.callO (hth) (by simp [allEq]) rfl ?_)) | refine TX.k 1 (TX.one Z1 ?_) | refine TX.k 7 (TX.one Z7 ?_) | refine TX.k 8 (TX.one Z8 ?_) | refine TX.k 9 (TX.one Z9 ?_) | refine TX.k 10 (TX.one Z10 ?_) | refine TX.k 14 (TX.one Z14 ?_) | refine TX.k 15 (TX.one Z15 ?_) | refine TX.k 18 (TX.one Z18 ?_) | refine TX.raw ?_) | refine Fin3.of Zc (by repeat' (first | exact True.intro | exact rfl | refine And.intro ?_ ?_)) ?_ ?_ | (refine AllO.pass ?_; first | exact AllO.nil | (refine AllO.cons (One.ev hA tabOk ?_) ?_ <;> (first | refine AllO.pass ?_ | ((conv => lhs; cbv); done))) | (refine AllO.cons (One.skipB ?_) ?_ <;> (first | refine AllO.pass ?_ | ((conv => lhs; cbv); done))) | ((with_reducible refine AllO.call Zc (hsh) ?_ ?_) <;> (first | refine AllO.pass ?_ | exact rfl | exact Zd)) | ((with_reducible refine AllO.call Zc (hof) ?_ ?_) <;> (first | refine AllO.pass ?_ | exact rfl | exact Zd)) | ((with_reducible refine AllO.call Zc (hth) ?_ ?_) <;> (first | refine AllO.pass ?_ | exact rfl | exact Zd)) | refine AllO.consX ZX rfl rfl ?_) | refine Thn.exit ?_ | refine Blk.here ?_ | refine Blk.other (by decide) ?_ | refine ⟨.inl rfl, _, RetOk.ev tabOk Zc, ?_⟩ | fail)
        all_goals exact Ze
      | true =>
        rw [hT, hid_eq hA (α := Bool)] at hth
        have ht := there_all.1 hT
        obtain ⟨ho, hv40⟩ := hb rfl
        obtain ⟨b1, b2, b3, b4, b5, b6, b7, b8⟩ := ho.len
        have hst := ho.st
        have hru := ho.ru
        have hri := ho.right
        have hok : OkJ K R M V.length 1000 0 ⟨V, N, P, Q, []⟩ := ⟨hru, rfl, b5, b6, b7, b8, by simpa using b3, by simp, hri⟩
        have hj := join13_c hA K S hst R M V.length 1000 b1 b2 (by omega) _ hok row ht h0 (by omega) rfl
        obtain ⟨ok2, one⟩ := join_ok hok ht h0 row.length (Nat.le_refl _)
        generalize jkM K R ⟨V, N, P, Q, []⟩ row row.length = s at *
        have n2 := ok2.nn
        have v2 := ok2.v
        have hr := refGRight_c hA K S hst R s.V s.N M s.P s.Q (by omega) ⟨by simp only; omega, by simp only; omega, by simp only; omega⟩ ⟨by rw [ok2.p]; omega, fun z hz => by have := ok2.pl z hz; omega⟩ ⟨by rw [ok2.q]; omega, fun z hz => by have := ok2.ql z hz; omega⟩
        rw [ok2.right, hid_eq hA (α := Bool)] at hr
        obtain ⟨j, j1, j2⟩ := one.own
        exact cjoins_walk hA l K S R V N M P Q row s.V s.N s.P s.Q s.O (findU s.V (row.getD 0 default)) h0 h40 v2 hof hth hj hr
          (fun k z hk hz => by subst hz; have := refFind_c hA s.V s.N M R ok2.ru (row.getD k default) (ht k hk).1 (by rw [v2]; exact (ht k hk).2) (by omega); rwa [one.all k hk hk] at this)
          (fun k z hk hz => by subst hz; exact refFind_c hA V N M R hru (row.getD k default) (ht k hk).1 (ht k hk).2 (by omega))
          (ownM_all j1 (Nat.le_refl _) j2)
    · refine PureCalls.of Try.func9 rfl (by kernel_rfl) rfl ?_
      try first | refine AOLg.of [] ?_ | refine QSg.of [] ?_
      repeat' (first | (refine AWp.pass ?_; first | refine AWp.seq ?_ | refine AWp.block ?_ | refine AWp.skip ?_ | refine AWp.regG [] Zc ?_ | refine AWp.cond_t rfl ?_ | refine AWp.cond_f rfl ?_ | (refine AWp.cond rfl ?_ ?_ <;> intro hc <;> (try rw [hc]) <;> ((try simp only [zn] at hc) <;> (try simp (disch := omega) only [zz hA, zb, zy, reduceCtorEq, Bool.false_eq_true, Int.reduceLT, Int.reduceLE, Int.reduceNeg] at hc) <;> (try simp only [zw] at hc)) <;> (try (exfalso; omega))) | refine AWp.exit ?_ | refine AWp.ret ⟨.inr rfl, _, RetOk.ev tabOk Zc, ?_⟩ | refine AWp.drawVG [] rfl (by decide +kernel) Zc ?_) | (refine AOLg.pass ?_; refine AOLg.nx hA tabOk Zc ?_; first | refine NX.done ?_ | refine NX.gt ?_ | refine NX.gf ?_ | (refine NX.gs ?_ ?_ <;> intro hc <;> rw [hc] <;> ((try simp only [zn] at hc) <;> (try simp (disch := omega) only [zz hA, zb, zy, reduceCtorEq, Bool.false_eq_true, Int.reduceLT, Int.reduceLE, Int.reduceNeg] at hc) <;> (try simp only [zw] at hc)) <;> (try (exfalso; omega))) | (refine NX.kC ?_; first | (with_reducible refine NX.call (hsh) ?_) | (with_reducible refine NX.call (hof) ?_) | ((first | refine NX.call (hsh) ?_ | refine NX.call (hof) ?_)) | fail) | (refine NX.kO ?_; (first | refine NX.callO (hsh) (by simp [allEq]) rfl ?_ | refine NX.callO (hof) (by simp [allEq]) rfl ?_)) | refine NX.k 1 (NX.one Z1 ?_) | refine NX.k 7 (NX.one Z7 ?_) | refine NX.k 8 (NX.one Z8 ?_) | refine NX.k 9 (NX.one Z9 ?_) | refine NX.k 10 (NX.one Z10 ?_) | refine NX.k 14 (NX.one Z14 ?_) | refine NX.k 15 (NX.one Z15 ?_) | refine NX.k 18 (NX.one Z18 ?_) | refine NX.raw ?_) | (refine TRg.pass ?_; refine TRg.nx hA tabOk Zc ?_; first | refine TX.done ?_ | refine TX.gt ?_ | refine TX.gf ?_ | (refine TX.gs ?_ ?_ <;> intro hc <;> rw [hc] <;> ((try simp only [zn] at hc) <;> (try simp (disch := omega) only [zz hA, zb, zy, reduceCtorEq, Bool.false_eq_true, Int.reduceLT, Int.reduceLE, Int.reduceNeg] at hc) <;> (try simp only [zw] at hc)) <;> (try (exfalso; omega))) | (refine TX.kC ?_; first | (with_reducible refine TX.call (hsh) ?_) | (with_reducible refine TX.call (hof) ?_) | ((first | refine TX.call (hsh) ?_ | refine TX.call (hof) ?_)) | fail) | (refine TX.kO ?_; (first | refine TX.callO (hsh) (by simp [allEq]) rfl ?_ | refine TX.callO (hof) (by simp [allEq]) rfl ?_)) | refine TX.k 1 (TX.one Z1 ?_) | refine TX.k 7 (TX.one Z7 ?_) | refine TX.k 8 (TX.one Z8 ?_) | refine TX.k 9 (TX.one Z9 ?_) | refine TX.k 10 (TX.one Z10 ?_) | refine TX.k 14 (TX.one Z14 ?_) | refine TX.k 15 (TX.one Z15 ?_) | refine TX.k 18 (TX.one Z18 ?_) | refine TX.raw ?_) | refine Fin3.of Zc (by repeat' (first | exact True.intro | exact rfl | refine And.intro ?_ ?_)) ?_ ?_ | (refine AllO.pass ?_; first | exact AllO.nil | (refine AllO.cons (One.ev hA tabOk ?_) ?_ <;> (first | refine AllO.pass ?_ | ((conv => lhs; cbv); done))) | (refine AllO.cons (One.skipB ?_) ?_ <;> (first | refine AllO.pass ?_ | ((conv => lhs; cbv); done))) | ((with_reducible refine AllO.call Zc (hsh) ?_ ?_) <;> (first | refine AllO.pass ?_ | exact rfl | exact Zd)) | ((with_reducible refine AllO.call Zc (hof) ?_ ?_) <;> (first | refine AllO.pass ?_ | exact rfl | exact Zd)) | refine AllO.consX ZX rfl rfl ?_) | refine Thn.exit ?_ | refine Blk.here ?_ | refine Blk.other (by decide) ?_ | refine ⟨.inl rfl, _, RetOk.ev tabOk Zc, ?_⟩ | fail)
      all_goals exact Ze
set_option maxHeartbeats 4000000 in
theorem conce_walk (l : List Sg) (K : List (List Int)) (S : List Int) (R V : List Int) (N : List (Int × Int)) (M : List Int) (P Q : List (List Int)) (row : List Int) (V' : List Int) (N' : List (Int × Int)) (P' Q' : List (List Int)) (O : List (Int × Int))
    (h0 : 0 < row.length) (h40 : row.length ≤ 40)
    (hof : PureCalls Try.prog 19 [slP A 2 (encG A) l, keyedPV A K S, grP A R V N M P Q] (BP true)) (hth : PureCalls Try.prog 20 [grP A R V N M P Q, intsP A row] (BP true))
    (hj : PureCalls Try.prog 29 [keyedPV A K S, grP A R V N M P Q, intsP A row] (.tup [grP A R V' N' M P' Q', slP A 2 encN O]))
    (hj2 : PureCalls Try.prog 29 [keyedPV A K S, grP A R V' N' M P' Q', intsP A row] (.tup [grP A R V' N' M P' Q', slP A 2 encN []]))
    (hj3 : PureCalls Try.prog 29 [keyedPV A K S, grP A R V N M P Q, intsP A (row.take 1)] (.tup [grP A R V N M P Q, slP A 2 encN []]))
    (hs1 : PureCalls Try.prog 27 [grP A R V' N' M P' Q', grP A R V' N' M P' Q'] (BP true))
    (hs2 : PureCalls Try.prog 27 [grP A R V N M P Q, grP A R V N M P Q] (BP true)) :
    PureCalls Try.prog 10 [.agg [.sl 2 false (hid A (List.map (encG A) l)), .sl 1 false (hid A (List.map (encK A) K)), .sl 1 false (hid A (List.map encI S)), .sl 1 false (hid A (List.map encI R)), .sl 1 false (hid A (List.map encI V)), .sl 2 false (hid A (List.map encN N)), .sl 1 false (hid A (List.map encI M)), .sl 1 false (hid A (List.map (encK A) P)), .sl 1 false (hid A (List.map (encK A) Q)), .sl 1 false (hid A (List.map encI row))]] (BP true) := by
  have hsh := shown13_c hA
  have e1 : Int.toNat 1 = 1 := rfl
  have hj4 : ∀ r : List Int, r = row.take 1 → PureCalls Try.prog 29 [keyedPV A K S, grP A R V N M P Q, intsP A r] (.tup [grP A R V N M P Q, slP A 2 encN []]) := by rintro r rfl; exact hj3
  refine PureCalls.of Try.func10 rfl (by kernel_rfl) rfl ?_
  try first | refine AOLg.of [] ?_ | refine QSg.of [] ?_
  repeat' (first | (refine AWp.pass ?_; first | refine AWp.seq ?_ | refine AWp.block ?_ | refine AWp.skip ?_ | refine AWp.regG [] Zc ?_ | refine AWp.cond_t rfl ?_ | refine AWp.cond_f rfl ?_ | (refine AWp.cond rfl ?_ ?_ <;> intro hc <;> (try rw [hc]) <;> ((try simp only [zn] at hc) <;> (try simp (disch := omega) only [zz hA, zb, zy, reduceCtorEq, Bool.false_eq_true, Int.reduceLT, Int.reduceLE, Int.reduceNeg] at hc) <;> (try simp only [zw] at hc)) <;> (try (exfalso; omega))) | refine AWp.exit ?_ | refine AWp.ret ⟨.inr rfl, _, RetOk.ev tabOk Zc, ?_⟩ | refine AWp.drawVG [] rfl (by decide +kernel) Zc ?_) | (refine AOLg.pass ?_; refine AOLg.nx hA tabOk Zc ?_; first | refine NX.done ?_ | refine NX.gt ?_ | refine NX.gf ?_ | (refine NX.gs ?_ ?_ <;> intro hc <;> rw [hc] <;> ((try simp only [zn] at hc) <;> (try simp (disch := omega) only [zz hA, zb, zy, reduceCtorEq, Bool.false_eq_true, Int.reduceLT, Int.reduceLE, Int.reduceNeg] at hc) <;> (try simp only [zw] at hc)) <;> (try (exfalso; omega))) | (refine NX.kC ?_; first | (with_reducible refine NX.call (hsh) ?_) | (with_reducible refine NX.call (hof) ?_) | (with_reducible refine NX.call (hth) ?_) | (with_reducible refine NX.call (hj) ?_) | (with_reducible refine NX.call (hj2) ?_) | (with_reducible refine NX.call (hj4 _ (by simp only [rhid hA, hid_eq hA, e1])) ?_) | (with_reducible refine NX.call (hs1) ?_) | (with_reducible refine NX.call (hs2) ?_) | ((first | refine NX.call (hsh) ?_ | refine NX.call (hof) ?_ | refine NX.call (hth) ?_ | refine NX.call (hj) ?_ | refine NX.call (hj2) ?_ | refine NX.call (hj4 _ (by simp only [rhid hA, hid_eq hA, e1])) ?_ | refine NX.call (hs1) ?_ | refine NX.call (hs2) ?_)) | fail) | (refine NX.kO ?_; (first | refine NX.callO (hsh) (by simp [allEq]) rfl ?_ | refine NX.callO (hof) (by simp [allEq]) rfl ?_ | refine NX.callO (hth) (by simp [allEq]) rfl ?_ | refine NX.callO (hj) (by simp [allEq]) rfl ?_ | refine NX.callO (hj2) (by simp [allEq]) rfl ?_ | refine NX.callO (hj4 _ (by simp only [rhid hA, hid_eq hA, e1])) (by simp [allEq]) rfl ?_ | refine NX.callO (hs1) (by simp [allEq]) rfl ?_ | refine NX.callO (hs2) (by simp [allEq]) rfl ?_)) | refine NX.k 2 (NX.one Z2 ?_) | refine NX.k 8 (NX.one Z8 ?_) | refine NX.k 10 (NX.one Z10 ?_) | refine NX.k 14 (NX.one Z14 ?_) | refine NX.k 15 (NX.one Z15 ?_) | refine NX.k 18 (NX.one Z18 ?_) | (refine NX.one (One.cut_hM hA tabOk rfl rfl rfl rfl Zd Zd) ?_) | refine NX.raw ?_) | (refine TRg.pass ?_; refine TRg.nx hA tabOk Zc ?_; first | refine TX.done ?_ | refine TX.gt ?_ | refine TX.gf ?_ | (refine TX.gs ?_ ?_ <;> intro hc <;> rw [hc] <;> ((try simp only [zn] at hc) <;> (try simp (disch := omega) only [zz hA, zb, zy, reduceCtorEq, Bool.false_eq_true, Int.reduceLT, Int.reduceLE, Int.reduceNeg] at hc) <;> (try simp only [zw] at hc)) <;> (try (exfalso; omega))) | (refine TX.kC ?_; first | (with_reducible refine TX.call (hsh) ?_) | (with_reducible refine TX.call (hof) ?_) | (with_reducible refine TX.call (hth) ?_) | (with_reducible refine TX.call (hj) ?_) | (with_reducible refine TX.call (hj2) ?_) | (with_reducible refine TX.call (hj4 _ (by simp only [rhid hA, hid_eq hA, e1])) ?_) | (with_reducible refine TX.call (hs1) ?_) | (with_reducible refine TX.call (hs2) ?_) | ((first | refine TX.call (hsh) ?_ | refine TX.call (hof) ?_ | refine TX.call (hth) ?_ | refine TX.call (hj) ?_ | refine TX.call (hj2) ?_ | refine TX.call (hj4 _ (by simp only [rhid hA, hid_eq hA, e1])) ?_ | refine TX.call (hs1) ?_ | refine TX.call (hs2) ?_)) | fail) | (refine TX.kO ?_; (first | refine TX.callO (hsh) (by simp [allEq]) rfl ?_ | refine TX.callO (hof) (by simp [allEq]) rfl ?_ | refine TX.callO (hth) (by simp [allEq]) rfl ?_ | refine TX.callO (hj) (by simp [allEq]) rfl ?_ | refine TX.callO (hj2) (by simp [allEq]) rfl ?_ | refine TX.callO (hj4 _ (by simp only [rhid hA, hid_eq hA, e1])) (by simp [allEq]) rfl ?_ | refine TX.callO (hs1) (by simp [allEq]) rfl ?_ | refine TX.callO (hs2) (by simp [allEq]) rfl ?_)) | refine TX.k 2 (TX.one Z2 ?_) | refine TX.k 8 (TX.one Z8 ?_) | refine TX.k 10 (TX.one Z10 ?_) | refine TX.k 14 (TX.one Z14 ?_) | refine TX.k 15 (TX.one Z15 ?_) | refine TX.k 18 (TX.one Z18 ?_) | (refine TX.one (One.cut_hM hA tabOk rfl rfl rfl rfl Zd Zd) ?_) | refine TX.raw ?_) | refine Fin3.of Zc (by repeat' (first | exact True.intro | exact rfl | refine And.intro ?_ ?_)) ?_ ?_ | (refine AllO.pass ?_; first | exact AllO.nil | (refine AllO.cons (One.ev hA tabOk ?_) ?_ <;> (first | refine AllO.pass ?_ | ((conv => lhs; cbv); done))) | (refine AllO.cons (One.skipB ?_) ?_ <;> (first | refine AllO.pass ?_ | ((conv => lhs; cbv); done))) | ((with_reducible refine AllO.call Zc (hsh) ?_ ?_) <;> (first | refine AllO.pass ?_ | exact rfl | exact Zd)) | ((with_reducible refine AllO.call Zc (hof) ?_ ?_) <;> (first | refine AllO.pass ?_ | exact rfl | exact Zd)) | ((with_reducible refine AllO.call Zc (hth) ?_ ?_) <;> (first | refine AllO.pass ?_ | exact rfl | exact Zd)) | ((with_reducible refine AllO.call Zc (hj) ?_ ?_) <;> (first | refine AllO.pass ?_ | exact rfl | exact Zd)) | ((with_reducible refine AllO.call Zc (hj2) ?_ ?_) <;> (first | refine AllO.pass ?_ | exact rfl | exact Zd)) | ((with_reducible refine AllO.call Zc (hj4 _ (by simp only [rhid hA, hid_eq hA, e1])) ?_ ?_) <;> (first | refine AllO.pass ?_ | exact rfl | exact Zd)) | ((with_reducible refine AllO.call Zc (hs1) ?_ ?_) <;> (first | refine AllO.pass ?_ | exact rfl | exact Zd)) | ((with_reducible refine AllO.call Zc (hs2) ?_ ?_) <;> (first | refine AllO.pass ?_ | exact rfl | exact Zd)) | refine AllO.consX ZX rfl rfl ?_ | ((refine AllO.consX (One.cut_hM hA tabOk rfl rfl rfl rfl Zd Zd) rfl rfl ?_) <;> (first | refine AllO.pass ?_ | exact Zd))) | refine Thn.exit ?_ | refine Blk.here ?_ | refine Blk.other (by decide) ?_ | refine ⟨.inl rfl, _, RetOk.ev tabOk Zc, ?_⟩ | fail)
  all_goals first | exact Ze | trace_state
theorem conce_law (l : List Sg) (hl : FitG l) (K : List (List Int)) (S : List Int) (hk : FitsK K S) (R V : List Int) (N : List (Int × Int)) (M : List Int) (P Q : List (List Int)) (hg : FitGr R V N M P Q) (row : List Int) (hrow : row.length ≤ 1000000000000000) :
    PureCalls Try.prog 10 [.agg [.sl 2 false (hid A (List.map (encG A) l)), .sl 1 false (hid A (List.map (encK A) K)), .sl 1 false (hid A (List.map encI S)), .sl 1 false (hid A (List.map encI R)), .sl 1 false (hid A (List.map encI V)), .sl 2 false (hid A (List.map encN N)), .sl 1 false (hid A (List.map encI M)), .sl 1 false (hid A (List.map (encK A) P)), .sl 1 false (hid A (List.map (encK A) Q)), .sl 1 false (hid A (List.map encI row))]] (BP true) := by
  have hsh := shown13_c hA
  obtain ⟨b, hof, hb⟩ := of13_c hA l hl K S hk R V N M P Q hg
  cases b with
  | false =>
    refine PureCalls.of Try.func10 rfl (by kernel_rfl) rfl ?_
    try first | refine AOLg.of [] ?_ | refine QSg.of [] ?_
    repeat' (first | (refine AWp.pass ?_; first | refine AWp.seq ?_ | refine AWp.block ?_ | refine AWp.skip ?_ | refine AWp.regG [] Zc ?_ | refine AWp.cond_t rfl ?_ | refine AWp.cond_f rfl ?_ | (refine AWp.cond rfl ?_ ?_ <;> intro hc <;> (try rw [hc]) <;> ((try simp only [zn] at hc) <;> (try simp (disch := omega) only [zz hA, zb, zy, reduceCtorEq, Bool.false_eq_true, Int.reduceLT, Int.reduceLE, Int.reduceNeg] at hc) <;> (try simp only [zw] at hc)) <;> (try (exfalso; omega))) | refine AWp.exit ?_ | refine AWp.ret ⟨.inr rfl, _, RetOk.ev tabOk Zc, ?_⟩ | refine AWp.drawVG [] rfl (by decide +kernel) Zc ?_) | (refine AOLg.pass ?_; refine AOLg.nx hA tabOk Zc ?_; first | refine NX.done ?_ | refine NX.gt ?_ | refine NX.gf ?_ | (refine NX.gs ?_ ?_ <;> intro hc <;> rw [hc] <;> ((try simp only [zn] at hc) <;> (try simp (disch := omega) only [zz hA, zb, zy, reduceCtorEq, Bool.false_eq_true, Int.reduceLT, Int.reduceLE, Int.reduceNeg] at hc) <;> (try simp only [zw] at hc)) <;> (try (exfalso; omega))) | (refine NX.kC ?_; first | (with_reducible refine NX.call (hsh) ?_) | (with_reducible refine NX.call (hof) ?_) | ((first | refine NX.call (hsh) ?_ | refine NX.call (hof) ?_)) | fail) | (refine NX.kO ?_; (first | refine NX.callO (hsh) (by simp [allEq]) rfl ?_ | refine NX.callO (hof) (by simp [allEq]) rfl ?_)) | refine NX.k 2 (NX.one Z2 ?_) | refine NX.k 8 (NX.one Z8 ?_) | refine NX.k 10 (NX.one Z10 ?_) | refine NX.k 14 (NX.one Z14 ?_) | refine NX.k 15 (NX.one Z15 ?_) | refine NX.k 18 (NX.one Z18 ?_) | refine NX.raw ?_) | (refine TRg.pass ?_; refine TRg.nx hA tabOk Zc ?_; first | refine TX.done ?_ | refine TX.gt ?_ | refine TX.gf ?_ | (refine TX.gs ?_ ?_ <;> intro hc <;> rw [hc] <;> ((try simp only [zn] at hc) <;> (try simp (disch := omega) only [zz hA, zb, zy, reduceCtorEq, Bool.false_eq_true, Int.reduceLT, Int.reduceLE, Int.reduceNeg] at hc) <;> (try simp only [zw] at hc)) <;> (try (exfalso; omega))) | (refine TX.kC ?_; first | (with_reducible refine TX.call (hsh) ?_) | (with_reducible refine TX.call (hof) ?_) | ((first | refine TX.call (hsh) ?_ | refine TX.call (hof) ?_)) | fail) | (refine TX.kO ?_; (first | refine TX.callO (hsh) (by simp [allEq]) rfl ?_ | refine TX.callO (hof) (by simp [allEq]) rfl ?_)) | refine TX.k 2 (TX.one Z2 ?_) | refine TX.k 8 (TX.one Z8 ?_) | refine TX.k 10 (TX.one Z10 ?_) | refine TX.k 14 (TX.one Z14 ?_) | refine TX.k 15 (TX.one Z15 ?_) | refine TX.k 18 (TX.one Z18 ?_) | refine TX.raw ?_) | refine Fin3.of Zc (by repeat' (first | exact True.intro | exact rfl | refine And.intro ?_ ?_)) ?_ ?_ | (refine AllO.pass ?_; first | exact AllO.nil | (refine AllO.cons (One.ev hA tabOk ?_) ?_ <;> (first | refine AllO.pass ?_ | ((conv => lhs; cbv); done))) | (refine AllO.cons (One.skipB ?_) ?_ <;> (first | refine AllO.pass ?_ | ((conv => lhs; cbv); done))) | ((with_reducible refine AllO.call Zc (hsh) ?_ ?_) <;> (first | refine AllO.pass ?_ | exact rfl | exact Zd)) | ((with_reducible refine AllO.call Zc (hof) ?_ ?_) <;> (first | refine AllO.pass ?_ | exact rfl | exact Zd)) | refine AllO.consX ZX rfl rfl ?_) | refine Thn.exit ?_ | refine Blk.here ?_ | refine Blk.other (by decide) ?_ | refine ⟨.inl rfl, _, RetOk.ev tabOk Zc, ?_⟩ | fail)
    all_goals exact Ze
  | true =>
    by_cases h0 : 0 < row.length ∧ row.length ≤ 40
    · obtain ⟨h0, h40⟩ := h0
      have hth := there_c hA R V N M P Q row (by omega)
      cases hT : thereB V.length row with
      | false =>
        rw [hT, hid_eq hA (α := Bool)] at hth
        refine PureCalls.of Try.func10 rfl (by kernel_rfl) rfl ?_
        try first | refine AOLg.of [] ?_ | refine QSg.of [] ?_
        repeat' (first | (refine AWp.pass ?_; first | refine AWp.seq ?_ | refine AWp.block ?_ | refine AWp.skip ?_ | refine AWp.regG [] Zc ?_ | refine AWp.cond_t rfl ?_ | refine AWp.cond_f rfl ?_ | (refine AWp.cond rfl ?_ ?_ <;> intro hc <;> (try rw [hc]) <;> ((try simp only [zn] at hc) <;> (try simp (disch := omega) only [zz hA, zb, zy, reduceCtorEq, Bool.false_eq_true, Int.reduceLT, Int.reduceLE, Int.reduceNeg] at hc) <;> (try simp only [zw] at hc)) <;> (try (exfalso; omega))) | refine AWp.exit ?_ | refine AWp.ret ⟨.inr rfl, _, RetOk.ev tabOk Zc, ?_⟩ | refine AWp.drawVG [] rfl (by decide +kernel) Zc ?_) | (refine AOLg.pass ?_; refine AOLg.nx hA tabOk Zc ?_; first | refine NX.done ?_ | refine NX.gt ?_ | refine NX.gf ?_ | (refine NX.gs ?_ ?_ <;> intro hc <;> rw [hc] <;> ((try simp only [zn] at hc) <;> (try simp (disch := omega) only [zz hA, zb, zy, reduceCtorEq, Bool.false_eq_true, Int.reduceLT, Int.reduceLE, Int.reduceNeg] at hc) <;> (try simp only [zw] at hc)) <;> (try (exfalso; omega))) | (refine NX.kC ?_; first | (with_reducible refine NX.call (hsh) ?_) | (with_reducible refine NX.call (hof) ?_) | (with_reducible refine NX.call (hth) ?_) | ((first | refine NX.call (hsh) ?_ | refine NX.call (hof) ?_ | refine NX.call (hth) ?_)) | fail) | (refine NX.kO ?_; (first | refine NX.callO (hsh) (by simp [allEq]) rfl ?_ | refine NX.callO (hof) (by simp [allEq]) rfl ?_ | refine NX.callO (hth) (by simp [allEq]) rfl ?_)) | refine NX.k 2 (NX.one Z2 ?_) | refine NX.k 8 (NX.one Z8 ?_) | refine NX.k 10 (NX.one Z10 ?_) | refine NX.k 14 (NX.one Z14 ?_) | refine NX.k 15 (NX.one Z15 ?_) | refine NX.k 18 (NX.one Z18 ?_) | refine NX.raw ?_) | (refine TRg.pass ?_; refine TRg.nx hA tabOk Zc ?_; first | refine TX.done ?_ | refine TX.gt ?_ | refine TX.gf ?_ | (refine TX.gs ?_ ?_ <;> intro hc <;> rw [hc] <;> ((try simp only [zn] at hc) <;> (try simp (disch := omega) only [zz hA, zb, zy, reduceCtorEq, Bool.false_eq_true, Int.reduceLT, Int.reduceLE, Int.reduceNeg] at hc) <;> (try simp only [zw] at hc)) <;> (try (exfalso; omega))) | (refine TX.kC ?_; first | (with_reducible refine TX.call (hsh) ?_) | (with_reducible refine TX.call (hof) ?_) | (with_reducible refine TX.call (hth) ?_) | ((first | refine TX.call (hsh) ?_ | refine TX.call (hof) ?_ | refine TX.call (hth) ?_)) | fail) | (refine TX.kO ?_; (first | refine TX.callO (hsh) (by simp [allEq]) rfl ?_ | refine TX.callO (hof) (by simp [allEq]) rfl ?_ | refine TX.callO (hth) (by simp [allEq]) rfl ?_)) | refine TX.k 2 (TX.one Z2 ?_) | refine TX.k 8 (TX.one Z8 ?_) | refine TX.k 10 (TX.one Z10 ?_) | refine TX.k 14 (TX.one Z14 ?_) | refine TX.k 15 (TX.one Z15 ?_) | refine TX.k 18 (TX.one Z18 ?_) | refine TX.raw ?_) | refine Fin3.of Zc (by repeat' (first | exact True.intro | exact rfl | refine And.intro ?_ ?_)) ?_ ?_ | (refine AllO.pass ?_; first | exact AllO.nil | (refine AllO.cons (One.ev hA tabOk ?_) ?_ <;> (first | refine AllO.pass ?_ | ((conv => lhs; cbv); done))) | (refine AllO.cons (One.skipB ?_) ?_ <;> (first | refine AllO.pass ?_ | ((conv => lhs; cbv); done))) | ((with_reducible refine AllO.call Zc (hsh) ?_ ?_) <;> (first | refine AllO.pass ?_ | exact rfl | exact Zd)) | ((with_reducible refine AllO.call Zc (hof) ?_ ?_) <;> (first | refine AllO.pass ?_ | exact rfl | exact Zd)) | ((with_reducible refine AllO.call Zc (hth) ?_ ?_) <;> (first | refine AllO.pass ?_ | exact rfl | exact Zd)) | refine AllO.consX ZX rfl rfl ?_) | refine Thn.exit ?_ | refine Blk.here ?_ | refine Blk.other (by decide) ?_ | refine ⟨.inl rfl, _, RetOk.ev tabOk Zc, ?_⟩ | fail)
        all_goals exact Ze
      | true =>
        rw [hT, hid_eq hA (α := Bool)] at hth
        have ht := there_all.1 hT
        obtain ⟨ho, hv40⟩ := hb rfl
        obtain ⟨b1, b2, b3, b4, b5, b6, b7, b8⟩ := ho.len
        have hst := ho.st
        have hru := ho.ru
        have hri := ho.right
        have hok : OkJ K R M V.length 1000 0 ⟨V, N, P, Q, []⟩ := ⟨hru, rfl, b5, b6, b7, b8, by simpa using b3, by simp, hri⟩
        have hj := join13_c hA K S hst R M V.length 1000 b1 b2 (by omega) _ hok row ht h0 (by omega) rfl
        obtain ⟨ok2, one⟩ := join_ok hok ht h0 row.length (Nat.le_refl _)
        have ht1 : ∀ j : Nat, j < (row.take 1).length → 0 ≤ (row.take 1).getD j default ∧ (row.take 1).getD j default < V.length := fun j hj => by
          rw [List.length_take] at hj
          obtain rfl : j = 0 := by omega
          rw [show (row.take 1).getD 0 default = row.getD 0 default by cases row <;> rfl]
          exact ht 0 h0
        have l1 : (row.take 1).length = 1 := by rw [List.length_take]; omega
        have hj3 := join13_c hA K S hst R M V.length 1000 b1 b2 (by omega) _ hok (row.take 1) ht1 (by omega) (by omega) rfl
        rw [l1, jk_one] at hj3
        generalize jkM K R ⟨V, N, P, Q, []⟩ row row.length = s at *
        have n2 := ok2.nn
        have v2 := ok2.v
        have hok3 : OkJ K R M V.length 1040 0 ⟨s.V, s.N, s.P, s.Q, []⟩ := ⟨ok2.ru, v2, ok2.p, ok2.q, ok2.pl, ok2.ql, by simp only; omega, by simp, ok2.right⟩
        have hj2 := join13_c hA K S hst R M V.length 1040 b1 b2 (by omega) _ hok3 row ht h0 (by omega) rfl
        rw [jk_same (s := ⟨s.V, s.N, s.P, s.Q, []⟩) (l := row) (fun j hj => one.all j hj hj) _ (Nat.le_refl _)] at hj2
        exact conce_walk hA l K S R V N M P Q row s.V s.N s.P s.Q s.O h0 h40 hof hth hj hj2 hj3
          (gsame_c hA R s.V s.N M s.P s.Q (by omega) ⟨by simp only; omega, by simp only; omega, by simp only; omega⟩)
          (gsame_c hA R V N M P Q (by omega) ⟨by simp only; omega, by simp only; omega, by simp only; omega⟩)
    · refine PureCalls.of Try.func10 rfl (by kernel_rfl) rfl ?_
      try first | refine AOLg.of [] ?_ | refine QSg.of [] ?_
      repeat' (first | (refine AWp.pass ?_; first | refine AWp.seq ?_ | refine AWp.block ?_ | refine AWp.skip ?_ | refine AWp.regG [] Zc ?_ | refine AWp.cond_t rfl ?_ | refine AWp.cond_f rfl ?_ | (refine AWp.cond rfl ?_ ?_ <;> intro hc <;> (try rw [hc]) <;> ((try simp only [zn] at hc) <;> (try simp (disch := omega) only [zz hA, zb, zy, reduceCtorEq, Bool.false_eq_true, Int.reduceLT, Int.reduceLE, Int.reduceNeg] at hc) <;> (try simp only [zw] at hc)) <;> (try (exfalso; omega))) | refine AWp.exit ?_ | refine AWp.ret ⟨.inr rfl, _, RetOk.ev tabOk Zc, ?_⟩ | refine AWp.drawVG [] rfl (by decide +kernel) Zc ?_) | (refine AOLg.pass ?_; refine AOLg.nx hA tabOk Zc ?_; first | refine NX.done ?_ | refine NX.gt ?_ | refine NX.gf ?_ | (refine NX.gs ?_ ?_ <;> intro hc <;> rw [hc] <;> ((try simp only [zn] at hc) <;> (try simp (disch := omega) only [zz hA, zb, zy, reduceCtorEq, Bool.false_eq_true, Int.reduceLT, Int.reduceLE, Int.reduceNeg] at hc) <;> (try simp only [zw] at hc)) <;> (try (exfalso; omega))) | (refine NX.kC ?_; first | (with_reducible refine NX.call (hsh) ?_) | (with_reducible refine NX.call (hof) ?_) | ((first | refine NX.call (hsh) ?_ | refine NX.call (hof) ?_)) | fail) | (refine NX.kO ?_; (first | refine NX.callO (hsh) (by simp [allEq]) rfl ?_ | refine NX.callO (hof) (by simp [allEq]) rfl ?_)) | refine NX.k 2 (NX.one Z2 ?_) | refine NX.k 8 (NX.one Z8 ?_) | refine NX.k 10 (NX.one Z10 ?_) | refine NX.k 14 (NX.one Z14 ?_) | refine NX.k 15 (NX.one Z15 ?_) | refine NX.k 18 (NX.one Z18 ?_) | refine NX.raw ?_) | (refine TRg.pass ?_; refine TRg.nx hA tabOk Zc ?_; first | refine TX.done ?_ | refine TX.gt ?_ | refine TX.gf ?_ | (refine TX.gs ?_ ?_ <;> intro hc <;> rw [hc] <;> ((try simp only [zn] at hc) <;> (try simp (disch := omega) only [zz hA, zb, zy, reduceCtorEq, Bool.false_eq_true, Int.reduceLT, Int.reduceLE, Int.reduceNeg] at hc) <;> (try simp only [zw] at hc)) <;> (try (exfalso; omega))) | (refine TX.kC ?_; first | (with_reducible refine TX.call (hsh) ?_) | (with_reducible refine TX.call (hof) ?_) | ((first | refine TX.call (hsh) ?_ | refine TX.call (hof) ?_)) | fail) | (refine TX.kO ?_; (first | refine TX.callO (hsh) (by simp [allEq]) rfl ?_ | refine TX.callO (hof) (by simp [allEq]) rfl ?_)) | refine TX.k 2 (TX.one Z2 ?_) | refine TX.k 8 (TX.one Z8 ?_) | refine TX.k 10 (TX.one Z10 ?_) | refine TX.k 14 (TX.one Z14 ?_) | refine TX.k 15 (TX.one Z15 ?_) | refine TX.k 18 (TX.one Z18 ?_) | refine TX.raw ?_) | refine Fin3.of Zc (by repeat' (first | exact True.intro | exact rfl | refine And.intro ?_ ?_)) ?_ ?_ | (refine AllO.pass ?_; first | exact AllO.nil | (refine AllO.cons (One.ev hA tabOk ?_) ?_ <;> (first | refine AllO.pass ?_ | ((conv => lhs; cbv); done))) | (refine AllO.cons (One.skipB ?_) ?_ <;> (first | refine AllO.pass ?_ | ((conv => lhs; cbv); done))) | ((with_reducible refine AllO.call Zc (hsh) ?_ ?_) <;> (first | refine AllO.pass ?_ | exact rfl | exact Zd)) | ((with_reducible refine AllO.call Zc (hof) ?_ ?_) <;> (first | refine AllO.pass ?_ | exact rfl | exact Zd)) | refine AllO.consX ZX rfl rfl ?_) | refine Thn.exit ?_ | refine Blk.here ?_ | refine Blk.other (by decide) ?_ | refine ⟨.inl rfl, _, RetOk.ev tabOk Zc, ?_⟩ | fail)
      all_goals exact Ze
end Go.Proofs.Ytkkjlmcnfoncdaa.Aw

namespace Go.Proofs.Ytkkjlmcnfoncdaa.Aw
open Go Go.RowKit
set_option maxRecDepth 10000
attribute [local irreducible] AWp AOL QS One AOLg QSg NX QX TRg TX AllO Fin3
attribute [local irreducible] W.TRg W.TX W.AllO W.Fin3
abbrev gP2 (A : Ar) (P : List (List Int)) : PV := grP A [] [0, 1] [(-1, 0), (-1, 0)] [] P K2
variable {A : Ar} (hA : A = real)
include hA
end Go.Proofs.Ytkkjlmcnfoncdaa.Aw

namespace Go.Proofs.Ytkkjlmcnfoncdaa.Aw
open Go Go.RowKit
set_option maxRecDepth 10000
attribute [local irreducible] AWp AOL QS One AOLg QSg NX QX TRg TX AllO Fin3
attribute [local irreducible] W.TRg W.TX W.AllO W.Fin3
abbrev st3 (A : Ar) (f : AV) : List AObj := [.var true 26 [.ic (.sl 1 false (hid A (List.map (encK A) K4))), .ic (.sl 1 false (hid A (List.map encI (layM K4))))], .var true 31 [.ic (.sl 1 false (hid A (List.map encI []))), .ic (.sl 1 false (hid A (List.map encI [0, 1]))), .ic (.sl 2 false (hid A (List.map encN [(-1, 0), (-1, 0)]))), .ic (.sl 1 false (hid A (List.map encI []))), .ic (.sl 1 false (hid A (List.map (encK A) K2'))), .ic (.sl 1 false (hid A (List.map (encK A) K2)))], .var true 3 [.ic (.lit (.int .i64 1))], .var true 106 [f]]
variable {A : Ar} (hA : A = real)
include hA
end Go.Proofs.Ytkkjlmcnfoncdaa.Aw

namespace Go.Proofs.Ytkkjlmcnfoncdaa.Aw
open Go Go.RowKit
set_option maxRecDepth 10000
attribute [local irreducible] AWp AOL QS One AOLg QSg NX QX TRg TX AllO Fin3
variable {A : Ar} (hA : A = real)
include hA
end Go.Proofs.Ytkkjlmcnfoncdaa.Aw

namespace Go.Proofs.Ytkkjlmcnfoncdaa.Aw
open Go Go.RowKit
set_option maxRecDepth 10000
attribute [local irreducible] AWp AOL QS One AOLg QSg NX QX TRg TX AllO Fin3
variable {A : Ar} (hA : A = real)
include hA
end Go.Proofs.Ytkkjlmcnfoncdaa.Aw

namespace Go.Proofs.Ytkkjlmcnfoncdaa.Aw
open Go Go.RowKit
set_option maxRecDepth 10000
theorem decSgs {rows : List (List IC)} (h : ∀ r ∈ rows, Dec (.st [.str, .str]) r) : ∃ l : List Sg, rows = hid real (List.map (encG real) l) ∧ FitG l := by
  induction rows with
  | nil => exact ⟨[], rfl, by simp [FitG]⟩
  | cons r rs ih =>
    obtain ⟨l, hl, hb⟩ := ih fun x hx => h x (List.mem_cons_of_mem _ hx)
    obtain ⟨a1, b1, rfl, ⟨n, rfl, hn⟩, a2, b2, rfl, ⟨g, rfl, hg⟩, rfl⟩ := h r List.mem_cons_self
    refine ⟨(n, g) :: l, by rw [hl]; rfl, fun x hx => ?_⟩
    rcases List.mem_cons.1 hx with rfl | hx
    · exact ⟨by show n.size ≤ _; omega, by show g.size ≤ _; omega⟩
    · exact hb x hx
theorem decKeys2 {rows : List (List IC)} (h : ∀ r ∈ rows, Dec (.sl 8 (.int .i64)) r) : ∃ K : List (List Int), rows = hid real (List.map (encK real) K) ∧ ∀ x ∈ K, x.length ≤ 140737488351232 := by
  induction rows with
  | nil => exact ⟨[], rfl, by simp⟩
  | cons r rs ih =>
    obtain ⟨K, hK, hb⟩ := ih fun x hx => h x (List.mem_cons_of_mem _ hx)
    obtain ⟨q, e, h1, h2⟩ := h r List.mem_cons_self
    obtain ⟨l, rfl, _⟩ := decInts h1
    simp only [List.length_map] at h2
    refine ⟨l :: K, by rw [hK, e]; rfl, fun x hx => ?_⟩
    rcases List.mem_cons.1 hx with rfl | hx
    · omega
    · exact hb x hx
def shGraph : List Sh := [.sl 8 (.int .i64), .st shCells, .sl 24 (.sl 8 (.int .i64)), .sl 24 (.sl 8 (.int .i64))]
theorem decGraph {ics : List IC} (h : Decs shGraph ics) : ∃ (R V : List Int) (N : List (Int × Int)) (M : List Int) (P Q : List (List Int)), ics = [.sl 1 false (List.map encI R), .sl 1 false (List.map encI V), .sl 2 false (List.map encN N), .sl 1 false (List.map encI M), .sl 1 false (hid real (List.map (encK real) P)), .sl 1 false (hid real (List.map (encK real) Q))] ∧ FitGr R V N M P Q := by
  obtain ⟨a0, b0, rfl, ⟨r, rfl, h3, h4⟩, a1, b1, rfl, h1, a2, b2, rfl, ⟨r2, e2, g2, k2⟩, a3, b3, rfl, ⟨r3, e3, g3, k3⟩, rfl⟩ := h
  obtain ⟨c, rfl, hf⟩ := decCells h1
  obtain ⟨R, rfl, _⟩ := decInts h3
  obtain ⟨P, rfl, p2⟩ := decKeys2 g2
  obtain ⟨Q, rfl, q2⟩ := decKeys2 g3
  subst e2 e3
  have e1 : (List.map (encK real) P).length * 24 ≤ 140737488351232 := k2
  have e4 : (List.map (encK real) Q).length * 24 ≤ 140737488351232 := k3
  rw [List.length_map] at e1 e4
  simp only [List.length_map] at h4
  exact ⟨R, c.V, c.N, c.M, P, Q, rfl, ⟨by omega, hf.v, hf.n, hf.m, by omega, by omega, p2, q2⟩⟩
def shReps : List Sh := [.sl 32 (.st [.str, .str]), .st shKeyed, .st shGraph, .int .i64, .int .i64]
def shMore : List Sh := [.sl 32 (.st [.str, .str]), .st shKeyed, .st shGraph, .int .u8]
variable {A : Ar} (hA : A = real)
include hA
end Go.Proofs.Ytkkjlmcnfoncdaa.Aw

namespace Go.Proofs.Ytkkjlmcnfoncdaa.Aw
open Go Go.RowKit
set_option maxRecDepth 10000
def shJoins : List Sh := [.sl 32 (.st [.str, .str]), .st shKeyed, .st shGraph, .sl 8 (.int .i64)]
theorem decJoins {ics : List IC} (h : Decs shJoins ics) : ∃ (l : List Sg) (K : List (List Int)) (S R V : List Int) (N : List (Int × Int)) (M : List Int) (P Q : List (List Int)) (x : List Int), ics = [.sl 2 false (hid real (List.map (encG real) l)), .sl 1 false (hid real (List.map (encK real) K)), .sl 1 false (hid real (List.map encI S)), .sl 1 false (List.map encI R), .sl 1 false (List.map encI V), .sl 2 false (List.map encN N), .sl 1 false (List.map encI M), .sl 1 false (hid real (List.map (encK real) P)), .sl 1 false (hid real (List.map (encK real) Q)), .sl 1 false (List.map encI x)] ∧ FitG l ∧ FitsK K S ∧ FitGr R V N M P Q ∧ x.length ≤ 1000000000000000 := by
  obtain ⟨a0, b0, rfl, ⟨r, rfl, h0, _⟩, a1, b1, rfl, h1, a2, b2, rfl, h2, a3, b3, rfl, ⟨x, rfl, h3, h4⟩, rfl⟩ := h
  obtain ⟨l, rfl, hl⟩ := decSgs h0
  obtain ⟨K, S, rfl, hf⟩ := decKeyed h1
  obtain ⟨R, V, N, M, P, Q, rfl, hg⟩ := decGraph h2
  obtain ⟨x, rfl, _⟩ := decInts h3
  simp only [List.length_map] at h4
  exact ⟨l, K, S, R, V, N, M, P, Q, x, rfl, hl, hf, hg, by omega⟩
variable {A : Ar} (hA : A = real)
include hA
theorem cjoinsL (l : List Sg) (hl : FitG l) (K : List (List Int)) (S : List Int) (hk : FitsK K S) (R V : List Int) (N : List (Int × Int)) (M : List Int) (P Q : List (List Int)) (hg : FitGr R V N M P Q) (x : List Int) (hx : x.length ≤ 1000000000000000) :
    PureCalls Try.prog 9 [.agg [.sl 2 false (hid A (List.map (encG A) l)), .sl 1 false (hid A (List.map (encK A) K)), .sl 1 false (hid A (List.map encI S)), .sl 1 false (List.map encI R), .sl 1 false (List.map encI V), .sl 2 false (List.map encN N), .sl 1 false (List.map encI M), .sl 1 false (hid A (List.map (encK A) P)), .sl 1 false (hid A (List.map (encK A) Q)), .sl 1 false (List.map encI x)]] (BP true) := by
  have := cjoins_law hA l hl K S hk R V N M P Q hg x hx
  rwa [hid_eq hA (List.map encI R), hid_eq hA (List.map encI V), hid_eq hA (List.map encN N), hid_eq hA (List.map encI M), hid_eq hA (List.map encI x)] at this
theorem conceL (l : List Sg) (hl : FitG l) (K : List (List Int)) (S : List Int) (hk : FitsK K S) (R V : List Int) (N : List (Int × Int)) (M : List Int) (P Q : List (List Int)) (hg : FitGr R V N M P Q) (x : List Int) (hx : x.length ≤ 1000000000000000) :
    PureCalls Try.prog 10 [.agg [.sl 2 false (hid A (List.map (encG A) l)), .sl 1 false (hid A (List.map (encK A) K)), .sl 1 false (hid A (List.map encI S)), .sl 1 false (List.map encI R), .sl 1 false (List.map encI V), .sl 2 false (List.map encN N), .sl 1 false (List.map encI M), .sl 1 false (hid A (List.map (encK A) P)), .sl 1 false (hid A (List.map (encK A) Q)), .sl 1 false (List.map encI x)]] (BP true) := by
  have := conce_law hA l hl K S hk R V N M P Q hg x hx
  rwa [hid_eq hA (List.map encI R), hid_eq hA (List.map encI V), hid_eq hA (List.map encN N), hid_eq hA (List.map encI M), hid_eq hA (List.map encI x)] at this
end Go.Proofs.Ytkkjlmcnfoncdaa.Aw
