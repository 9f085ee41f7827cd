/- The statements Lays, walked. -/
import Derived.Test.YtpphdaphbkepfaaHa9
import Derived.Test.YtpphdaphbkepfaaHd1
import Derived.Test.YtpphdaphbkepfaaHp3
set_option linter.unusedVariables false
set_option linter.unusedSimpArgs false
namespace Go.Proofs.Ytpphdaphbkepfaa.Aw
open Go Go.RowKit
set_option maxRecDepth 10000
attribute [local irreducible] AWp AOL QS One
variable {A : Ar} (hA : A = real)
include hA
set_option maxHeartbeats 4000000 in
theorem lays_law (L : List (List Int)) (hfit : FitsK L []) : PureCalls Try.prog 7 [slP A 1 (encK A) L] (BP true) := by
  obtain ⟨h1, h2, h3⟩ := hfit
  have hfew := (refFew_c hA L [] h1 h2 h3).weaken (pvs := [.agg [.sl 1 false (hid A (List.map (encK A) L)), .sl 0 false []]]) (by
    refine .cons (.agg (.cons (.refl _) (.cons ?_ .nil))) .nil
    rw [hid_eq hA]
    exact .nil _ _ _)
  by_cases hg : L.length ≤ 200 ∧ fewM L [] = true
  · obtain ⟨g1, g2⟩ := hg
    rw [g2] at hfew
    obtain ⟨_, _, hb3⟩ := few_bounds g2
    have hlay := lay_c hA L (by omega) (fun x hx => by have := hb3 x hx; omega)
    have hb := sizeM_bound L.length
    have hll := layM_len L
    refine PureCalls.of Try.func7 rfl (by kernel_rfl) rfl ?_
    repeat' (first
      | (refine AWp.pass ?_; first
          | refine AWp.seq ?_
          | refine AWp.block ?_
          | refine AWp.skip ?_
          | refine AWp.reg (by conv => lhs; cbv) ?_
          | refine AWp.cond_t rfl ?_
          | refine AWp.cond_f rfl ?_
          | (refine AWp.cond rfl ?_ ?_ <;> intro hc <;> (try rw [hc]) <;> ((try simp (disch := omega) only [zz hA, zb, reduceCtorEq, Bool.false_eq_true, Int.reduceLT, Int.reduceLE, Int.reduceNeg] at hc) <;> (try simp only [zw] at hc)) <;> (try (exfalso; omega)))
          | refine AWp.exit ?_
          | refine AWp.ret ⟨.inr rfl, _, RetOk.ev tabOk (by conv => lhs; cbv), ?_⟩
          | refine AWp.drawK 0 rfl (by decide +kernel) (by conv => lhs; cbv) (by conv => lhs; cbv) ?_
          | refine AWp.drawK 1 rfl (by decide +kernel) (by conv => lhs; cbv) (by conv => lhs; cbv) ?_
          | refine AWp.drawK 2 rfl (by decide +kernel) (by conv => lhs; cbv) (by conv => lhs; cbv) ?_
          | refine AWp.drawK 3 rfl (by decide +kernel) (by conv => lhs; cbv) (by conv => lhs; cbv) ?_
          | refine AWp.drawK 4 rfl (by decide +kernel) (by conv => lhs; cbv) (by conv => lhs; cbv) ?_
          | refine AWp.drawK 5 rfl (by decide +kernel) (by conv => lhs; cbv) (by conv => lhs; cbv) ?_
          | refine AWp.drawK 6 rfl (by decide +kernel) (by conv => lhs; cbv) (by conv => lhs; cbv) ?_
          | refine AWp.drawK 8 rfl (by decide +kernel) (by conv => lhs; cbv) (by conv => lhs; cbv) ?_)
      | (refine AOL.pass ?_; first
          | refine AOL.nil ?_
          | refine AOL.go hA tabOk (by conv => lhs; cbv) ?_
          | refine AOL.goG hA tabOk (by conv => lhs; cbv) ?_
          | refine AOL.go1 hA tabOk (by conv => lhs; cbv) ?_
          | (refine AOL.gs (by conv => lhs; cbv) ?_ ?_ <;> intro hc <;> (fail_if_success (with_reducible have h0 : true = true := hc)) <;> (fail_if_success (with_reducible have h0 : true = false := hc)) <;> (fail_if_success (with_reducible have h0 : false = true := hc)) <;> (fail_if_success (with_reducible have h0 : false = false := hc)) <;> rw [hc] <;> ((try simp (disch := omega) only [zz hA, zb, reduceCtorEq, Bool.false_eq_true, Int.reduceLT, Int.reduceLE, Int.reduceNeg] at hc) <;> (try simp only [zw] at hc)) <;> (try (exfalso; omega)))
          | refine AOL.one (One.call false rfl rfl rfl (shown_c hA) rfl) ?_
          | refine AOL.one (One.call true rfl rfl rfl (shown_c hA) rfl) ?_
          | refine AOL.one (One.call false rfl rfl rfl (hfew) rfl) ?_
          | refine AOL.one (One.call true rfl rfl rfl (hfew) rfl) ?_
          | refine AOL.one (One.call false rfl rfl rfl (hlay) rfl) ?_
          | refine AOL.one (One.call true rfl rfl rfl (hlay) rfl) ?_
          | refine AOL.one (One.call false rfl rfl rfl (size_c hA L.length _ (by (((try simp (disch := omega) only [zz hA, zb, reduceCtorEq, Bool.false_eq_true, Int.reduceLT, Int.reduceLE, Int.reduceNeg]) <;> (try simp only [zw])) <;> omega)) (by omega)) rfl) ?_
          | refine AOL.one (One.call true rfl rfl rfl (size_c hA L.length _ (by (((try simp (disch := omega) only [zz hA, zb, reduceCtorEq, Bool.false_eq_true, Int.reduceLT, Int.reduceLE, Int.reduceNeg]) <;> (try simp only [zw])) <;> omega)) (by omega)) rfl) ?_
          | ((first | refine AOL.one (One.elemM hA tabOk rfl rfl rfl rfl ?_ ?_) ?_ | refine AOL.one (One.clipM tabOk rfl rfl rfl rfl rfl ?_ ?_) ?_ | refine AOL.one (One.cut_hM hA tabOk rfl rfl rfl rfl ?_ ?_) ?_ | refine AOL.one (One.cut_lM hA tabOk rfl rfl rfl rfl ?_ ?_) ?_ | refine AOL.one (One.cut_lhM hA tabOk rfl rfl rfl rfl rfl ?_ ?_ ?_) ?_ | refine AOL.one (One.quoM hA rfl rfl rfl ?_) ?_ | refine AOL.one (One.remM hA rfl rfl rfl ?_) ?_ | refine AOL.one (One.bitsM hA rfl rfl rfl rfl) ?_ | refine AOL.one (One.shrM hA rfl rfl rfl ?_) ?_ | refine AOL.one (One.byteM hA tabOk rfl rfl rfl rfl rfl ?_ ?_) ?_ | refine AOL.one (One.concatM hA rfl rfl rfl ?_) ?_ | refine AOL.one (One.eqBoolM hA tabOk rfl rfl rfl rfl rfl) ?_ | refine AOL.one (One.neBoolM hA tabOk rfl rfl rfl rfl rfl) ?_ | refine AOL.one (One.lenOwnM hA tabOk rfl rfl rfl rfl) ?_ | refine AOL.one (One.elemOwnM hA tabOk rfl rfl rfl rfl rfl ?_ ?_) ?_ | refine AOL.one (One.loadRatM hA tabOk rfl rfl rfl rfl rfl rfl ?_) ?_ | refine AOL.one (One.appendM hA tabOk _ rfl rfl rfl rfl rfl rfl ?_ ?_) ?_ | refine AOL.one (One.appendMM hA tabOk rfl rfl rfl rfl rfl ?_ ?_) ?_ | refine AOL.one (One.appendOwnM hA tabOk _ rfl rfl rfl rfl rfl rfl rfl ?_ ?_) ?_ | refine AOL.one (One.appendOwnMM hA tabOk rfl rfl rfl rfl rfl rfl ?_ ?_) ?_ | refine AOL.one (One.appendOwn0 hA tabOk rfl rfl rfl rfl rfl rfl ?_ ?_) ?_ | refine AOL.one (One.storeRatM hA tabOk _ rfl rfl rfl rfl rfl rfl rfl rfl (fun _ => rfl) ?_) ?_ | refine AOL.one (One.makeM hA tabOk encI 0 rfl rfl rfl rfl rfl rfl rfl ?_ ?_ ?_) ?_ | refine AOL.one (One.build0 tabOk rfl rfl) ?_ | refine AOL.one (One.fieldRat tabOk rfl rfl rfl rfl (by decide) rfl rfl) ?_) <;> (first | refine AOL.pass ?_ | (((try simp (disch := omega) only [zz hA, zb, reduceCtorEq, Bool.false_eq_true, Int.reduceLT, Int.reduceLE, Int.reduceNeg]) <;> (try simp only [zw])) <;> omega))))
      | (refine QS.pass ?_; first
          | refine QS.nil ?_
          | refine QS.go hA tabOk (by conv => lhs; cbv) ?_
          | refine QS.goG hA tabOk (by conv => lhs; cbv) ?_
          | refine QS.go1 hA tabOk (by conv => lhs; cbv) ?_
          | (refine QS.gs (by conv => lhs; cbv) ?_ ?_ <;> intro hc <;> (fail_if_success (with_reducible have h0 : true = true := hc)) <;> (fail_if_success (with_reducible have h0 : true = false := hc)) <;> (fail_if_success (with_reducible have h0 : false = true := hc)) <;> (fail_if_success (with_reducible have h0 : false = false := hc)) <;> rw [hc] <;> ((try simp (disch := omega) only [zz hA, zb, reduceCtorEq, Bool.false_eq_true, Int.reduceLT, Int.reduceLE, Int.reduceNeg] at hc) <;> (try simp only [zw] at hc)) <;> (try (exfalso; omega)))
          | refine QS.one rfl (One.call false rfl rfl rfl (shown_c hA) rfl) ?_
          | refine QS.one rfl (One.call false rfl rfl rfl (hfew) rfl) ?_
          | refine QS.one rfl (One.call false rfl rfl rfl (hlay) rfl) ?_
          | refine QS.one rfl (One.call false rfl rfl rfl (size_c hA L.length _ (by (((try simp (disch := omega) only [zz hA, zb, reduceCtorEq, Bool.false_eq_true, Int.reduceLT, Int.reduceLE, Int.reduceNeg]) <;> (try simp only [zw])) <;> omega)) (by omega)) rfl) ?_
          | ((first | refine QS.one rfl (One.elemM hA tabOk rfl rfl rfl rfl ?_ ?_) ?_ | refine QS.one rfl (One.clipM tabOk rfl rfl rfl rfl rfl ?_ ?_) ?_ | refine QS.one rfl (One.cut_hM hA tabOk rfl rfl rfl rfl ?_ ?_) ?_ | refine QS.one rfl (One.cut_lM hA tabOk rfl rfl rfl rfl ?_ ?_) ?_ | refine QS.one rfl (One.cut_lhM hA tabOk rfl rfl rfl rfl rfl ?_ ?_ ?_) ?_ | refine QS.one rfl (One.quoM hA rfl rfl rfl ?_) ?_ | refine QS.one rfl (One.remM hA rfl rfl rfl ?_) ?_ | refine QS.one rfl (One.bitsM hA rfl rfl rfl rfl) ?_ | refine QS.one rfl (One.shrM hA rfl rfl rfl ?_) ?_ | refine QS.one rfl (One.byteM hA tabOk rfl rfl rfl rfl rfl ?_ ?_) ?_ | refine QS.one rfl (One.concatM hA rfl rfl rfl ?_) ?_ | refine QS.one rfl (One.eqBoolM hA tabOk rfl rfl rfl rfl rfl) ?_ | refine QS.one rfl (One.neBoolM hA tabOk rfl rfl rfl rfl rfl) ?_ | refine QS.one rfl (One.lenOwnM hA tabOk rfl rfl rfl rfl) ?_ | refine QS.one rfl (One.elemOwnM hA tabOk rfl rfl rfl rfl rfl ?_ ?_) ?_ | refine QS.one rfl (One.loadRatM hA tabOk rfl rfl rfl rfl rfl rfl ?_) ?_ | refine QS.one rfl (One.appendM hA tabOk _ rfl rfl rfl rfl rfl rfl ?_ ?_) ?_ | refine QS.one rfl (One.appendMM hA tabOk rfl rfl rfl rfl rfl ?_ ?_) ?_ | refine QS.one rfl (One.appendOwnM hA tabOk _ rfl rfl rfl rfl rfl rfl rfl ?_ ?_) ?_ | refine QS.one rfl (One.appendOwnMM hA tabOk rfl rfl rfl rfl rfl rfl ?_ ?_) ?_ | refine QS.one rfl (One.appendOwn0 hA tabOk rfl rfl rfl rfl rfl rfl ?_ ?_) ?_ | refine QS.one rfl (One.storeRatM hA tabOk _ rfl rfl rfl rfl rfl rfl rfl rfl (fun _ => rfl) ?_) ?_ | refine QS.one rfl (One.makeM hA tabOk encI 0 rfl rfl rfl rfl rfl rfl rfl ?_ ?_ ?_) ?_ | refine QS.one rfl (One.build0 tabOk rfl rfl) ?_ | refine QS.one rfl (One.fieldRat tabOk rfl rfl rfl rfl (by decide) rfl rfl) ?_) <;> (first | refine QS.pass ?_ | (((try simp (disch := omega) only [zz hA, zb, reduceCtorEq, Bool.false_eq_true, Int.reduceLT, Int.reduceLE, Int.reduceNeg]) <;> (try simp only [zw])) <;> omega))))
      | refine Thn.exit ?_
      | refine Blk.here ?_
      | refine Blk.other (by decide) ?_
      | refine ⟨.inl rfl, _, RetOk.ev tabOk (by conv => lhs; cbv), ?_⟩
      | fail)
    refine AOL.one (One.makeM hA tabOk encBo false rfl rfl rfl rfl rfl rfl rfl (by (((try simp (disch := omega) only [zz hA, zb, reduceCtorEq, Bool.false_eq_true, Int.reduceLT, Int.reduceLE, Int.reduceNeg]) <;> (try simp only [zw])) <;> omega)) (by (((try simp (disch := omega) only [zz hA, zb, reduceCtorEq, Bool.false_eq_true, Int.reduceLT, Int.reduceLE, Int.reduceNeg]) <;> (try simp only [zw])) <;> omega)) (by (((try simp (disch := omega) only [zz hA, zb, reduceCtorEq, Bool.false_eq_true, Int.reduceLT, Int.reduceLE, Int.reduceNeg]) <;> (try simp only [zw])) <;> omega))) ?_
    repeat' (first
      | (refine AWp.pass ?_; first
          | refine AWp.seq ?_
          | refine AWp.block ?_
          | refine AWp.skip ?_
          | refine AWp.reg (by conv => lhs; cbv) ?_
          | refine AWp.cond_t rfl ?_
          | refine AWp.cond_f rfl ?_
          | (refine AWp.cond rfl ?_ ?_ <;> intro hc <;> (try rw [hc]) <;> ((try simp (disch := omega) only [zz hA, zb, reduceCtorEq, Bool.false_eq_true, Int.reduceLT, Int.reduceLE, Int.reduceNeg] at hc) <;> (try simp only [zw] at hc)) <;> (try (exfalso; omega)))
          | refine AWp.exit ?_
          | refine AWp.ret ⟨.inr rfl, _, RetOk.ev tabOk (by conv => lhs; cbv), ?_⟩
          | refine AWp.drawK 0 rfl (by decide +kernel) (by conv => lhs; cbv) (by conv => lhs; cbv) ?_
          | refine AWp.drawK 1 rfl (by decide +kernel) (by conv => lhs; cbv) (by conv => lhs; cbv) ?_
          | refine AWp.drawK 2 rfl (by decide +kernel) (by conv => lhs; cbv) (by conv => lhs; cbv) ?_
          | refine AWp.drawK 3 rfl (by decide +kernel) (by conv => lhs; cbv) (by conv => lhs; cbv) ?_
          | refine AWp.drawK 4 rfl (by decide +kernel) (by conv => lhs; cbv) (by conv => lhs; cbv) ?_
          | refine AWp.drawK 5 rfl (by decide +kernel) (by conv => lhs; cbv) (by conv => lhs; cbv) ?_
          | refine AWp.drawK 6 rfl (by decide +kernel) (by conv => lhs; cbv) (by conv => lhs; cbv) ?_
          | refine AWp.drawK 8 rfl (by decide +kernel) (by conv => lhs; cbv) (by conv => lhs; cbv) ?_)
      | (refine AOL.pass ?_; first
          | refine AOL.nil ?_
          | refine AOL.go hA tabOk (by conv => lhs; cbv) ?_
          | refine AOL.goG hA tabOk (by conv => lhs; cbv) ?_
          | refine AOL.go1 hA tabOk (by conv => lhs; cbv) ?_
          | (refine AOL.gs (by conv => lhs; cbv) ?_ ?_ <;> intro hc <;> (fail_if_success (with_reducible have h0 : true = true := hc)) <;> (fail_if_success (with_reducible have h0 : true = false := hc)) <;> (fail_if_success (with_reducible have h0 : false = true := hc)) <;> (fail_if_success (with_reducible have h0 : false = false := hc)) <;> rw [hc] <;> ((try simp (disch := omega) only [zz hA, zb, reduceCtorEq, Bool.false_eq_true, Int.reduceLT, Int.reduceLE, Int.reduceNeg] at hc) <;> (try simp only [zw] at hc)) <;> (try (exfalso; omega)))
          | ((first | refine AOL.one (One.elemM hA tabOk rfl rfl rfl rfl ?_ ?_) ?_ | refine AOL.one (One.clipM tabOk rfl rfl rfl rfl rfl ?_ ?_) ?_ | refine AOL.one (One.cut_hM hA tabOk rfl rfl rfl rfl ?_ ?_) ?_ | refine AOL.one (One.cut_lM hA tabOk rfl rfl rfl rfl ?_ ?_) ?_ | refine AOL.one (One.cut_lhM hA tabOk rfl rfl rfl rfl rfl ?_ ?_ ?_) ?_ | refine AOL.one (One.quoM hA rfl rfl rfl ?_) ?_ | refine AOL.one (One.remM hA rfl rfl rfl ?_) ?_ | refine AOL.one (One.bitsM hA rfl rfl rfl rfl) ?_ | refine AOL.one (One.shrM hA rfl rfl rfl ?_) ?_ | refine AOL.one (One.byteM hA tabOk rfl rfl rfl rfl rfl ?_ ?_) ?_ | refine AOL.one (One.concatM hA rfl rfl rfl ?_) ?_ | refine AOL.one (One.eqBoolM hA tabOk rfl rfl rfl rfl rfl) ?_ | refine AOL.one (One.neBoolM hA tabOk rfl rfl rfl rfl rfl) ?_ | refine AOL.one (One.lenOwnM hA tabOk rfl rfl rfl rfl) ?_ | refine AOL.one (One.elemOwnM hA tabOk rfl rfl rfl rfl rfl ?_ ?_) ?_ | refine AOL.one (One.loadRatM hA tabOk rfl rfl rfl rfl rfl rfl ?_) ?_ | refine AOL.one (One.appendM hA tabOk _ rfl rfl rfl rfl rfl rfl ?_ ?_) ?_ | refine AOL.one (One.appendMM hA tabOk rfl rfl rfl rfl rfl ?_ ?_) ?_ | refine AOL.one (One.appendOwnM hA tabOk _ rfl rfl rfl rfl rfl rfl rfl ?_ ?_) ?_ | refine AOL.one (One.appendOwnMM hA tabOk rfl rfl rfl rfl rfl rfl ?_ ?_) ?_ | refine AOL.one (One.appendOwn0 hA tabOk rfl rfl rfl rfl rfl rfl ?_ ?_) ?_ | refine AOL.one (One.storeRatM hA tabOk _ rfl rfl rfl rfl rfl rfl rfl rfl (fun _ => rfl) ?_) ?_ | refine AOL.one (One.makeM hA tabOk encI 0 rfl rfl rfl rfl rfl rfl rfl ?_ ?_ ?_) ?_ | refine AOL.one (One.build0 tabOk rfl rfl) ?_ | refine AOL.one (One.fieldRat tabOk rfl rfl rfl rfl (by decide) rfl rfl) ?_) <;> (first | refine AOL.pass ?_ | (((try simp (disch := omega) only [zz hA, zb, reduceCtorEq, Bool.false_eq_true, Int.reduceLT, Int.reduceLE, Int.reduceNeg]) <;> (try simp only [zw])) <;> omega))))
      | (refine QS.pass ?_; first
          | refine QS.nil ?_
          | refine QS.go hA tabOk (by conv => lhs; cbv) ?_
          | refine QS.goG hA tabOk (by conv => lhs; cbv) ?_
          | refine QS.go1 hA tabOk (by conv => lhs; cbv) ?_
          | (refine QS.gs (by conv => lhs; cbv) ?_ ?_ <;> intro hc <;> (fail_if_success (with_reducible have h0 : true = true := hc)) <;> (fail_if_success (with_reducible have h0 : true = false := hc)) <;> (fail_if_success (with_reducible have h0 : false = true := hc)) <;> (fail_if_success (with_reducible have h0 : false = false := hc)) <;> rw [hc] <;> ((try simp (disch := omega) only [zz hA, zb, reduceCtorEq, Bool.false_eq_true, Int.reduceLT, Int.reduceLE, Int.reduceNeg] at hc) <;> (try simp only [zw] at hc)) <;> (try (exfalso; omega)))
          | ((first | refine QS.one rfl (One.elemM hA tabOk rfl rfl rfl rfl ?_ ?_) ?_ | refine QS.one rfl (One.clipM tabOk rfl rfl rfl rfl rfl ?_ ?_) ?_ | refine QS.one rfl (One.cut_hM hA tabOk rfl rfl rfl rfl ?_ ?_) ?_ | refine QS.one rfl (One.cut_lM hA tabOk rfl rfl rfl rfl ?_ ?_) ?_ | refine QS.one rfl (One.cut_lhM hA tabOk rfl rfl rfl rfl rfl ?_ ?_ ?_) ?_ | refine QS.one rfl (One.quoM hA rfl rfl rfl ?_) ?_ | refine QS.one rfl (One.remM hA rfl rfl rfl ?_) ?_ | refine QS.one rfl (One.bitsM hA rfl rfl rfl rfl) ?_ | refine QS.one rfl (One.shrM hA rfl rfl rfl ?_) ?_ | refine QS.one rfl (One.byteM hA tabOk rfl rfl rfl rfl rfl ?_ ?_) ?_ | refine QS.one rfl (One.concatM hA rfl rfl rfl ?_) ?_ | refine QS.one rfl (One.eqBoolM hA tabOk rfl rfl rfl rfl rfl) ?_ | refine QS.one rfl (One.neBoolM hA tabOk rfl rfl rfl rfl rfl) ?_ | refine QS.one rfl (One.lenOwnM hA tabOk rfl rfl rfl rfl) ?_ | refine QS.one rfl (One.elemOwnM hA tabOk rfl rfl rfl rfl rfl ?_ ?_) ?_ | refine QS.one rfl (One.loadRatM hA tabOk rfl rfl rfl rfl rfl rfl ?_) ?_ | refine QS.one rfl (One.appendM hA tabOk _ rfl rfl rfl rfl rfl rfl ?_ ?_) ?_ | refine QS.one rfl (One.appendMM hA tabOk rfl rfl rfl rfl rfl ?_ ?_) ?_ | refine QS.one rfl (One.appendOwnM hA tabOk _ rfl rfl rfl rfl rfl rfl rfl ?_ ?_) ?_ | refine QS.one rfl (One.appendOwnMM hA tabOk rfl rfl rfl rfl rfl rfl ?_ ?_) ?_ | refine QS.one rfl (One.appendOwn0 hA tabOk rfl rfl rfl rfl rfl rfl ?_ ?_) ?_ | refine QS.one rfl (One.storeRatM hA tabOk _ rfl rfl rfl rfl rfl rfl rfl rfl (fun _ => rfl) ?_) ?_ | refine QS.one rfl (One.makeM hA tabOk encI 0 rfl rfl rfl rfl rfl rfl rfl ?_ ?_ ?_) ?_ | refine QS.one rfl (One.build0 tabOk rfl rfl) ?_ | refine QS.one rfl (One.fieldRat tabOk rfl rfl rfl rfl (by decide) rfl rfl) ?_) <;> (first | refine QS.pass ?_ | (((try simp (disch := omega) only [zz hA, zb, reduceCtorEq, Bool.false_eq_true, Int.reduceLT, Int.reduceLE, Int.reduceNeg]) <;> (try simp only [zw])) <;> omega))))
      | refine Thn.exit ?_
      | refine Blk.here ?_
      | refine Blk.other (by decide) ?_
      | refine ⟨.inl rfl, _, RetOk.ev tabOk (by conv => lhs; cbv), ?_⟩
      | fail)
    refine AWp.loopU (fun k : Nat => [(7, .ic (.lit (.int .i64 (hid A (cN k))))), (6, .ic (.lit (.int .i64 (hid A (cN (cntM (layM L) k))))))]) (fun k => [.row true 0 4 1 (hid A (List.map encBo (seenM (layM L) L.length k)))]) (fun k => (layM L).length - k) (fun k => k ≤ (layM L).length) 0 (by conv => lhs; cbv) (Nat.zero_le _) (.int rfl (by simp [hA, real, hid, cN]) (.int rfl (by simp [hA, real, hid, cN, cntM]) .nil)) ?_ ?_
    · show [AObj.row true 0 _ 1 _] = [AObj.row true 0 _ 1 _]
      simp only [seenM_init]
      ((try simp (disch := omega) only [zz hA, zb, reduceCtorEq, Bool.false_eq_true, Int.reduceLT, Int.reduceLE, Int.reduceNeg]) <;> (try simp only [zw]))
      rw [show ((L.length : Int) + 1).toNat = L.length + 1 by omega]
    intro k hk
    have hv : k < (layM L).length → (layM L).getD k default ≤ L.length ∧ 0 ≤ (layM L).getD k default := fun h => by
      rw [List.getD_eq_getElem?_getD, List.getElem?_eq_getElem h]
      exact layM_vals L _ (List.getElem_mem _)
    have hcb : cntM (layM L) k ≤ (layM L).length := Nat.le_trans List.countP_le_length (by rw [List.length_take]; omega)
    have hsl : (seenM (layM L) L.length k).length = L.length + 1 := by simp [seenM]
    have hnew : k < (layM L).length → 0 < (layM L).getD k default → (seenM (layM L) L.length k).getD ((layM L).getD k default).toNat default = false := fun h h0 => by
      have hvk := hv h
      rw [seenM_get _ _ _ _ (by omega), decide_eq_false_iff_not]
      rintro ⟨_, h4⟩
      rw [show ((((layM L).getD k default).toNat : Nat) : Int) = (layM L).getD k default by omega] at h4
      exact laid_new L k h (by omega) h4
    repeat' (first
      | (refine AWp.pass ?_; first
          | refine AWp.seq ?_
          | refine AWp.block ?_
          | refine AWp.skip ?_
          | refine AWp.reg (by conv => lhs; cbv) ?_
          | refine AWp.cond_t rfl ?_
          | refine AWp.cond_f rfl ?_
          | (refine AWp.cond rfl ?_ ?_ <;> intro hc <;> (try rw [hc]) <;> ((try simp (disch := omega) only [zz hA, zb, reduceCtorEq, Bool.false_eq_true, Int.reduceLT, Int.reduceLE, Int.reduceNeg] at hc) <;> (try simp only [zw] at hc)) <;> (try (exfalso; omega)))
          | refine AWp.exit ?_
          | refine AWp.ret ⟨.inr rfl, _, RetOk.ev tabOk (by conv => lhs; cbv), ?_⟩
          | refine AWp.drawK 0 rfl (by decide +kernel) (by conv => lhs; cbv) (by conv => lhs; cbv) ?_
          | refine AWp.drawK 1 rfl (by decide +kernel) (by conv => lhs; cbv) (by conv => lhs; cbv) ?_
          | refine AWp.drawK 2 rfl (by decide +kernel) (by conv => lhs; cbv) (by conv => lhs; cbv) ?_
          | refine AWp.drawK 3 rfl (by decide +kernel) (by conv => lhs; cbv) (by conv => lhs; cbv) ?_
          | refine AWp.drawK 4 rfl (by decide +kernel) (by conv => lhs; cbv) (by conv => lhs; cbv) ?_
          | refine AWp.drawK 5 rfl (by decide +kernel) (by conv => lhs; cbv) (by conv => lhs; cbv) ?_
          | refine AWp.drawK 6 rfl (by decide +kernel) (by conv => lhs; cbv) (by conv => lhs; cbv) ?_
          | refine AWp.drawK 8 rfl (by decide +kernel) (by conv => lhs; cbv) (by conv => lhs; cbv) ?_)
      | (refine AOL.pass ?_; first
          | refine AOL.nil ?_
          | refine AOL.go hA tabOk (by conv => lhs; cbv) ?_
          | refine AOL.goG hA tabOk (by conv => lhs; cbv) ?_
          | refine AOL.go1 hA tabOk (by conv => lhs; cbv) ?_
          | (refine AOL.gs (by conv => lhs; cbv) ?_ ?_ <;> intro hc <;> (fail_if_success (with_reducible have h0 : true = true := hc)) <;> (fail_if_success (with_reducible have h0 : true = false := hc)) <;> (fail_if_success (with_reducible have h0 : false = true := hc)) <;> (fail_if_success (with_reducible have h0 : false = false := hc)) <;> rw [hc] <;> ((try simp (disch := omega) only [zz hA, zb, reduceCtorEq, Bool.false_eq_true, Int.reduceLT, Int.reduceLE, Int.reduceNeg] at hc) <;> (try simp only [zw] at hc)) <;> (try (exfalso; omega)))
          | ((first | refine AOL.one (One.elemM hA tabOk rfl rfl rfl rfl ?_ ?_) ?_ | refine AOL.one (One.clipM tabOk rfl rfl rfl rfl rfl ?_ ?_) ?_ | refine AOL.one (One.cut_hM hA tabOk rfl rfl rfl rfl ?_ ?_) ?_ | refine AOL.one (One.cut_lM hA tabOk rfl rfl rfl rfl ?_ ?_) ?_ | refine AOL.one (One.cut_lhM hA tabOk rfl rfl rfl rfl rfl ?_ ?_ ?_) ?_ | refine AOL.one (One.quoM hA rfl rfl rfl ?_) ?_ | refine AOL.one (One.remM hA rfl rfl rfl ?_) ?_ | refine AOL.one (One.bitsM hA rfl rfl rfl rfl) ?_ | refine AOL.one (One.shrM hA rfl rfl rfl ?_) ?_ | refine AOL.one (One.byteM hA tabOk rfl rfl rfl rfl rfl ?_ ?_) ?_ | refine AOL.one (One.concatM hA rfl rfl rfl ?_) ?_ | refine AOL.one (One.eqBoolM hA tabOk rfl rfl rfl rfl rfl) ?_ | refine AOL.one (One.neBoolM hA tabOk rfl rfl rfl rfl rfl) ?_ | refine AOL.one (One.lenOwnM hA tabOk rfl rfl rfl rfl) ?_ | refine AOL.one (One.elemOwnM hA tabOk rfl rfl rfl rfl rfl ?_ ?_) ?_ | refine AOL.one (One.loadRatM hA tabOk rfl rfl rfl rfl rfl rfl ?_) ?_ | refine AOL.one (One.appendM hA tabOk _ rfl rfl rfl rfl rfl rfl ?_ ?_) ?_ | refine AOL.one (One.appendMM hA tabOk rfl rfl rfl rfl rfl ?_ ?_) ?_ | refine AOL.one (One.appendOwnM hA tabOk _ rfl rfl rfl rfl rfl rfl rfl ?_ ?_) ?_ | refine AOL.one (One.appendOwnMM hA tabOk rfl rfl rfl rfl rfl rfl ?_ ?_) ?_ | refine AOL.one (One.appendOwn0 hA tabOk rfl rfl rfl rfl rfl rfl ?_ ?_) ?_ | refine AOL.one (One.storeRatM hA tabOk _ rfl rfl rfl rfl rfl rfl rfl rfl (fun _ => rfl) ?_) ?_ | refine AOL.one (One.makeM hA tabOk encI 0 rfl rfl rfl rfl rfl rfl rfl ?_ ?_ ?_) ?_ | refine AOL.one (One.build0 tabOk rfl rfl) ?_ | refine AOL.one (One.fieldRat tabOk rfl rfl rfl rfl (by decide) rfl rfl) ?_) <;> (first | refine AOL.pass ?_ | (((try simp (disch := omega) only [zz hA, zb, reduceCtorEq, Bool.false_eq_true, Int.reduceLT, Int.reduceLE, Int.reduceNeg]) <;> (try simp only [zw])) <;> omega))))
      | (refine QS.pass ?_; first
          | refine QS.nil ?_
          | refine QS.go hA tabOk (by conv => lhs; cbv) ?_
          | refine QS.goG hA tabOk (by conv => lhs; cbv) ?_
          | refine QS.go1 hA tabOk (by conv => lhs; cbv) ?_
          | (refine QS.gs (by conv => lhs; cbv) ?_ ?_ <;> intro hc <;> (fail_if_success (with_reducible have h0 : true = true := hc)) <;> (fail_if_success (with_reducible have h0 : true = false := hc)) <;> (fail_if_success (with_reducible have h0 : false = true := hc)) <;> (fail_if_success (with_reducible have h0 : false = false := hc)) <;> rw [hc] <;> ((try simp (disch := omega) only [zz hA, zb, reduceCtorEq, Bool.false_eq_true, Int.reduceLT, Int.reduceLE, Int.reduceNeg] at hc) <;> (try simp only [zw] at hc)) <;> (try (exfalso; omega)))
          | ((first | refine QS.one rfl (One.elemM hA tabOk rfl rfl rfl rfl ?_ ?_) ?_ | refine QS.one rfl (One.clipM tabOk rfl rfl rfl rfl rfl ?_ ?_) ?_ | refine QS.one rfl (One.cut_hM hA tabOk rfl rfl rfl rfl ?_ ?_) ?_ | refine QS.one rfl (One.cut_lM hA tabOk rfl rfl rfl rfl ?_ ?_) ?_ | refine QS.one rfl (One.cut_lhM hA tabOk rfl rfl rfl rfl rfl ?_ ?_ ?_) ?_ | refine QS.one rfl (One.quoM hA rfl rfl rfl ?_) ?_ | refine QS.one rfl (One.remM hA rfl rfl rfl ?_) ?_ | refine QS.one rfl (One.bitsM hA rfl rfl rfl rfl) ?_ | refine QS.one rfl (One.shrM hA rfl rfl rfl ?_) ?_ | refine QS.one rfl (One.byteM hA tabOk rfl rfl rfl rfl rfl ?_ ?_) ?_ | refine QS.one rfl (One.concatM hA rfl rfl rfl ?_) ?_ | refine QS.one rfl (One.eqBoolM hA tabOk rfl rfl rfl rfl rfl) ?_ | refine QS.one rfl (One.neBoolM hA tabOk rfl rfl rfl rfl rfl) ?_ | refine QS.one rfl (One.lenOwnM hA tabOk rfl rfl rfl rfl) ?_ | refine QS.one rfl (One.elemOwnM hA tabOk rfl rfl rfl rfl rfl ?_ ?_) ?_ | refine QS.one rfl (One.loadRatM hA tabOk rfl rfl rfl rfl rfl rfl ?_) ?_ | refine QS.one rfl (One.appendM hA tabOk _ rfl rfl rfl rfl rfl rfl ?_ ?_) ?_ | refine QS.one rfl (One.appendMM hA tabOk rfl rfl rfl rfl rfl ?_ ?_) ?_ | refine QS.one rfl (One.appendOwnM hA tabOk _ rfl rfl rfl rfl rfl rfl rfl ?_ ?_) ?_ | refine QS.one rfl (One.appendOwnMM hA tabOk rfl rfl rfl rfl rfl rfl ?_ ?_) ?_ | refine QS.one rfl (One.appendOwn0 hA tabOk rfl rfl rfl rfl rfl rfl ?_ ?_) ?_ | refine QS.one rfl (One.storeRatM hA tabOk _ rfl rfl rfl rfl rfl rfl rfl rfl (fun _ => rfl) ?_) ?_ | refine QS.one rfl (One.makeM hA tabOk encI 0 rfl rfl rfl rfl rfl rfl rfl ?_ ?_ ?_) ?_ | refine QS.one rfl (One.build0 tabOk rfl rfl) ?_ | refine QS.one rfl (One.fieldRat tabOk rfl rfl rfl rfl (by decide) rfl rfl) ?_) <;> (first | refine QS.pass ?_ | (((try simp (disch := omega) only [zz hA, zb, reduceCtorEq, Bool.false_eq_true, Int.reduceLT, Int.reduceLE, Int.reduceNeg]) <;> (try simp only [zw])) <;> omega))))
      | refine Thn.exit ?_
      | refine Blk.here ?_
      | refine Blk.other (by decide) ?_
      | refine ⟨.inl rfl, _, RetOk.ev tabOk (by conv => lhs; cbv), ?_⟩
      | fail)
    · rw [hnew (by omega) (by assumption)] at hc
      cases hc
    · have hvk := hv (by omega)
      have hst := seenM_set (layM L) L.length k ((layM L).getD k default).toNat (by omega) (by omega) (by omega) (by omega)
      have hct := cntM_succ (layM L) k (by omega)
      rw [if_neg (by omega)] at hct
      refine ⟨k + 1, ?_, ?_, rfl, ?_, ?_, (by repeat' (first | exact subE.nil | refine subE.cons rfl ?_))⟩ <;> (try omega)
      · rw [hst]
        ((try simp (disch := omega) only [zz hA, zb, reduceCtorEq, Bool.false_eq_true, Int.reduceLT, Int.reduceLE, Int.reduceNeg]) <;> (try simp only [zw]))
      · (repeat' (first | exact subE.nil | refine subE.cons rfl ?_ | refine subE.int rfl ?_ ?_ | refine subE.bool rfl ?_ ?_ | refine subE.str rfl ?_ ?_ | refine subE.sl rfl ?_ ?_))
        · (((try simp (disch := omega) only [zz hA, zb, reduceCtorEq, Bool.false_eq_true, Int.reduceLT, Int.reduceLE, Int.reduceNeg]) <;> (try simp only [zw])) <;> omega)
        · ((try simp (disch := omega) only [zz hA, zb, reduceCtorEq, Bool.false_eq_true, Int.reduceLT, Int.reduceLE, Int.reduceNeg]) <;> (try simp only [zw]))
          omega
    · have hvk := hv (by omega)
      have hst := seenM_zero (layM L) L.length k (by omega) (by omega)
      have hct := cntM_succ (layM L) k (by omega)
      rw [if_pos (by omega)] at hct
      refine ⟨k + 1, ?_, ?_, rfl, ?_, ?_, (by repeat' (first | exact subE.nil | refine subE.cons rfl ?_))⟩ <;> (try omega)
      · rw [hst]
      · (repeat' (first | exact subE.nil | refine subE.cons rfl ?_ | refine subE.int rfl ?_ ?_ | refine subE.bool rfl ?_ ?_ | refine subE.str rfl ?_ ?_ | refine subE.sl rfl ?_ ?_))
        · (((try simp (disch := omega) only [zz hA, zb, reduceCtorEq, Bool.false_eq_true, Int.reduceLT, Int.reduceLE, Int.reduceNeg]) <;> (try simp only [zw])) <;> omega)
        · ((try simp (disch := omega) only [zz hA, zb, reduceCtorEq, Bool.false_eq_true, Int.reduceLT, Int.reduceLE, Int.reduceNeg]) <;> (try simp only [zw]))
          omega
    · have hall := cntM_all (layM L)
      have hfree := (layM_laid L).free
      refine rPV_then (by conv => lhs; cbv) ?_
      obtain rfl : k = (layM L).length := by omega
      have : cntM (layM L) (layM L).length = L.length := by omega
      simp [hA, real, hid, cN, this]
  · refine PureCalls.of Try.func7 rfl (by kernel_rfl) rfl ?_
    repeat' (first
      | (refine AWp.pass ?_; first
          | refine AWp.seq ?_
          | refine AWp.block ?_
          | refine AWp.skip ?_
          | refine AWp.reg (by conv => lhs; cbv) ?_
          | refine AWp.cond_t rfl ?_
          | refine AWp.cond_f rfl ?_
          | (refine AWp.cond rfl ?_ ?_ <;> intro hc <;> (try rw [hc]) <;> ((try simp (disch := omega) only [zz hA, zb, reduceCtorEq, Bool.false_eq_true, Int.reduceLT, Int.reduceLE, Int.reduceNeg] at hc) <;> (try simp only [zw] at hc)) <;> (try (exfalso; omega)))
          | refine AWp.exit ?_
          | refine AWp.ret ⟨.inr rfl, _, RetOk.ev tabOk (by conv => lhs; cbv), ?_⟩
          | refine AWp.drawK 0 rfl (by decide +kernel) (by conv => lhs; cbv) (by conv => lhs; cbv) ?_
          | refine AWp.drawK 1 rfl (by decide +kernel) (by conv => lhs; cbv) (by conv => lhs; cbv) ?_
          | refine AWp.drawK 2 rfl (by decide +kernel) (by conv => lhs; cbv) (by conv => lhs; cbv) ?_
          | refine AWp.drawK 3 rfl (by decide +kernel) (by conv => lhs; cbv) (by conv => lhs; cbv) ?_
          | refine AWp.drawK 4 rfl (by decide +kernel) (by conv => lhs; cbv) (by conv => lhs; cbv) ?_
          | refine AWp.drawK 5 rfl (by decide +kernel) (by conv => lhs; cbv) (by conv => lhs; cbv) ?_
          | refine AWp.drawK 6 rfl (by decide +kernel) (by conv => lhs; cbv) (by conv => lhs; cbv) ?_
          | refine AWp.drawK 8 rfl (by decide +kernel) (by conv => lhs; cbv) (by conv => lhs; cbv) ?_)
      | (refine AOL.pass ?_; first
          | refine AOL.nil ?_
          | refine AOL.go hA tabOk (by conv => lhs; cbv) ?_
          | refine AOL.goG hA tabOk (by conv => lhs; cbv) ?_
          | refine AOL.go1 hA tabOk (by conv => lhs; cbv) ?_
          | (refine AOL.gs (by conv => lhs; cbv) ?_ ?_ <;> intro hc <;> (fail_if_success (with_reducible have h0 : true = true := hc)) <;> (fail_if_success (with_reducible have h0 : true = false := hc)) <;> (fail_if_success (with_reducible have h0 : false = true := hc)) <;> (fail_if_success (with_reducible have h0 : false = false := hc)) <;> rw [hc] <;> ((try simp (disch := omega) only [zz hA, zb, reduceCtorEq, Bool.false_eq_true, Int.reduceLT, Int.reduceLE, Int.reduceNeg] at hc) <;> (try simp only [zw] at hc)) <;> (try (exfalso; omega)))
          | refine AOL.one (One.call false rfl rfl rfl (shown_c hA) rfl) ?_
          | refine AOL.one (One.call true rfl rfl rfl (shown_c hA) rfl) ?_
          | refine AOL.one (One.call false rfl rfl rfl (hfew) rfl) ?_
          | refine AOL.one (One.call true rfl rfl rfl (hfew) rfl) ?_
          | ((first | refine AOL.one (One.elemM hA tabOk rfl rfl rfl rfl ?_ ?_) ?_ | refine AOL.one (One.clipM tabOk rfl rfl rfl rfl rfl ?_ ?_) ?_ | refine AOL.one (One.cut_hM hA tabOk rfl rfl rfl rfl ?_ ?_) ?_ | refine AOL.one (One.cut_lM hA tabOk rfl rfl rfl rfl ?_ ?_) ?_ | refine AOL.one (One.cut_lhM hA tabOk rfl rfl rfl rfl rfl ?_ ?_ ?_) ?_ | refine AOL.one (One.quoM hA rfl rfl rfl ?_) ?_ | refine AOL.one (One.remM hA rfl rfl rfl ?_) ?_ | refine AOL.one (One.bitsM hA rfl rfl rfl rfl) ?_ | refine AOL.one (One.shrM hA rfl rfl rfl ?_) ?_ | refine AOL.one (One.byteM hA tabOk rfl rfl rfl rfl rfl ?_ ?_) ?_ | refine AOL.one (One.concatM hA rfl rfl rfl ?_) ?_ | refine AOL.one (One.eqBoolM hA tabOk rfl rfl rfl rfl rfl) ?_ | refine AOL.one (One.neBoolM hA tabOk rfl rfl rfl rfl rfl) ?_ | refine AOL.one (One.lenOwnM hA tabOk rfl rfl rfl rfl) ?_ | refine AOL.one (One.elemOwnM hA tabOk rfl rfl rfl rfl rfl ?_ ?_) ?_ | refine AOL.one (One.loadRatM hA tabOk rfl rfl rfl rfl rfl rfl ?_) ?_ | refine AOL.one (One.appendM hA tabOk _ rfl rfl rfl rfl rfl rfl ?_ ?_) ?_ | refine AOL.one (One.appendMM hA tabOk rfl rfl rfl rfl rfl ?_ ?_) ?_ | refine AOL.one (One.appendOwnM hA tabOk _ rfl rfl rfl rfl rfl rfl rfl ?_ ?_) ?_ | refine AOL.one (One.appendOwnMM hA tabOk rfl rfl rfl rfl rfl rfl ?_ ?_) ?_ | refine AOL.one (One.appendOwn0 hA tabOk rfl rfl rfl rfl rfl rfl ?_ ?_) ?_ | refine AOL.one (One.storeRatM hA tabOk _ rfl rfl rfl rfl rfl rfl rfl rfl (fun _ => rfl) ?_) ?_ | refine AOL.one (One.makeM hA tabOk encI 0 rfl rfl rfl rfl rfl rfl rfl ?_ ?_ ?_) ?_ | refine AOL.one (One.build0 tabOk rfl rfl) ?_ | refine AOL.one (One.fieldRat tabOk rfl rfl rfl rfl (by decide) rfl rfl) ?_) <;> (first | refine AOL.pass ?_ | (((try simp (disch := omega) only [zz hA, zb, reduceCtorEq, Bool.false_eq_true, Int.reduceLT, Int.reduceLE, Int.reduceNeg]) <;> (try simp only [zw])) <;> omega))))
      | (refine QS.pass ?_; first
          | refine QS.nil ?_
          | refine QS.go hA tabOk (by conv => lhs; cbv) ?_
          | refine QS.goG hA tabOk (by conv => lhs; cbv) ?_
          | refine QS.go1 hA tabOk (by conv => lhs; cbv) ?_
          | (refine QS.gs (by conv => lhs; cbv) ?_ ?_ <;> intro hc <;> (fail_if_success (with_reducible have h0 : true = true := hc)) <;> (fail_if_success (with_reducible have h0 : true = false := hc)) <;> (fail_if_success (with_reducible have h0 : false = true := hc)) <;> (fail_if_success (with_reducible have h0 : false = false := hc)) <;> rw [hc] <;> ((try simp (disch := omega) only [zz hA, zb, reduceCtorEq, Bool.false_eq_true, Int.reduceLT, Int.reduceLE, Int.reduceNeg] at hc) <;> (try simp only [zw] at hc)) <;> (try (exfalso; omega)))
          | refine QS.one rfl (One.call false rfl rfl rfl (shown_c hA) rfl) ?_
          | refine QS.one rfl (One.call false rfl rfl rfl (hfew) rfl) ?_
          | ((first | refine QS.one rfl (One.elemM hA tabOk rfl rfl rfl rfl ?_ ?_) ?_ | refine QS.one rfl (One.clipM tabOk rfl rfl rfl rfl rfl ?_ ?_) ?_ | refine QS.one rfl (One.cut_hM hA tabOk rfl rfl rfl rfl ?_ ?_) ?_ | refine QS.one rfl (One.cut_lM hA tabOk rfl rfl rfl rfl ?_ ?_) ?_ | refine QS.one rfl (One.cut_lhM hA tabOk rfl rfl rfl rfl rfl ?_ ?_ ?_) ?_ | refine QS.one rfl (One.quoM hA rfl rfl rfl ?_) ?_ | refine QS.one rfl (One.remM hA rfl rfl rfl ?_) ?_ | refine QS.one rfl (One.bitsM hA rfl rfl rfl rfl) ?_ | refine QS.one rfl (One.shrM hA rfl rfl rfl ?_) ?_ | refine QS.one rfl (One.byteM hA tabOk rfl rfl rfl rfl rfl ?_ ?_) ?_ | refine QS.one rfl (One.concatM hA rfl rfl rfl ?_) ?_ | refine QS.one rfl (One.eqBoolM hA tabOk rfl rfl rfl rfl rfl) ?_ | refine QS.one rfl (One.neBoolM hA tabOk rfl rfl rfl rfl rfl) ?_ | refine QS.one rfl (One.lenOwnM hA tabOk rfl rfl rfl rfl) ?_ | refine QS.one rfl (One.elemOwnM hA tabOk rfl rfl rfl rfl rfl ?_ ?_) ?_ | refine QS.one rfl (One.loadRatM hA tabOk rfl rfl rfl rfl rfl rfl ?_) ?_ | refine QS.one rfl (One.appendM hA tabOk _ rfl rfl rfl rfl rfl rfl ?_ ?_) ?_ | refine QS.one rfl (One.appendMM hA tabOk rfl rfl rfl rfl rfl ?_ ?_) ?_ | refine QS.one rfl (One.appendOwnM hA tabOk _ rfl rfl rfl rfl rfl rfl rfl ?_ ?_) ?_ | refine QS.one rfl (One.appendOwnMM hA tabOk rfl rfl rfl rfl rfl rfl ?_ ?_) ?_ | refine QS.one rfl (One.appendOwn0 hA tabOk rfl rfl rfl rfl rfl rfl ?_ ?_) ?_ | refine QS.one rfl (One.storeRatM hA tabOk _ rfl rfl rfl rfl rfl rfl rfl rfl (fun _ => rfl) ?_) ?_ | refine QS.one rfl (One.makeM hA tabOk encI 0 rfl rfl rfl rfl rfl rfl rfl ?_ ?_ ?_) ?_ | refine QS.one rfl (One.build0 tabOk rfl rfl) ?_ | refine QS.one rfl (One.fieldRat tabOk rfl rfl rfl rfl (by decide) rfl rfl) ?_) <;> (first | refine QS.pass ?_ | (((try simp (disch := omega) only [zz hA, zb, reduceCtorEq, Bool.false_eq_true, Int.reduceLT, Int.reduceLE, Int.reduceNeg]) <;> (try simp only [zw])) <;> omega))))
      | refine Thn.exit ?_
      | refine Blk.here ?_
      | refine Blk.other (by decide) ?_
      | refine ⟨.inl rfl, _, RetOk.ev tabOk (by conv => lhs; cbv), ?_⟩
      | fail)
    all_goals first
      | (refine rPV_then (by conv => lhs; cbv) ?_
         rfl)
      | exact absurd ⟨by omega, by assumption⟩ hg
end Go.Proofs.Ytpphdaphbkepfaa.Aw
