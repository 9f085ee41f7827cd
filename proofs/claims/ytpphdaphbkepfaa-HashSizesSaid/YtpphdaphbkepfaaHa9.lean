/- Statements of package hash: the example; Puts, Keeps. -/
import Derived.Test.YtpphdaphbkepfaaHa8
set_option linter.unusedVariables false
set_option linter.unusedSimpArgs false
namespace Go.Proofs.Ytpphdaphbkepfaa.Aw
open Go Go.RowKit
set_option maxRecDepth 10000
attribute [local irreducible] AWp AOL QS One
variable {A : Ar} (hA : A = real)
include hA
set_option maxHeartbeats 4000000 in
theorem shown_c : PureCalls Try.prog 14 [] (BP true) := by
  have e5 : intsP A [5] = .c (.sl 1 false [[.lit (.int .i64 5)]]) := by simp [intsP, slP, hid_eq hA, encI]
  have e6 : intsP A [6] = .c (.sl 1 false [[.lit (.int .i64 6)]]) := by simp [intsP, slP, hid_eq hA, encI]
  have e0 : intsP A [] = .c (.sl 1 false []) := by simp [intsP, slP, hid_eq hA]
  have hp := put_c hA [] [5] (by simp) (by simp) (by simp) (by simp)
  have hp2 := hp.weaken (pvs := [.agg [.sl 0 false [], .sl 1 false (hid A (List.map encI (List.replicate 8 0)))], .c (.sl 1 false [[.lit (.int .i64 5)]])]) (by
    rw [← e5]
    refine .cons (.agg (.cons ?_ (.cons (.refl _) .nil))) (.cons (.refl _) .nil)
    rw [hid_eq hA]
    exact .nil _ _ _)
  clear hp
  generalize hK : putK [] [5] = K at hp2
  have hK2 : K = [[5]] := hK.symm
  have hn : K.Nodup := by rw [hK2]; simp
  have hmem : ∀ x ∈ K, x.length ≤ 1000000 := by rw [hK2]; simp
  have hl : K.length = 1 := by rw [hK2]; rfl
  have hb := sizeM_bound K.length
  have hll := layM_len K
  have hf5 := find_c hA K (layM K) [5] (by omega) (layM_vals K) (by omega) (by simp)
  rw [find_at K hn, e5, show atM K [5] = 0 by rw [hK2]; rfl] at hf5
  have hf6 := find_c hA K (layM K) [6] (by omega) (layM_vals K) (by omega) (by simp)
  rw [find_at K hn, e6, show atM K [6] = -1 by rw [hK2]; rfl] at hf6
  have hr := right_c hA K (layM K) (by omega) hmem (by omega)
  rw [show decide (K.Nodup ∧ layM K = layM K) = true by simp [hn]] at hr
  have hs := size_c hA 7 7 rfl (by omega)
  rw [show sizeM 7 = 16 by rfl] at hs
  have hh := (hash_c hA [] (by simp)).weaken (pvs := [.c (.sl 0 false [])]) (by
    rw [e0]
    exact .cons (.c (.nil _ _ _)) .nil)
  rw [show hashM [] = 2166136261 by rfl] at hh
  simp only [show List.idxOf [5] ([] : List (List Int)) = 0 by rfl, show decide ([5] ∉ ([] : List (List Int))) = true by rfl] at hp2
  refine PureCalls.of Try.func14 rfl (by kernel_rfl) rfl ?_
  repeat' (first
    | (refine AWp.pass ?_; first
        | refine AWp.seq ?_
        | refine AWp.block ?_
        | refine AWp.skip ?_
        | refine AWp.reg (by conv => lhs; cbv) ?_
        | refine AWp.cond_t rfl ?_
        | refine AWp.cond_f rfl ?_
        | (refine AWp.cond rfl ?_ ?_ <;> intro hc <;> (try rw [hc]) <;> ((try simp (disch := omega) only [zz hA, zb, reduceCtorEq, Bool.false_eq_true, Int.reduceLT, Int.reduceLE, Int.reduceNeg] at hc) <;> (try simp only [zw] at hc)) <;> (try (exfalso; omega)))
        | refine AWp.exit ?_
        | refine AWp.ret ⟨.inr rfl, _, RetOk.ev tabOk (by conv => lhs; cbv), ?_⟩
        | refine AWp.drawK 0 rfl (by decide +kernel) (by conv => lhs; cbv) (by conv => lhs; cbv) ?_
        | refine AWp.drawK 1 rfl (by decide +kernel) (by conv => lhs; cbv) (by conv => lhs; cbv) ?_
        | refine AWp.drawK 2 rfl (by decide +kernel) (by conv => lhs; cbv) (by conv => lhs; cbv) ?_
        | refine AWp.drawK 3 rfl (by decide +kernel) (by conv => lhs; cbv) (by conv => lhs; cbv) ?_
        | refine AWp.drawK 4 rfl (by decide +kernel) (by conv => lhs; cbv) (by conv => lhs; cbv) ?_
        | refine AWp.drawK 5 rfl (by decide +kernel) (by conv => lhs; cbv) (by conv => lhs; cbv) ?_
        | refine AWp.drawK 6 rfl (by decide +kernel) (by conv => lhs; cbv) (by conv => lhs; cbv) ?_
        | refine AWp.drawK 8 rfl (by decide +kernel) (by conv => lhs; cbv) (by conv => lhs; cbv) ?_)
    | (refine AOL.pass ?_; first
        | refine AOL.nil ?_
        | refine AOL.go hA tabOk (by conv => lhs; cbv) ?_
        | ((first | refine AOL.one (One.elemM hA tabOk rfl rfl rfl rfl ?_ ?_) ?_ | refine AOL.one (One.clipM tabOk rfl rfl rfl rfl rfl ?_ ?_) ?_ | refine AOL.one (One.cut_hM hA tabOk rfl rfl rfl rfl ?_ ?_) ?_ | refine AOL.one (One.cut_lM hA tabOk rfl rfl rfl rfl ?_ ?_) ?_ | refine AOL.one (One.cut_lhM hA tabOk rfl rfl rfl rfl rfl ?_ ?_ ?_) ?_ | refine AOL.one (One.quoM hA rfl rfl rfl ?_) ?_ | refine AOL.one (One.remM hA rfl rfl rfl ?_) ?_ | refine AOL.one (One.bitsM hA rfl rfl rfl rfl) ?_ | refine AOL.one (One.shrM hA rfl rfl rfl ?_) ?_ | refine AOL.one (One.byteM hA tabOk rfl rfl rfl rfl rfl ?_ ?_) ?_ | refine AOL.one (One.concatM hA rfl rfl rfl ?_) ?_ | refine AOL.one (One.eqBoolM hA tabOk rfl rfl rfl rfl rfl) ?_ | refine AOL.one (One.neBoolM hA tabOk rfl rfl rfl rfl rfl) ?_ | refine AOL.one (One.lenOwnM hA tabOk rfl rfl rfl rfl) ?_ | refine AOL.one (One.elemOwnM hA tabOk rfl rfl rfl rfl rfl ?_ ?_) ?_ | refine AOL.one (One.loadRatM hA tabOk rfl rfl rfl rfl rfl rfl ?_) ?_ | refine AOL.one (One.appendM hA tabOk _ rfl rfl rfl rfl rfl rfl ?_ ?_) ?_ | refine AOL.one (One.appendMM hA tabOk rfl rfl rfl rfl rfl ?_ ?_) ?_ | refine AOL.one (One.appendOwnM hA tabOk _ rfl rfl rfl rfl rfl rfl rfl ?_ ?_) ?_ | refine AOL.one (One.appendOwnMM hA tabOk rfl rfl rfl rfl rfl rfl ?_ ?_) ?_ | refine AOL.one (One.appendOwn0 hA tabOk rfl rfl rfl rfl rfl rfl ?_ ?_) ?_ | refine AOL.one (One.storeRatM hA tabOk _ rfl rfl rfl rfl rfl rfl rfl rfl (fun _ => rfl) ?_) ?_ | refine AOL.one (One.makeM hA tabOk encI 0 rfl rfl rfl rfl rfl rfl rfl ?_ ?_ ?_) ?_ | refine AOL.one (One.build0 tabOk rfl rfl) ?_ | refine AOL.one (One.fieldRat tabOk rfl rfl rfl rfl (by decide) rfl rfl) ?_) <;> (first | refine AOL.pass ?_ | (((try simp (disch := omega) only [zz hA, zb, reduceCtorEq, Bool.false_eq_true, Int.reduceLT, Int.reduceLE, Int.reduceNeg]) <;> (try simp only [zw])) <;> omega)))
        | refine AOL.goG hA tabOk (by conv => lhs; cbv) ?_
        | refine AOL.go1 hA tabOk (by conv => lhs; cbv) ?_
        | (refine AOL.gs (by conv => lhs; cbv) ?_ ?_ <;> intro hc <;> (fail_if_success (with_reducible have h0 : true = true := hc)) <;> (fail_if_success (with_reducible have h0 : true = false := hc)) <;> (fail_if_success (with_reducible have h0 : false = true := hc)) <;> (fail_if_success (with_reducible have h0 : false = false := hc)) <;> rw [hc] <;> ((try simp (disch := omega) only [zz hA, zb, reduceCtorEq, Bool.false_eq_true, Int.reduceLT, Int.reduceLE, Int.reduceNeg] at hc) <;> (try simp only [zw] at hc)) <;> (try (exfalso; omega))))
    | (refine QS.pass ?_; first
        | refine QS.nil ?_
        | refine QS.go hA tabOk (by conv => lhs; cbv) ?_
        | ((first | refine QS.one rfl (One.elemM hA tabOk rfl rfl rfl rfl ?_ ?_) ?_ | refine QS.one rfl (One.clipM tabOk rfl rfl rfl rfl rfl ?_ ?_) ?_ | refine QS.one rfl (One.cut_hM hA tabOk rfl rfl rfl rfl ?_ ?_) ?_ | refine QS.one rfl (One.cut_lM hA tabOk rfl rfl rfl rfl ?_ ?_) ?_ | refine QS.one rfl (One.cut_lhM hA tabOk rfl rfl rfl rfl rfl ?_ ?_ ?_) ?_ | refine QS.one rfl (One.quoM hA rfl rfl rfl ?_) ?_ | refine QS.one rfl (One.remM hA rfl rfl rfl ?_) ?_ | refine QS.one rfl (One.bitsM hA rfl rfl rfl rfl) ?_ | refine QS.one rfl (One.shrM hA rfl rfl rfl ?_) ?_ | refine QS.one rfl (One.byteM hA tabOk rfl rfl rfl rfl rfl ?_ ?_) ?_ | refine QS.one rfl (One.concatM hA rfl rfl rfl ?_) ?_ | refine QS.one rfl (One.eqBoolM hA tabOk rfl rfl rfl rfl rfl) ?_ | refine QS.one rfl (One.neBoolM hA tabOk rfl rfl rfl rfl rfl) ?_ | refine QS.one rfl (One.lenOwnM hA tabOk rfl rfl rfl rfl) ?_ | refine QS.one rfl (One.elemOwnM hA tabOk rfl rfl rfl rfl rfl ?_ ?_) ?_ | refine QS.one rfl (One.loadRatM hA tabOk rfl rfl rfl rfl rfl rfl ?_) ?_ | refine QS.one rfl (One.appendM hA tabOk _ rfl rfl rfl rfl rfl rfl ?_ ?_) ?_ | refine QS.one rfl (One.appendMM hA tabOk rfl rfl rfl rfl rfl ?_ ?_) ?_ | refine QS.one rfl (One.appendOwnM hA tabOk _ rfl rfl rfl rfl rfl rfl rfl ?_ ?_) ?_ | refine QS.one rfl (One.appendOwnMM hA tabOk rfl rfl rfl rfl rfl rfl ?_ ?_) ?_ | refine QS.one rfl (One.appendOwn0 hA tabOk rfl rfl rfl rfl rfl rfl ?_ ?_) ?_ | refine QS.one rfl (One.storeRatM hA tabOk _ rfl rfl rfl rfl rfl rfl rfl rfl (fun _ => rfl) ?_) ?_ | refine QS.one rfl (One.makeM hA tabOk encI 0 rfl rfl rfl rfl rfl rfl rfl ?_ ?_ ?_) ?_ | refine QS.one rfl (One.build0 tabOk rfl rfl) ?_ | refine QS.one rfl (One.fieldRat tabOk rfl rfl rfl rfl (by decide) rfl rfl) ?_) <;> (first | refine QS.pass ?_ | (((try simp (disch := omega) only [zz hA, zb, reduceCtorEq, Bool.false_eq_true, Int.reduceLT, Int.reduceLE, Int.reduceNeg]) <;> (try simp only [zw])) <;> omega)))
        | refine QS.goG hA tabOk (by conv => lhs; cbv) ?_
        | refine QS.go1 hA tabOk (by conv => lhs; cbv) ?_
        | (refine QS.gs (by conv => lhs; cbv) ?_ ?_ <;> intro hc <;> (fail_if_success (with_reducible have h0 : true = true := hc)) <;> (fail_if_success (with_reducible have h0 : true = false := hc)) <;> (fail_if_success (with_reducible have h0 : false = true := hc)) <;> (fail_if_success (with_reducible have h0 : false = false := hc)) <;> rw [hc] <;> ((try simp (disch := omega) only [zz hA, zb, reduceCtorEq, Bool.false_eq_true, Int.reduceLT, Int.reduceLE, Int.reduceNeg] at hc) <;> (try simp only [zw] at hc)) <;> (try (exfalso; omega))))
    | refine Thn.exit ?_
    | refine Blk.here ?_
    | refine Blk.other (by decide) ?_
    | refine ⟨.inl rfl, _, RetOk.ev tabOk (by conv => lhs; cbv), ?_⟩
    | fail)
  refine AOL.freeze 0 0 3 1 true _ rfl ?_
  refine AOL.norm (by conv => lhs; cbv) ?_
  repeat' (first
    | (refine AWp.pass ?_; first
        | refine AWp.seq ?_
        | refine AWp.block ?_
        | refine AWp.skip ?_
        | refine AWp.reg (by conv => lhs; cbv) ?_
        | refine AWp.cond_t rfl ?_
        | refine AWp.cond_f rfl ?_
        | (refine AWp.cond rfl ?_ ?_ <;> intro hc <;> (try rw [hc]) <;> ((try simp (disch := omega) only [zz hA, zb, reduceCtorEq, Bool.false_eq_true, Int.reduceLT, Int.reduceLE, Int.reduceNeg] at hc) <;> (try simp only [zw] at hc)) <;> (try (exfalso; omega)))
        | refine AWp.exit ?_
        | refine AWp.ret ⟨.inr rfl, _, RetOk.ev tabOk (by conv => lhs; cbv), ?_⟩
        | refine AWp.drawK 0 rfl (by decide +kernel) (by conv => lhs; cbv) (by conv => lhs; cbv) ?_
        | refine AWp.drawK 1 rfl (by decide +kernel) (by conv => lhs; cbv) (by conv => lhs; cbv) ?_
        | refine AWp.drawK 2 rfl (by decide +kernel) (by conv => lhs; cbv) (by conv => lhs; cbv) ?_
        | refine AWp.drawK 3 rfl (by decide +kernel) (by conv => lhs; cbv) (by conv => lhs; cbv) ?_
        | refine AWp.drawK 4 rfl (by decide +kernel) (by conv => lhs; cbv) (by conv => lhs; cbv) ?_
        | refine AWp.drawK 5 rfl (by decide +kernel) (by conv => lhs; cbv) (by conv => lhs; cbv) ?_
        | refine AWp.drawK 6 rfl (by decide +kernel) (by conv => lhs; cbv) (by conv => lhs; cbv) ?_
        | refine AWp.drawK 8 rfl (by decide +kernel) (by conv => lhs; cbv) (by conv => lhs; cbv) ?_)
    | (refine AOL.pass ?_; first
        | refine AOL.nil ?_
        | refine AOL.go hA tabOk (by conv => lhs; cbv) ?_
        | refine AOL.one (One.call false rfl rfl rfl (hp2) rfl) ?_
        | refine AOL.one (One.call true rfl rfl rfl (hp2) rfl) ?_
        | refine AOL.one (One.call false rfl rfl rfl (hf5) rfl) ?_
        | refine AOL.one (One.call true rfl rfl rfl (hf5) rfl) ?_
        | refine AOL.one (One.call false rfl rfl rfl (hf6) rfl) ?_
        | refine AOL.one (One.call true rfl rfl rfl (hf6) rfl) ?_
        | refine AOL.one (One.call false rfl rfl rfl (hr) rfl) ?_
        | refine AOL.one (One.call true rfl rfl rfl (hr) rfl) ?_
        | refine AOL.one (One.call false rfl rfl rfl (hs) rfl) ?_
        | refine AOL.one (One.call true rfl rfl rfl (hs) rfl) ?_
        | refine AOL.one (One.call false rfl rfl rfl (hh) rfl) ?_
        | refine AOL.one (One.call true rfl rfl rfl (hh) rfl) ?_
        | ((first | refine AOL.one (One.elemM hA tabOk rfl rfl rfl rfl ?_ ?_) ?_ | refine AOL.one (One.clipM tabOk rfl rfl rfl rfl rfl ?_ ?_) ?_ | refine AOL.one (One.cut_hM hA tabOk rfl rfl rfl rfl ?_ ?_) ?_ | refine AOL.one (One.cut_lM hA tabOk rfl rfl rfl rfl ?_ ?_) ?_ | refine AOL.one (One.cut_lhM hA tabOk rfl rfl rfl rfl rfl ?_ ?_ ?_) ?_ | refine AOL.one (One.quoM hA rfl rfl rfl ?_) ?_ | refine AOL.one (One.remM hA rfl rfl rfl ?_) ?_ | refine AOL.one (One.bitsM hA rfl rfl rfl rfl) ?_ | refine AOL.one (One.shrM hA rfl rfl rfl ?_) ?_ | refine AOL.one (One.byteM hA tabOk rfl rfl rfl rfl rfl ?_ ?_) ?_ | refine AOL.one (One.concatM hA rfl rfl rfl ?_) ?_ | refine AOL.one (One.eqBoolM hA tabOk rfl rfl rfl rfl rfl) ?_ | refine AOL.one (One.neBoolM hA tabOk rfl rfl rfl rfl rfl) ?_ | refine AOL.one (One.lenOwnM hA tabOk rfl rfl rfl rfl) ?_ | refine AOL.one (One.elemOwnM hA tabOk rfl rfl rfl rfl rfl ?_ ?_) ?_ | refine AOL.one (One.loadRatM hA tabOk rfl rfl rfl rfl rfl rfl ?_) ?_ | refine AOL.one (One.appendM hA tabOk _ rfl rfl rfl rfl rfl rfl ?_ ?_) ?_ | refine AOL.one (One.appendMM hA tabOk rfl rfl rfl rfl rfl ?_ ?_) ?_ | refine AOL.one (One.appendOwnM hA tabOk _ rfl rfl rfl rfl rfl rfl rfl ?_ ?_) ?_ | refine AOL.one (One.appendOwnMM hA tabOk rfl rfl rfl rfl rfl rfl ?_ ?_) ?_ | refine AOL.one (One.appendOwn0 hA tabOk rfl rfl rfl rfl rfl rfl ?_ ?_) ?_ | refine AOL.one (One.storeRatM hA tabOk _ rfl rfl rfl rfl rfl rfl rfl rfl (fun _ => rfl) ?_) ?_ | refine AOL.one (One.makeM hA tabOk encI 0 rfl rfl rfl rfl rfl rfl rfl ?_ ?_ ?_) ?_ | refine AOL.one (One.build0 tabOk rfl rfl) ?_ | refine AOL.one (One.fieldRat tabOk rfl rfl rfl rfl (by decide) rfl rfl) ?_) <;> (first | refine AOL.pass ?_ | (((try simp (disch := omega) only [zz hA, zb, reduceCtorEq, Bool.false_eq_true, Int.reduceLT, Int.reduceLE, Int.reduceNeg]) <;> (try simp only [zw])) <;> omega)))
        | refine AOL.goG hA tabOk (by conv => lhs; cbv) ?_
        | refine AOL.go1 hA tabOk (by conv => lhs; cbv) ?_
        | (refine AOL.gs (by conv => lhs; cbv) ?_ ?_ <;> intro hc <;> (fail_if_success (with_reducible have h0 : true = true := hc)) <;> (fail_if_success (with_reducible have h0 : true = false := hc)) <;> (fail_if_success (with_reducible have h0 : false = true := hc)) <;> (fail_if_success (with_reducible have h0 : false = false := hc)) <;> rw [hc] <;> ((try simp (disch := omega) only [zz hA, zb, reduceCtorEq, Bool.false_eq_true, Int.reduceLT, Int.reduceLE, Int.reduceNeg] at hc) <;> (try simp only [zw] at hc)) <;> (try (exfalso; omega))))
    | (refine QS.pass ?_; first
        | refine QS.nil ?_
        | refine QS.go hA tabOk (by conv => lhs; cbv) ?_
        | refine QS.one rfl (One.call false rfl rfl rfl (hp2) rfl) ?_
        | refine QS.one rfl (One.call false rfl rfl rfl (hf5) rfl) ?_
        | refine QS.one rfl (One.call false rfl rfl rfl (hf6) rfl) ?_
        | refine QS.one rfl (One.call false rfl rfl rfl (hr) rfl) ?_
        | refine QS.one rfl (One.call false rfl rfl rfl (hs) rfl) ?_
        | refine QS.one rfl (One.call false rfl rfl rfl (hh) rfl) ?_
        | ((first | refine QS.one rfl (One.elemM hA tabOk rfl rfl rfl rfl ?_ ?_) ?_ | refine QS.one rfl (One.clipM tabOk rfl rfl rfl rfl rfl ?_ ?_) ?_ | refine QS.one rfl (One.cut_hM hA tabOk rfl rfl rfl rfl ?_ ?_) ?_ | refine QS.one rfl (One.cut_lM hA tabOk rfl rfl rfl rfl ?_ ?_) ?_ | refine QS.one rfl (One.cut_lhM hA tabOk rfl rfl rfl rfl rfl ?_ ?_ ?_) ?_ | refine QS.one rfl (One.quoM hA rfl rfl rfl ?_) ?_ | refine QS.one rfl (One.remM hA rfl rfl rfl ?_) ?_ | refine QS.one rfl (One.bitsM hA rfl rfl rfl rfl) ?_ | refine QS.one rfl (One.shrM hA rfl rfl rfl ?_) ?_ | refine QS.one rfl (One.byteM hA tabOk rfl rfl rfl rfl rfl ?_ ?_) ?_ | refine QS.one rfl (One.concatM hA rfl rfl rfl ?_) ?_ | refine QS.one rfl (One.eqBoolM hA tabOk rfl rfl rfl rfl rfl) ?_ | refine QS.one rfl (One.neBoolM hA tabOk rfl rfl rfl rfl rfl) ?_ | refine QS.one rfl (One.lenOwnM hA tabOk rfl rfl rfl rfl) ?_ | refine QS.one rfl (One.elemOwnM hA tabOk rfl rfl rfl rfl rfl ?_ ?_) ?_ | refine QS.one rfl (One.loadRatM hA tabOk rfl rfl rfl rfl rfl rfl ?_) ?_ | refine QS.one rfl (One.appendM hA tabOk _ rfl rfl rfl rfl rfl rfl ?_ ?_) ?_ | refine QS.one rfl (One.appendMM hA tabOk rfl rfl rfl rfl rfl ?_ ?_) ?_ | refine QS.one rfl (One.appendOwnM hA tabOk _ rfl rfl rfl rfl rfl rfl rfl ?_ ?_) ?_ | refine QS.one rfl (One.appendOwnMM hA tabOk rfl rfl rfl rfl rfl rfl ?_ ?_) ?_ | refine QS.one rfl (One.appendOwn0 hA tabOk rfl rfl rfl rfl rfl rfl ?_ ?_) ?_ | refine QS.one rfl (One.storeRatM hA tabOk _ rfl rfl rfl rfl rfl rfl rfl rfl (fun _ => rfl) ?_) ?_ | refine QS.one rfl (One.makeM hA tabOk encI 0 rfl rfl rfl rfl rfl rfl rfl ?_ ?_ ?_) ?_ | refine QS.one rfl (One.build0 tabOk rfl rfl) ?_ | refine QS.one rfl (One.fieldRat tabOk rfl rfl rfl rfl (by decide) rfl rfl) ?_) <;> (first | refine QS.pass ?_ | (((try simp (disch := omega) only [zz hA, zb, reduceCtorEq, Bool.false_eq_true, Int.reduceLT, Int.reduceLE, Int.reduceNeg]) <;> (try simp only [zw])) <;> omega)))
        | refine QS.goG hA tabOk (by conv => lhs; cbv) ?_
        | refine QS.go1 hA tabOk (by conv => lhs; cbv) ?_
        | (refine QS.gs (by conv => lhs; cbv) ?_ ?_ <;> intro hc <;> (fail_if_success (with_reducible have h0 : true = true := hc)) <;> (fail_if_success (with_reducible have h0 : true = false := hc)) <;> (fail_if_success (with_reducible have h0 : false = true := hc)) <;> (fail_if_success (with_reducible have h0 : false = false := hc)) <;> rw [hc] <;> ((try simp (disch := omega) only [zz hA, zb, reduceCtorEq, Bool.false_eq_true, Int.reduceLT, Int.reduceLE, Int.reduceNeg] at hc) <;> (try simp only [zw] at hc)) <;> (try (exfalso; omega))))
    | refine Thn.exit ?_
    | refine Blk.here ?_
    | refine Blk.other (by decide) ?_
    | refine ⟨.inl rfl, _, RetOk.ev tabOk (by conv => lhs; cbv), ?_⟩
    | fail)
  all_goals
    refine rPV_then (by conv => lhs; cbv) ?_
    simp [hA, real, hid]
end Go.Proofs.Ytpphdaphbkepfaa.Aw
