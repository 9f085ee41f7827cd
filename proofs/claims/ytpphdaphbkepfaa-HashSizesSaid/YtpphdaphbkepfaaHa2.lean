/- Contracts of package hash, part 2: sizes, rows, the slots of a key. -/
import Derived.Test.YtpphdaphbkepfaaHa1
set_option linter.unusedVariables false
set_option linter.unusedSimpArgs false
namespace Go.Proofs.Ytpphdaphbkepfaa.Aw
open Go Go.RowKit
set_option maxRecDepth 10000
attribute [local irreducible] AWp AOL QS One
def sizeGo : Nat → Nat → Nat → Nat
  | 0, s, _ => s
  | f + 1, s, n => if 3 * s < 4 * n then sizeGo f (2 * s) n else s
def sizeM (n : Nat) : Nat := sizeGo (4 * n) 8 n
def slotM (key : List Int) (size k : Nat) : Int := (hashM key % size + k) % size
theorem hstep_range (h b : Int) : 0 ≤ hstep h b ∧ hstep h b < 4294967296 := by unfold hstep; omega
theorem hnum_range (h n : Int) (k : Nat) (h0 : 0 ≤ h ∧ h < 4294967296) : 0 ≤ hnum h n k ∧ hnum h n k < 4294967296 := by
  cases k with
  | zero => exact h0
  | succ k => rw [hnum_succ]; exact hstep_range _ _
theorem hashM_range (key : List Int) : 0 ≤ hashM key ∧ hashM key < 4294967296 := by
  unfold hashM
  generalize hb : (2166136261 : Int) = b
  have h0 : 0 ≤ b ∧ b < 4294967296 := by omega
  clear hb
  induction key generalizing b with
  | nil => exact h0
  | cons n r ih => exact ih _ (hnum_range _ _ _ h0)
theorem sizeGo_done (f s n : Nat) (h : ¬ 3 * s < 4 * n) : sizeGo f s n = s := by cases f <;> simp [sizeGo, h]
variable {A : Ar} (hA : A = real)
include hA
theorem size_c (n : Nat) (z : Int) (hz : z = n) (hn : n ≤ 10000000) : PureCalls Try.prog 25 [IP z] (IP (hid A (cN (sizeM n)))) := by
  refine PureCalls.of Try.func25 rfl (by kernel_rfl) rfl ?_
  repeat' (first
    | (refine AWp.pass ?_; first
        | refine AWp.seq ?_
        | refine AWp.block ?_
        | refine AWp.skip ?_
        | refine AWp.reg (by conv => lhs; cbv) ?_
        | refine AWp.cond_t rfl ?_
        | refine AWp.cond_f rfl ?_
        | (refine AWp.cond rfl ?_ ?_ <;> intro hc <;> (try rw [hc]) <;> ((try simp (disch := omega) only [zz hA, zb, reduceCtorEq, Bool.false_eq_true, Int.reduceLT, Int.reduceLE, Int.reduceNeg] at hc) <;> (try simp only [zw] at hc)) <;> (try (exfalso; omega)))
        | refine AWp.exit ?_
        | refine AWp.ret ⟨.inr rfl, _, RetOk.ev tabOk (by conv => lhs; cbv), ?_⟩
        | refine AWp.drawK 0 rfl (by decide +kernel) (by conv => lhs; cbv) (by conv => lhs; cbv) ?_
        | refine AWp.drawK 1 rfl (by decide +kernel) (by conv => lhs; cbv) (by conv => lhs; cbv) ?_
        | refine AWp.drawK 2 rfl (by decide +kernel) (by conv => lhs; cbv) (by conv => lhs; cbv) ?_
        | refine AWp.drawK 3 rfl (by decide +kernel) (by conv => lhs; cbv) (by conv => lhs; cbv) ?_
        | refine AWp.drawK 4 rfl (by decide +kernel) (by conv => lhs; cbv) (by conv => lhs; cbv) ?_
        | refine AWp.drawK 5 rfl (by decide +kernel) (by conv => lhs; cbv) (by conv => lhs; cbv) ?_
        | refine AWp.drawK 6 rfl (by decide +kernel) (by conv => lhs; cbv) (by conv => lhs; cbv) ?_
        | refine AWp.drawK 8 rfl (by decide +kernel) (by conv => lhs; cbv) (by conv => lhs; cbv) ?_)
    | (refine AOL.pass ?_; first
        | refine AOL.nil ?_
        | refine AOL.go hA tabOk (by conv => lhs; cbv) ?_
        | ((first | refine AOL.one (One.elemM hA tabOk rfl rfl rfl rfl ?_ ?_) ?_ | refine AOL.one (One.clipM tabOk rfl rfl rfl rfl rfl ?_ ?_) ?_ | refine AOL.one (One.cut_hM hA tabOk rfl rfl rfl rfl ?_ ?_) ?_ | refine AOL.one (One.cut_lM hA tabOk rfl rfl rfl rfl ?_ ?_) ?_ | refine AOL.one (One.cut_lhM hA tabOk rfl rfl rfl rfl rfl ?_ ?_ ?_) ?_ | refine AOL.one (One.quoM hA rfl rfl rfl ?_) ?_ | refine AOL.one (One.remM hA rfl rfl rfl ?_) ?_ | refine AOL.one (One.bitsM hA rfl rfl rfl rfl) ?_ | refine AOL.one (One.shrM hA rfl rfl rfl ?_) ?_ | refine AOL.one (One.byteM hA tabOk rfl rfl rfl rfl rfl ?_ ?_) ?_ | refine AOL.one (One.concatM hA rfl rfl rfl ?_) ?_ | refine AOL.one (One.eqBoolM hA tabOk rfl rfl rfl rfl rfl) ?_ | refine AOL.one (One.neBoolM hA tabOk rfl rfl rfl rfl rfl) ?_ | refine AOL.one (One.lenOwnM hA tabOk rfl rfl rfl rfl) ?_ | refine AOL.one (One.elemOwnM hA tabOk rfl rfl rfl rfl rfl ?_ ?_) ?_ | refine AOL.one (One.loadRatM hA tabOk rfl rfl rfl rfl rfl rfl ?_) ?_ | refine AOL.one (One.appendM hA tabOk _ rfl rfl rfl rfl rfl rfl ?_ ?_) ?_ | refine AOL.one (One.appendMM hA tabOk rfl rfl rfl rfl rfl ?_ ?_) ?_ | refine AOL.one (One.appendOwnM hA tabOk _ rfl rfl rfl rfl rfl rfl rfl ?_ ?_) ?_ | refine AOL.one (One.appendOwnMM hA tabOk rfl rfl rfl rfl rfl rfl ?_ ?_) ?_ | refine AOL.one (One.appendOwn0 hA tabOk rfl rfl rfl rfl rfl rfl ?_ ?_) ?_ | refine AOL.one (One.storeRatM hA tabOk _ rfl rfl rfl rfl rfl rfl rfl rfl (fun _ => rfl) ?_) ?_ | refine AOL.one (One.makeM hA tabOk encI 0 rfl rfl rfl rfl rfl rfl rfl ?_ ?_ ?_) ?_ | refine AOL.one (One.build0 tabOk rfl rfl) ?_ | refine AOL.one (One.fieldRat tabOk rfl rfl rfl rfl (by decide) rfl rfl) ?_) <;> (first | refine AOL.pass ?_ | (((try simp (disch := omega) only [zz hA, zb, reduceCtorEq, Bool.false_eq_true, Int.reduceLT, Int.reduceLE, Int.reduceNeg]) <;> (try simp only [zw])) <;> omega)))
        | refine AOL.goG hA tabOk (by conv => lhs; cbv) ?_
        | refine AOL.go1 hA tabOk (by conv => lhs; cbv) ?_
        | (refine AOL.gs (by conv => lhs; cbv) ?_ ?_ <;> intro hc <;> (fail_if_success (with_reducible have h0 : true = true := hc)) <;> (fail_if_success (with_reducible have h0 : true = false := hc)) <;> (fail_if_success (with_reducible have h0 : false = true := hc)) <;> (fail_if_success (with_reducible have h0 : false = false := hc)) <;> rw [hc] <;> ((try simp (disch := omega) only [zz hA, zb, reduceCtorEq, Bool.false_eq_true, Int.reduceLT, Int.reduceLE, Int.reduceNeg] at hc) <;> (try simp only [zw] at hc)) <;> (try (exfalso; omega))))
    | (refine QS.pass ?_; first
        | refine QS.nil ?_
        | refine QS.go hA tabOk (by conv => lhs; cbv) ?_
        | ((first | refine QS.one rfl (One.elemM hA tabOk rfl rfl rfl rfl ?_ ?_) ?_ | refine QS.one rfl (One.clipM tabOk rfl rfl rfl rfl rfl ?_ ?_) ?_ | refine QS.one rfl (One.cut_hM hA tabOk rfl rfl rfl rfl ?_ ?_) ?_ | refine QS.one rfl (One.cut_lM hA tabOk rfl rfl rfl rfl ?_ ?_) ?_ | refine QS.one rfl (One.cut_lhM hA tabOk rfl rfl rfl rfl rfl ?_ ?_ ?_) ?_ | refine QS.one rfl (One.quoM hA rfl rfl rfl ?_) ?_ | refine QS.one rfl (One.remM hA rfl rfl rfl ?_) ?_ | refine QS.one rfl (One.bitsM hA rfl rfl rfl rfl) ?_ | refine QS.one rfl (One.shrM hA rfl rfl rfl ?_) ?_ | refine QS.one rfl (One.byteM hA tabOk rfl rfl rfl rfl rfl ?_ ?_) ?_ | refine QS.one rfl (One.concatM hA rfl rfl rfl ?_) ?_ | refine QS.one rfl (One.eqBoolM hA tabOk rfl rfl rfl rfl rfl) ?_ | refine QS.one rfl (One.neBoolM hA tabOk rfl rfl rfl rfl rfl) ?_ | refine QS.one rfl (One.lenOwnM hA tabOk rfl rfl rfl rfl) ?_ | refine QS.one rfl (One.elemOwnM hA tabOk rfl rfl rfl rfl rfl ?_ ?_) ?_ | refine QS.one rfl (One.loadRatM hA tabOk rfl rfl rfl rfl rfl rfl ?_) ?_ | refine QS.one rfl (One.appendM hA tabOk _ rfl rfl rfl rfl rfl rfl ?_ ?_) ?_ | refine QS.one rfl (One.appendMM hA tabOk rfl rfl rfl rfl rfl ?_ ?_) ?_ | refine QS.one rfl (One.appendOwnM hA tabOk _ rfl rfl rfl rfl rfl rfl rfl ?_ ?_) ?_ | refine QS.one rfl (One.appendOwnMM hA tabOk rfl rfl rfl rfl rfl rfl ?_ ?_) ?_ | refine QS.one rfl (One.appendOwn0 hA tabOk rfl rfl rfl rfl rfl rfl ?_ ?_) ?_ | refine QS.one rfl (One.storeRatM hA tabOk _ rfl rfl rfl rfl rfl rfl rfl rfl (fun _ => rfl) ?_) ?_ | refine QS.one rfl (One.makeM hA tabOk encI 0 rfl rfl rfl rfl rfl rfl rfl ?_ ?_ ?_) ?_ | refine QS.one rfl (One.build0 tabOk rfl rfl) ?_ | refine QS.one rfl (One.fieldRat tabOk rfl rfl rfl rfl (by decide) rfl rfl) ?_) <;> (first | refine QS.pass ?_ | (((try simp (disch := omega) only [zz hA, zb, reduceCtorEq, Bool.false_eq_true, Int.reduceLT, Int.reduceLE, Int.reduceNeg]) <;> (try simp only [zw])) <;> omega)))
        | refine QS.goG hA tabOk (by conv => lhs; cbv) ?_
        | refine QS.go1 hA tabOk (by conv => lhs; cbv) ?_
        | (refine QS.gs (by conv => lhs; cbv) ?_ ?_ <;> intro hc <;> (fail_if_success (with_reducible have h0 : true = true := hc)) <;> (fail_if_success (with_reducible have h0 : true = false := hc)) <;> (fail_if_success (with_reducible have h0 : false = true := hc)) <;> (fail_if_success (with_reducible have h0 : false = false := hc)) <;> rw [hc] <;> ((try simp (disch := omega) only [zz hA, zb, reduceCtorEq, Bool.false_eq_true, Int.reduceLT, Int.reduceLE, Int.reduceNeg] at hc) <;> (try simp only [zw] at hc)) <;> (try (exfalso; omega))))
    | refine Thn.exit ?_
    | refine Blk.here ?_
    | refine Blk.other (by decide) ?_
    | refine ⟨.inl rfl, _, RetOk.ev tabOk (by conv => lhs; cbv), ?_⟩
    | fail)
  refine AWp.loopU (fun x : Nat × Nat => [(3, .ic (.lit (.int .i64 (hid A (cN x.2)))))]) (fun _ => []) (fun x => x.1) (fun x => sizeGo x.1 x.2 n = sizeM n ∧ 4 * n ≤ 3 * x.2 + x.1 ∧ 4 ∣ x.2 ∧ x.2 ≤ 8 * n + 8 ∧ 8 ≤ x.2) (4 * n, 8) (by conv => lhs; cbv) ⟨rfl, by simp, ⟨2, rfl⟩, by simp, by simp⟩ (by (repeat' (first | exact subE.nil | refine subE.cons rfl ?_ | refine subE.int rfl ?_ ?_ | refine subE.bool rfl ?_ ?_ | refine subE.str rfl ?_ ?_ | refine subE.sl rfl ?_ ?_)) <;> simp [hA, real, hid, cN]) rfl ?_
  rintro ⟨f, s⟩ ⟨h1, h2, h3, h4, h5⟩
  simp only [] at h1 h2 h3 h4 h5 ⊢
  repeat' (first
    | (refine AWp.pass ?_; first
        | refine AWp.seq ?_
        | refine AWp.block ?_
        | refine AWp.skip ?_
        | refine AWp.reg (by conv => lhs; cbv) ?_
        | refine AWp.cond_t rfl ?_
        | refine AWp.cond_f rfl ?_
        | (refine AWp.cond rfl ?_ ?_ <;> intro hc <;> (try rw [hc]) <;> ((try simp (disch := omega) only [zz hA, zb, reduceCtorEq, Bool.false_eq_true, Int.reduceLT, Int.reduceLE, Int.reduceNeg] at hc) <;> (try simp only [zw] at hc)) <;> (try (exfalso; omega)))
        | refine AWp.exit ?_
        | refine AWp.ret ⟨.inr rfl, _, RetOk.ev tabOk (by conv => lhs; cbv), ?_⟩
        | refine AWp.drawK 0 rfl (by decide +kernel) (by conv => lhs; cbv) (by conv => lhs; cbv) ?_
        | refine AWp.drawK 1 rfl (by decide +kernel) (by conv => lhs; cbv) (by conv => lhs; cbv) ?_
        | refine AWp.drawK 2 rfl (by decide +kernel) (by conv => lhs; cbv) (by conv => lhs; cbv) ?_
        | refine AWp.drawK 3 rfl (by decide +kernel) (by conv => lhs; cbv) (by conv => lhs; cbv) ?_
        | refine AWp.drawK 4 rfl (by decide +kernel) (by conv => lhs; cbv) (by conv => lhs; cbv) ?_
        | refine AWp.drawK 5 rfl (by decide +kernel) (by conv => lhs; cbv) (by conv => lhs; cbv) ?_
        | refine AWp.drawK 6 rfl (by decide +kernel) (by conv => lhs; cbv) (by conv => lhs; cbv) ?_
        | refine AWp.drawK 8 rfl (by decide +kernel) (by conv => lhs; cbv) (by conv => lhs; cbv) ?_)
    | (refine AOL.pass ?_; first
        | refine AOL.nil ?_
        | refine AOL.go hA tabOk (by conv => lhs; cbv) ?_
        | ((first | refine AOL.one (One.elemM hA tabOk rfl rfl rfl rfl ?_ ?_) ?_ | refine AOL.one (One.clipM tabOk rfl rfl rfl rfl rfl ?_ ?_) ?_ | refine AOL.one (One.cut_hM hA tabOk rfl rfl rfl rfl ?_ ?_) ?_ | refine AOL.one (One.cut_lM hA tabOk rfl rfl rfl rfl ?_ ?_) ?_ | refine AOL.one (One.cut_lhM hA tabOk rfl rfl rfl rfl rfl ?_ ?_ ?_) ?_ | refine AOL.one (One.quoM hA rfl rfl rfl ?_) ?_ | refine AOL.one (One.remM hA rfl rfl rfl ?_) ?_ | refine AOL.one (One.bitsM hA rfl rfl rfl rfl) ?_ | refine AOL.one (One.shrM hA rfl rfl rfl ?_) ?_ | refine AOL.one (One.byteM hA tabOk rfl rfl rfl rfl rfl ?_ ?_) ?_ | refine AOL.one (One.concatM hA rfl rfl rfl ?_) ?_ | refine AOL.one (One.eqBoolM hA tabOk rfl rfl rfl rfl rfl) ?_ | refine AOL.one (One.neBoolM hA tabOk rfl rfl rfl rfl rfl) ?_ | refine AOL.one (One.lenOwnM hA tabOk rfl rfl rfl rfl) ?_ | refine AOL.one (One.elemOwnM hA tabOk rfl rfl rfl rfl rfl ?_ ?_) ?_ | refine AOL.one (One.loadRatM hA tabOk rfl rfl rfl rfl rfl rfl ?_) ?_ | refine AOL.one (One.appendM hA tabOk _ rfl rfl rfl rfl rfl rfl ?_ ?_) ?_ | refine AOL.one (One.appendMM hA tabOk rfl rfl rfl rfl rfl ?_ ?_) ?_ | refine AOL.one (One.appendOwnM hA tabOk _ rfl rfl rfl rfl rfl rfl rfl ?_ ?_) ?_ | refine AOL.one (One.appendOwnMM hA tabOk rfl rfl rfl rfl rfl rfl ?_ ?_) ?_ | refine AOL.one (One.appendOwn0 hA tabOk rfl rfl rfl rfl rfl rfl ?_ ?_) ?_ | refine AOL.one (One.storeRatM hA tabOk _ rfl rfl rfl rfl rfl rfl rfl rfl (fun _ => rfl) ?_) ?_ | refine AOL.one (One.makeM hA tabOk encI 0 rfl rfl rfl rfl rfl rfl rfl ?_ ?_ ?_) ?_ | refine AOL.one (One.build0 tabOk rfl rfl) ?_ | refine AOL.one (One.fieldRat tabOk rfl rfl rfl rfl (by decide) rfl rfl) ?_) <;> (first | refine AOL.pass ?_ | (((try simp (disch := omega) only [zz hA, zb, reduceCtorEq, Bool.false_eq_true, Int.reduceLT, Int.reduceLE, Int.reduceNeg]) <;> (try simp only [zw])) <;> omega)))
        | refine AOL.goG hA tabOk (by conv => lhs; cbv) ?_
        | refine AOL.go1 hA tabOk (by conv => lhs; cbv) ?_
        | (refine AOL.gs (by conv => lhs; cbv) ?_ ?_ <;> intro hc <;> (fail_if_success (with_reducible have h0 : true = true := hc)) <;> (fail_if_success (with_reducible have h0 : true = false := hc)) <;> (fail_if_success (with_reducible have h0 : false = true := hc)) <;> (fail_if_success (with_reducible have h0 : false = false := hc)) <;> rw [hc] <;> ((try simp (disch := omega) only [zz hA, zb, reduceCtorEq, Bool.false_eq_true, Int.reduceLT, Int.reduceLE, Int.reduceNeg] at hc) <;> (try simp only [zw] at hc)) <;> (try (exfalso; omega))))
    | (refine QS.pass ?_; first
        | refine QS.nil ?_
        | refine QS.go hA tabOk (by conv => lhs; cbv) ?_
        | ((first | refine QS.one rfl (One.elemM hA tabOk rfl rfl rfl rfl ?_ ?_) ?_ | refine QS.one rfl (One.clipM tabOk rfl rfl rfl rfl rfl ?_ ?_) ?_ | refine QS.one rfl (One.cut_hM hA tabOk rfl rfl rfl rfl ?_ ?_) ?_ | refine QS.one rfl (One.cut_lM hA tabOk rfl rfl rfl rfl ?_ ?_) ?_ | refine QS.one rfl (One.cut_lhM hA tabOk rfl rfl rfl rfl rfl ?_ ?_ ?_) ?_ | refine QS.one rfl (One.quoM hA rfl rfl rfl ?_) ?_ | refine QS.one rfl (One.remM hA rfl rfl rfl ?_) ?_ | refine QS.one rfl (One.bitsM hA rfl rfl rfl rfl) ?_ | refine QS.one rfl (One.shrM hA rfl rfl rfl ?_) ?_ | refine QS.one rfl (One.byteM hA tabOk rfl rfl rfl rfl rfl ?_ ?_) ?_ | refine QS.one rfl (One.concatM hA rfl rfl rfl ?_) ?_ | refine QS.one rfl (One.eqBoolM hA tabOk rfl rfl rfl rfl rfl) ?_ | refine QS.one rfl (One.neBoolM hA tabOk rfl rfl rfl rfl rfl) ?_ | refine QS.one rfl (One.lenOwnM hA tabOk rfl rfl rfl rfl) ?_ | refine QS.one rfl (One.elemOwnM hA tabOk rfl rfl rfl rfl rfl ?_ ?_) ?_ | refine QS.one rfl (One.loadRatM hA tabOk rfl rfl rfl rfl rfl rfl ?_) ?_ | refine QS.one rfl (One.appendM hA tabOk _ rfl rfl rfl rfl rfl rfl ?_ ?_) ?_ | refine QS.one rfl (One.appendMM hA tabOk rfl rfl rfl rfl rfl ?_ ?_) ?_ | refine QS.one rfl (One.appendOwnM hA tabOk _ rfl rfl rfl rfl rfl rfl rfl ?_ ?_) ?_ | refine QS.one rfl (One.appendOwnMM hA tabOk rfl rfl rfl rfl rfl rfl ?_ ?_) ?_ | refine QS.one rfl (One.appendOwn0 hA tabOk rfl rfl rfl rfl rfl rfl ?_ ?_) ?_ | refine QS.one rfl (One.storeRatM hA tabOk _ rfl rfl rfl rfl rfl rfl rfl rfl (fun _ => rfl) ?_) ?_ | refine QS.one rfl (One.makeM hA tabOk encI 0 rfl rfl rfl rfl rfl rfl rfl ?_ ?_ ?_) ?_ | refine QS.one rfl (One.build0 tabOk rfl rfl) ?_ | refine QS.one rfl (One.fieldRat tabOk rfl rfl rfl rfl (by decide) rfl rfl) ?_) <;> (first | refine QS.pass ?_ | (((try simp (disch := omega) only [zz hA, zb, reduceCtorEq, Bool.false_eq_true, Int.reduceLT, Int.reduceLE, Int.reduceNeg]) <;> (try simp only [zw])) <;> omega)))
        | refine QS.goG hA tabOk (by conv => lhs; cbv) ?_
        | refine QS.go1 hA tabOk (by conv => lhs; cbv) ?_
        | (refine QS.gs (by conv => lhs; cbv) ?_ ?_ <;> intro hc <;> (fail_if_success (with_reducible have h0 : true = true := hc)) <;> (fail_if_success (with_reducible have h0 : true = false := hc)) <;> (fail_if_success (with_reducible have h0 : false = true := hc)) <;> (fail_if_success (with_reducible have h0 : false = false := hc)) <;> rw [hc] <;> ((try simp (disch := omega) only [zz hA, zb, reduceCtorEq, Bool.false_eq_true, Int.reduceLT, Int.reduceLE, Int.reduceNeg] at hc) <;> (try simp only [zw] at hc)) <;> (try (exfalso; omega))))
    | refine Thn.exit ?_
    | refine Blk.here ?_
    | refine Blk.other (by decide) ?_
    | refine ⟨.inl rfl, _, RetOk.ev tabOk (by conv => lhs; cbv), ?_⟩
    | fail)
  · obtain ⟨m, rfl⟩ := h3
    have hc2 : m * 3 < n := by omega
    clear hc
    cases f with
    | zero => omega
    | succ f =>
      refine ⟨(f, 2 * (4 * m)), ?_, ?_, rfl, rfl, ?_, (by repeat' (first | exact subE.nil | refine subE.cons rfl ?_))⟩ <;> (try omega)
      repeat' (first | exact subE.nil | refine subE.cons rfl ?_ | refine subE.int rfl ?_ ?_ | refine subE.bool rfl ?_ ?_ | refine subE.str rfl ?_ ?_ | refine subE.sl rfl ?_ ?_)
      · refine ⟨?_, ?_, ⟨2 * m, by omega⟩, ?_, ?_⟩ <;> simp only [] <;> try omega
        rw [← h1, sizeGo, if_pos (by omega)]
      · (((try simp (disch := omega) only [zz hA, zb, reduceCtorEq, Bool.false_eq_true, Int.reduceLT, Int.reduceLE, Int.reduceNeg]) <;> (try simp only [zw])) <;> omega)
  · refine rPV_then (by conv => lhs; cbv) ?_
    ((try simp (disch := omega) only [zz hA, zb, reduceCtorEq, Bool.false_eq_true, Int.reduceLT, Int.reduceLE, Int.reduceNeg]) <;> (try simp only [zw]))
    rw [← h1, sizeGo_done _ _ _ (by omega)]
theorem round_3 (key : List Int) (size : Int) (p0 p1 p2 : AObj) : ACalls Try.prog 44 [.ic (.sl 1 false (hid A (List.map encI key))), .ic (.lit (.int .i64 size))] [p0, p1, p2] (fun x st' => x = .fn (.func 59) [] [.ptr 3 0, .ptr 4 0] ∧ st' = [p0, p1, p2, .var true 23 [.ic (.sl 1 false (hid A (List.map encI key)))], .var true 3 [.ic (.lit (.int .i64 size))]]) := by
  refine ACalls.of Try.func44 rfl (by kernel_rfl) rfl ?_
  repeat' (first
    | (refine AWp.pass ?_; first
        | refine AWp.seq ?_
        | refine AWp.block ?_
        | refine AWp.skip ?_
        | refine AWp.reg (by conv => lhs; cbv) ?_
        | refine AWp.cond_t rfl ?_
        | refine AWp.cond_f rfl ?_
        | (refine AWp.cond rfl ?_ ?_ <;> intro hc <;> (try rw [hc]) <;> ((try simp (disch := omega) only [zz hA, zb, reduceCtorEq, Bool.false_eq_true, Int.reduceLT, Int.reduceLE, Int.reduceNeg] at hc) <;> (try simp only [zw] at hc)) <;> (try (exfalso; omega)))
        | refine AWp.exit ?_
        | refine AWp.ret ⟨.inr rfl, _, RetOk.ev tabOk (by conv => lhs; cbv), ?_⟩
        | refine AWp.drawK 0 rfl (by decide +kernel) (by conv => lhs; cbv) (by conv => lhs; cbv) ?_
        | refine AWp.drawK 1 rfl (by decide +kernel) (by conv => lhs; cbv) (by conv => lhs; cbv) ?_
        | refine AWp.drawK 2 rfl (by decide +kernel) (by conv => lhs; cbv) (by conv => lhs; cbv) ?_
        | refine AWp.drawK 3 rfl (by decide +kernel) (by conv => lhs; cbv) (by conv => lhs; cbv) ?_
        | refine AWp.drawK 4 rfl (by decide +kernel) (by conv => lhs; cbv) (by conv => lhs; cbv) ?_
        | refine AWp.drawK 5 rfl (by decide +kernel) (by conv => lhs; cbv) (by conv => lhs; cbv) ?_
        | refine AWp.drawK 6 rfl (by decide +kernel) (by conv => lhs; cbv) (by conv => lhs; cbv) ?_
        | refine AWp.drawK 8 rfl (by decide +kernel) (by conv => lhs; cbv) (by conv => lhs; cbv) ?_)
    | (refine AOL.pass ?_; first
        | refine AOL.nil ?_
        | refine AOL.go hA tabOk (by conv => lhs; cbv) ?_
        | ((first | refine AOL.one (One.elemM hA tabOk rfl rfl rfl rfl ?_ ?_) ?_ | refine AOL.one (One.clipM tabOk rfl rfl rfl rfl rfl ?_ ?_) ?_ | refine AOL.one (One.cut_hM hA tabOk rfl rfl rfl rfl ?_ ?_) ?_ | refine AOL.one (One.cut_lM hA tabOk rfl rfl rfl rfl ?_ ?_) ?_ | refine AOL.one (One.cut_lhM hA tabOk rfl rfl rfl rfl rfl ?_ ?_ ?_) ?_ | refine AOL.one (One.quoM hA rfl rfl rfl ?_) ?_ | refine AOL.one (One.remM hA rfl rfl rfl ?_) ?_ | refine AOL.one (One.bitsM hA rfl rfl rfl rfl) ?_ | refine AOL.one (One.shrM hA rfl rfl rfl ?_) ?_ | refine AOL.one (One.byteM hA tabOk rfl rfl rfl rfl rfl ?_ ?_) ?_ | refine AOL.one (One.concatM hA rfl rfl rfl ?_) ?_ | refine AOL.one (One.eqBoolM hA tabOk rfl rfl rfl rfl rfl) ?_ | refine AOL.one (One.neBoolM hA tabOk rfl rfl rfl rfl rfl) ?_ | refine AOL.one (One.lenOwnM hA tabOk rfl rfl rfl rfl) ?_ | refine AOL.one (One.elemOwnM hA tabOk rfl rfl rfl rfl rfl ?_ ?_) ?_ | refine AOL.one (One.loadRatM hA tabOk rfl rfl rfl rfl rfl rfl ?_) ?_ | refine AOL.one (One.appendM hA tabOk _ rfl rfl rfl rfl rfl rfl ?_ ?_) ?_ | refine AOL.one (One.appendMM hA tabOk rfl rfl rfl rfl rfl ?_ ?_) ?_ | refine AOL.one (One.appendOwnM hA tabOk _ rfl rfl rfl rfl rfl rfl rfl ?_ ?_) ?_ | refine AOL.one (One.appendOwnMM hA tabOk rfl rfl rfl rfl rfl rfl ?_ ?_) ?_ | refine AOL.one (One.appendOwn0 hA tabOk rfl rfl rfl rfl rfl rfl ?_ ?_) ?_ | refine AOL.one (One.storeRatM hA tabOk _ rfl rfl rfl rfl rfl rfl rfl rfl (fun _ => rfl) ?_) ?_ | refine AOL.one (One.makeM hA tabOk encI 0 rfl rfl rfl rfl rfl rfl rfl ?_ ?_ ?_) ?_ | refine AOL.one (One.build0 tabOk rfl rfl) ?_ | refine AOL.one (One.fieldRat tabOk rfl rfl rfl rfl (by decide) rfl rfl) ?_) <;> (first | refine AOL.pass ?_ | (((try simp (disch := omega) only [zz hA, zb, reduceCtorEq, Bool.false_eq_true, Int.reduceLT, Int.reduceLE, Int.reduceNeg]) <;> (try simp only [zw])) <;> omega)))
        | refine AOL.goG hA tabOk (by conv => lhs; cbv) ?_
        | refine AOL.go1 hA tabOk (by conv => lhs; cbv) ?_
        | (refine AOL.gs (by conv => lhs; cbv) ?_ ?_ <;> intro hc <;> (fail_if_success (with_reducible have h0 : true = true := hc)) <;> (fail_if_success (with_reducible have h0 : true = false := hc)) <;> (fail_if_success (with_reducible have h0 : false = true := hc)) <;> (fail_if_success (with_reducible have h0 : false = false := hc)) <;> rw [hc] <;> ((try simp (disch := omega) only [zz hA, zb, reduceCtorEq, Bool.false_eq_true, Int.reduceLT, Int.reduceLE, Int.reduceNeg] at hc) <;> (try simp only [zw] at hc)) <;> (try (exfalso; omega))))
    | (refine QS.pass ?_; first
        | refine QS.nil ?_
        | refine QS.go hA tabOk (by conv => lhs; cbv) ?_
        | ((first | refine QS.one rfl (One.elemM hA tabOk rfl rfl rfl rfl ?_ ?_) ?_ | refine QS.one rfl (One.clipM tabOk rfl rfl rfl rfl rfl ?_ ?_) ?_ | refine QS.one rfl (One.cut_hM hA tabOk rfl rfl rfl rfl ?_ ?_) ?_ | refine QS.one rfl (One.cut_lM hA tabOk rfl rfl rfl rfl ?_ ?_) ?_ | refine QS.one rfl (One.cut_lhM hA tabOk rfl rfl rfl rfl rfl ?_ ?_ ?_) ?_ | refine QS.one rfl (One.quoM hA rfl rfl rfl ?_) ?_ | refine QS.one rfl (One.remM hA rfl rfl rfl ?_) ?_ | refine QS.one rfl (One.bitsM hA rfl rfl rfl rfl) ?_ | refine QS.one rfl (One.shrM hA rfl rfl rfl ?_) ?_ | refine QS.one rfl (One.byteM hA tabOk rfl rfl rfl rfl rfl ?_ ?_) ?_ | refine QS.one rfl (One.concatM hA rfl rfl rfl ?_) ?_ | refine QS.one rfl (One.eqBoolM hA tabOk rfl rfl rfl rfl rfl) ?_ | refine QS.one rfl (One.neBoolM hA tabOk rfl rfl rfl rfl rfl) ?_ | refine QS.one rfl (One.lenOwnM hA tabOk rfl rfl rfl rfl) ?_ | refine QS.one rfl (One.elemOwnM hA tabOk rfl rfl rfl rfl rfl ?_ ?_) ?_ | refine QS.one rfl (One.loadRatM hA tabOk rfl rfl rfl rfl rfl rfl ?_) ?_ | refine QS.one rfl (One.appendM hA tabOk _ rfl rfl rfl rfl rfl rfl ?_ ?_) ?_ | refine QS.one rfl (One.appendMM hA tabOk rfl rfl rfl rfl rfl ?_ ?_) ?_ | refine QS.one rfl (One.appendOwnM hA tabOk _ rfl rfl rfl rfl rfl rfl rfl ?_ ?_) ?_ | refine QS.one rfl (One.appendOwnMM hA tabOk rfl rfl rfl rfl rfl rfl ?_ ?_) ?_ | refine QS.one rfl (One.appendOwn0 hA tabOk rfl rfl rfl rfl rfl rfl ?_ ?_) ?_ | refine QS.one rfl (One.storeRatM hA tabOk _ rfl rfl rfl rfl rfl rfl rfl rfl (fun _ => rfl) ?_) ?_ | refine QS.one rfl (One.makeM hA tabOk encI 0 rfl rfl rfl rfl rfl rfl rfl ?_ ?_ ?_) ?_ | refine QS.one rfl (One.build0 tabOk rfl rfl) ?_ | refine QS.one rfl (One.fieldRat tabOk rfl rfl rfl rfl (by decide) rfl rfl) ?_) <;> (first | refine QS.pass ?_ | (((try simp (disch := omega) only [zz hA, zb, reduceCtorEq, Bool.false_eq_true, Int.reduceLT, Int.reduceLE, Int.reduceNeg]) <;> (try simp only [zw])) <;> omega)))
        | refine QS.goG hA tabOk (by conv => lhs; cbv) ?_
        | refine QS.go1 hA tabOk (by conv => lhs; cbv) ?_
        | (refine QS.gs (by conv => lhs; cbv) ?_ ?_ <;> intro hc <;> (fail_if_success (with_reducible have h0 : true = true := hc)) <;> (fail_if_success (with_reducible have h0 : true = false := hc)) <;> (fail_if_success (with_reducible have h0 : false = true := hc)) <;> (fail_if_success (with_reducible have h0 : false = false := hc)) <;> rw [hc] <;> ((try simp (disch := omega) only [zz hA, zb, reduceCtorEq, Bool.false_eq_true, Int.reduceLT, Int.reduceLE, Int.reduceNeg] at hc) <;> (try simp only [zw] at hc)) <;> (try (exfalso; omega))))
    | refine Thn.exit ?_
    | refine Blk.here ?_
    | refine Blk.other (by decide) ?_
    | refine ⟨.inl rfl, _, RetOk.ev tabOk (by conv => lhs; cbv), ?_⟩
    | fail)
  exact ⟨rfl, rfl⟩
theorem roundIter_3 (key : List Int) (size : Nat) (sz : Int) (hsz : sz = size) (J : Nat → List AObj → Prop) (Fin : List AObj → Prop)
    (hJ : ∀ k st, J k st → ∃ p0 p1 p2 c, st = [p0, p1, p2, .var true 23 [.ic (.sl 1 false (hid A (List.map encI key)))], .var true 3 [.ic (.lit (.int .i64 sz))], c])
    (hy : ∀ k st z, k < size → J k st → z = slotM key size k → AYield Try.prog 5 [.ic (.lit (.int .i64 z))] st (fun x st' => x = .ic (Bo true) ∧ J (k + 1) st' ∨ x = .ic (Bo false) ∧ Fin st'))
    (hs : 0 < size) (hs2 : size ≤ 100000000) (hk : key.length ≤ 1000000) (st : List AObj) (h0 : J 0 st) : ACalls Try.prog 59 [.yl 5, .ptr 3 0, .ptr 4 0] st (fun x st' => x = .tup [] ∧ (J size st' ∨ Fin st')) := by
  obtain ⟨p0, p1, p2, c, rfl⟩ := hJ _ _ h0
  refine ACalls.of Try.func59 rfl (by kernel_rfl) rfl ?_
  have hr := hashM_range key
  repeat' (first
    | (refine AWp.pass ?_; first
        | refine AWp.seq ?_
        | refine AWp.block ?_
        | refine AWp.skip ?_
        | refine AWp.reg (by conv => lhs; cbv) ?_
        | refine AWp.cond_t rfl ?_
        | refine AWp.cond_f rfl ?_
        | (refine AWp.cond rfl ?_ ?_ <;> intro hc <;> (try rw [hc]) <;> ((try simp (disch := omega) only [zz hA, zb, reduceCtorEq, Bool.false_eq_true, Int.reduceLT, Int.reduceLE, Int.reduceNeg] at hc) <;> (try simp only [zw] at hc)) <;> (try (exfalso; omega)))
        | refine AWp.exit ?_
        | refine AWp.ret ⟨.inr rfl, _, RetOk.ev tabOk (by conv => lhs; cbv), ?_⟩
        | refine AWp.drawK 0 rfl (by decide +kernel) (by conv => lhs; cbv) (by conv => lhs; cbv) ?_
        | refine AWp.drawK 1 rfl (by decide +kernel) (by conv => lhs; cbv) (by conv => lhs; cbv) ?_
        | refine AWp.drawK 2 rfl (by decide +kernel) (by conv => lhs; cbv) (by conv => lhs; cbv) ?_
        | refine AWp.drawK 3 rfl (by decide +kernel) (by conv => lhs; cbv) (by conv => lhs; cbv) ?_
        | refine AWp.drawK 4 rfl (by decide +kernel) (by conv => lhs; cbv) (by conv => lhs; cbv) ?_
        | refine AWp.drawK 5 rfl (by decide +kernel) (by conv => lhs; cbv) (by conv => lhs; cbv) ?_
        | refine AWp.drawK 6 rfl (by decide +kernel) (by conv => lhs; cbv) (by conv => lhs; cbv) ?_
        | refine AWp.drawK 8 rfl (by decide +kernel) (by conv => lhs; cbv) (by conv => lhs; cbv) ?_)
    | (refine AOL.pass ?_; first
        | refine AOL.nil ?_
        | refine AOL.go hA tabOk (by conv => lhs; cbv) ?_
        | refine AOL.one (One.call false rfl rfl rfl (hash_c hA key hk) rfl) ?_
        | refine AOL.one (One.call true rfl rfl rfl (hash_c hA key hk) rfl) ?_
        | ((first | refine AOL.one (One.elemM hA tabOk rfl rfl rfl rfl ?_ ?_) ?_ | refine AOL.one (One.clipM tabOk rfl rfl rfl rfl rfl ?_ ?_) ?_ | refine AOL.one (One.cut_hM hA tabOk rfl rfl rfl rfl ?_ ?_) ?_ | refine AOL.one (One.cut_lM hA tabOk rfl rfl rfl rfl ?_ ?_) ?_ | refine AOL.one (One.cut_lhM hA tabOk rfl rfl rfl rfl rfl ?_ ?_ ?_) ?_ | refine AOL.one (One.quoM hA rfl rfl rfl ?_) ?_ | refine AOL.one (One.remM hA rfl rfl rfl ?_) ?_ | refine AOL.one (One.bitsM hA rfl rfl rfl rfl) ?_ | refine AOL.one (One.shrM hA rfl rfl rfl ?_) ?_ | refine AOL.one (One.byteM hA tabOk rfl rfl rfl rfl rfl ?_ ?_) ?_ | refine AOL.one (One.concatM hA rfl rfl rfl ?_) ?_ | refine AOL.one (One.eqBoolM hA tabOk rfl rfl rfl rfl rfl) ?_ | refine AOL.one (One.neBoolM hA tabOk rfl rfl rfl rfl rfl) ?_ | refine AOL.one (One.lenOwnM hA tabOk rfl rfl rfl rfl) ?_ | refine AOL.one (One.elemOwnM hA tabOk rfl rfl rfl rfl rfl ?_ ?_) ?_ | refine AOL.one (One.loadRatM hA tabOk rfl rfl rfl rfl rfl rfl ?_) ?_ | refine AOL.one (One.appendM hA tabOk _ rfl rfl rfl rfl rfl rfl ?_ ?_) ?_ | refine AOL.one (One.appendMM hA tabOk rfl rfl rfl rfl rfl ?_ ?_) ?_ | refine AOL.one (One.appendOwnM hA tabOk _ rfl rfl rfl rfl rfl rfl rfl ?_ ?_) ?_ | refine AOL.one (One.appendOwnMM hA tabOk rfl rfl rfl rfl rfl rfl ?_ ?_) ?_ | refine AOL.one (One.appendOwn0 hA tabOk rfl rfl rfl rfl rfl rfl ?_ ?_) ?_ | refine AOL.one (One.storeRatM hA tabOk _ rfl rfl rfl rfl rfl rfl rfl rfl (fun _ => rfl) ?_) ?_ | refine AOL.one (One.makeM hA tabOk encI 0 rfl rfl rfl rfl rfl rfl rfl ?_ ?_ ?_) ?_ | refine AOL.one (One.build0 tabOk rfl rfl) ?_ | refine AOL.one (One.fieldRat tabOk rfl rfl rfl rfl (by decide) rfl rfl) ?_) <;> (first | refine AOL.pass ?_ | (((try simp (disch := omega) only [zz hA, zb, reduceCtorEq, Bool.false_eq_true, Int.reduceLT, Int.reduceLE, Int.reduceNeg]) <;> (try simp only [zw])) <;> omega)))
        | refine AOL.goG hA tabOk (by conv => lhs; cbv) ?_
        | refine AOL.go1 hA tabOk (by conv => lhs; cbv) ?_
        | (refine AOL.gs (by conv => lhs; cbv) ?_ ?_ <;> intro hc <;> (fail_if_success (with_reducible have h0 : true = true := hc)) <;> (fail_if_success (with_reducible have h0 : true = false := hc)) <;> (fail_if_success (with_reducible have h0 : false = true := hc)) <;> (fail_if_success (with_reducible have h0 : false = false := hc)) <;> rw [hc] <;> ((try simp (disch := omega) only [zz hA, zb, reduceCtorEq, Bool.false_eq_true, Int.reduceLT, Int.reduceLE, Int.reduceNeg] at hc) <;> (try simp only [zw] at hc)) <;> (try (exfalso; omega))))
    | (refine QS.pass ?_; first
        | refine QS.nil ?_
        | refine QS.go hA tabOk (by conv => lhs; cbv) ?_
        | refine QS.one rfl (One.call false rfl rfl rfl (hash_c hA key hk) rfl) ?_
        | ((first | refine QS.one rfl (One.elemM hA tabOk rfl rfl rfl rfl ?_ ?_) ?_ | refine QS.one rfl (One.clipM tabOk rfl rfl rfl rfl rfl ?_ ?_) ?_ | refine QS.one rfl (One.cut_hM hA tabOk rfl rfl rfl rfl ?_ ?_) ?_ | refine QS.one rfl (One.cut_lM hA tabOk rfl rfl rfl rfl ?_ ?_) ?_ | refine QS.one rfl (One.cut_lhM hA tabOk rfl rfl rfl rfl rfl ?_ ?_ ?_) ?_ | refine QS.one rfl (One.quoM hA rfl rfl rfl ?_) ?_ | refine QS.one rfl (One.remM hA rfl rfl rfl ?_) ?_ | refine QS.one rfl (One.bitsM hA rfl rfl rfl rfl) ?_ | refine QS.one rfl (One.shrM hA rfl rfl rfl ?_) ?_ | refine QS.one rfl (One.byteM hA tabOk rfl rfl rfl rfl rfl ?_ ?_) ?_ | refine QS.one rfl (One.concatM hA rfl rfl rfl ?_) ?_ | refine QS.one rfl (One.eqBoolM hA tabOk rfl rfl rfl rfl rfl) ?_ | refine QS.one rfl (One.neBoolM hA tabOk rfl rfl rfl rfl rfl) ?_ | refine QS.one rfl (One.lenOwnM hA tabOk rfl rfl rfl rfl) ?_ | refine QS.one rfl (One.elemOwnM hA tabOk rfl rfl rfl rfl rfl ?_ ?_) ?_ | refine QS.one rfl (One.loadRatM hA tabOk rfl rfl rfl rfl rfl rfl ?_) ?_ | refine QS.one rfl (One.appendM hA tabOk _ rfl rfl rfl rfl rfl rfl ?_ ?_) ?_ | refine QS.one rfl (One.appendMM hA tabOk rfl rfl rfl rfl rfl ?_ ?_) ?_ | refine QS.one rfl (One.appendOwnM hA tabOk _ rfl rfl rfl rfl rfl rfl rfl ?_ ?_) ?_ | refine QS.one rfl (One.appendOwnMM hA tabOk rfl rfl rfl rfl rfl rfl ?_ ?_) ?_ | refine QS.one rfl (One.appendOwn0 hA tabOk rfl rfl rfl rfl rfl rfl ?_ ?_) ?_ | refine QS.one rfl (One.storeRatM hA tabOk _ rfl rfl rfl rfl rfl rfl rfl rfl (fun _ => rfl) ?_) ?_ | refine QS.one rfl (One.makeM hA tabOk encI 0 rfl rfl rfl rfl rfl rfl rfl ?_ ?_ ?_) ?_ | refine QS.one rfl (One.build0 tabOk rfl rfl) ?_ | refine QS.one rfl (One.fieldRat tabOk rfl rfl rfl rfl (by decide) rfl rfl) ?_) <;> (first | refine QS.pass ?_ | (((try simp (disch := omega) only [zz hA, zb, reduceCtorEq, Bool.false_eq_true, Int.reduceLT, Int.reduceLE, Int.reduceNeg]) <;> (try simp only [zw])) <;> omega)))
        | refine QS.goG hA tabOk (by conv => lhs; cbv) ?_
        | refine QS.go1 hA tabOk (by conv => lhs; cbv) ?_
        | (refine QS.gs (by conv => lhs; cbv) ?_ ?_ <;> intro hc <;> (fail_if_success (with_reducible have h0 : true = true := hc)) <;> (fail_if_success (with_reducible have h0 : true = false := hc)) <;> (fail_if_success (with_reducible have h0 : false = true := hc)) <;> (fail_if_success (with_reducible have h0 : false = false := hc)) <;> rw [hc] <;> ((try simp (disch := omega) only [zz hA, zb, reduceCtorEq, Bool.false_eq_true, Int.reduceLT, Int.reduceLE, Int.reduceNeg] at hc) <;> (try simp only [zw] at hc)) <;> (try (exfalso; omega))))
    | refine Thn.exit ?_
    | refine Blk.here ?_
    | refine Blk.other (by decide) ?_
    | refine ⟨.inl rfl, _, RetOk.ev tabOk (by conv => lhs; cbv), ?_⟩
    | fail)
  refine AWp.loopU (fun x : Nat × List AObj => [(12, .ic (.lit (.int .i64 (hid A (cN x.1)))))]) (fun x => x.2) (fun x => size - x.1) (fun x => x.1 ≤ size ∧ J x.1 x.2) (0, _) (by conv => lhs; cbv) ⟨by simp, h0⟩ (by (repeat' (first | exact subE.nil | refine subE.cons rfl ?_ | refine subE.int rfl ?_ ?_ | refine subE.bool rfl ?_ ?_ | refine subE.str rfl ?_ ?_ | refine subE.sl rfl ?_ ?_)) <;> simp [hA, real, hid, cN]) rfl ?_
  rintro ⟨k, st⟩ ⟨hk, hj⟩
  simp only [] at hk hj ⊢
  obtain ⟨p0, p1, p2, c, rfl⟩ := hJ _ _ hj
  repeat' (first
    | (refine AWp.pass ?_; first
        | refine AWp.seq ?_
        | refine AWp.block ?_
        | refine AWp.skip ?_
        | refine AWp.reg (by conv => lhs; cbv) ?_
        | refine AWp.cond_t rfl ?_
        | refine AWp.cond_f rfl ?_
        | (refine AWp.cond rfl ?_ ?_ <;> intro hc <;> (try rw [hc]) <;> ((try simp (disch := omega) only [zz hA, zb, reduceCtorEq, Bool.false_eq_true, Int.reduceLT, Int.reduceLE, Int.reduceNeg] at hc) <;> (try simp only [zw] at hc)) <;> (try (exfalso; omega)))
        | refine AWp.exit ?_
        | refine AWp.ret ⟨.inr rfl, _, RetOk.ev tabOk (by conv => lhs; cbv), ?_⟩
        | refine AWp.drawK 0 rfl (by decide +kernel) (by conv => lhs; cbv) (by conv => lhs; cbv) ?_
        | refine AWp.drawK 1 rfl (by decide +kernel) (by conv => lhs; cbv) (by conv => lhs; cbv) ?_
        | refine AWp.drawK 2 rfl (by decide +kernel) (by conv => lhs; cbv) (by conv => lhs; cbv) ?_
        | refine AWp.drawK 3 rfl (by decide +kernel) (by conv => lhs; cbv) (by conv => lhs; cbv) ?_
        | refine AWp.drawK 4 rfl (by decide +kernel) (by conv => lhs; cbv) (by conv => lhs; cbv) ?_
        | refine AWp.drawK 5 rfl (by decide +kernel) (by conv => lhs; cbv) (by conv => lhs; cbv) ?_
        | refine AWp.drawK 6 rfl (by decide +kernel) (by conv => lhs; cbv) (by conv => lhs; cbv) ?_
        | refine AWp.drawK 8 rfl (by decide +kernel) (by conv => lhs; cbv) (by conv => lhs; cbv) ?_)
    | (refine AOL.pass ?_; first
        | refine AOL.nil ?_
        | refine AOL.go hA tabOk (by conv => lhs; cbv) ?_
        | ((first | refine AOL.one (One.elemM hA tabOk rfl rfl rfl rfl ?_ ?_) ?_ | refine AOL.one (One.clipM tabOk rfl rfl rfl rfl rfl ?_ ?_) ?_ | refine AOL.one (One.cut_hM hA tabOk rfl rfl rfl rfl ?_ ?_) ?_ | refine AOL.one (One.cut_lM hA tabOk rfl rfl rfl rfl ?_ ?_) ?_ | refine AOL.one (One.cut_lhM hA tabOk rfl rfl rfl rfl rfl ?_ ?_ ?_) ?_ | refine AOL.one (One.quoM hA rfl rfl rfl ?_) ?_ | refine AOL.one (One.remM hA rfl rfl rfl ?_) ?_ | refine AOL.one (One.bitsM hA rfl rfl rfl rfl) ?_ | refine AOL.one (One.shrM hA rfl rfl rfl ?_) ?_ | refine AOL.one (One.byteM hA tabOk rfl rfl rfl rfl rfl ?_ ?_) ?_ | refine AOL.one (One.concatM hA rfl rfl rfl ?_) ?_ | refine AOL.one (One.eqBoolM hA tabOk rfl rfl rfl rfl rfl) ?_ | refine AOL.one (One.neBoolM hA tabOk rfl rfl rfl rfl rfl) ?_ | refine AOL.one (One.lenOwnM hA tabOk rfl rfl rfl rfl) ?_ | refine AOL.one (One.elemOwnM hA tabOk rfl rfl rfl rfl rfl ?_ ?_) ?_ | refine AOL.one (One.loadRatM hA tabOk rfl rfl rfl rfl rfl rfl ?_) ?_ | refine AOL.one (One.appendM hA tabOk _ rfl rfl rfl rfl rfl rfl ?_ ?_) ?_ | refine AOL.one (One.appendMM hA tabOk rfl rfl rfl rfl rfl ?_ ?_) ?_ | refine AOL.one (One.appendOwnM hA tabOk _ rfl rfl rfl rfl rfl rfl rfl ?_ ?_) ?_ | refine AOL.one (One.appendOwnMM hA tabOk rfl rfl rfl rfl rfl rfl ?_ ?_) ?_ | refine AOL.one (One.appendOwn0 hA tabOk rfl rfl rfl rfl rfl rfl ?_ ?_) ?_ | refine AOL.one (One.storeRatM hA tabOk _ rfl rfl rfl rfl rfl rfl rfl rfl (fun _ => rfl) ?_) ?_ | refine AOL.one (One.makeM hA tabOk encI 0 rfl rfl rfl rfl rfl rfl rfl ?_ ?_ ?_) ?_ | refine AOL.one (One.build0 tabOk rfl rfl) ?_ | refine AOL.one (One.fieldRat tabOk rfl rfl rfl rfl (by decide) rfl rfl) ?_) <;> (first | refine AOL.pass ?_ | (((try simp (disch := omega) only [zz hA, zb, reduceCtorEq, Bool.false_eq_true, Int.reduceLT, Int.reduceLE, Int.reduceNeg]) <;> (try simp only [zw])) <;> omega)))
        | refine AOL.goG hA tabOk (by conv => lhs; cbv) ?_
        | refine AOL.go1 hA tabOk (by conv => lhs; cbv) ?_
        | (refine AOL.gs (by conv => lhs; cbv) ?_ ?_ <;> intro hc <;> (fail_if_success (with_reducible have h0 : true = true := hc)) <;> (fail_if_success (with_reducible have h0 : true = false := hc)) <;> (fail_if_success (with_reducible have h0 : false = true := hc)) <;> (fail_if_success (with_reducible have h0 : false = false := hc)) <;> rw [hc] <;> ((try simp (disch := omega) only [zz hA, zb, reduceCtorEq, Bool.false_eq_true, Int.reduceLT, Int.reduceLE, Int.reduceNeg] at hc) <;> (try simp only [zw] at hc)) <;> (try (exfalso; omega))))
    | (refine QS.pass ?_; first
        | refine QS.nil ?_
        | refine QS.go hA tabOk (by conv => lhs; cbv) ?_
        | ((first | refine QS.one rfl (One.elemM hA tabOk rfl rfl rfl rfl ?_ ?_) ?_ | refine QS.one rfl (One.clipM tabOk rfl rfl rfl rfl rfl ?_ ?_) ?_ | refine QS.one rfl (One.cut_hM hA tabOk rfl rfl rfl rfl ?_ ?_) ?_ | refine QS.one rfl (One.cut_lM hA tabOk rfl rfl rfl rfl ?_ ?_) ?_ | refine QS.one rfl (One.cut_lhM hA tabOk rfl rfl rfl rfl rfl ?_ ?_ ?_) ?_ | refine QS.one rfl (One.quoM hA rfl rfl rfl ?_) ?_ | refine QS.one rfl (One.remM hA rfl rfl rfl ?_) ?_ | refine QS.one rfl (One.bitsM hA rfl rfl rfl rfl) ?_ | refine QS.one rfl (One.shrM hA rfl rfl rfl ?_) ?_ | refine QS.one rfl (One.byteM hA tabOk rfl rfl rfl rfl rfl ?_ ?_) ?_ | refine QS.one rfl (One.concatM hA rfl rfl rfl ?_) ?_ | refine QS.one rfl (One.eqBoolM hA tabOk rfl rfl rfl rfl rfl) ?_ | refine QS.one rfl (One.neBoolM hA tabOk rfl rfl rfl rfl rfl) ?_ | refine QS.one rfl (One.lenOwnM hA tabOk rfl rfl rfl rfl) ?_ | refine QS.one rfl (One.elemOwnM hA tabOk rfl rfl rfl rfl rfl ?_ ?_) ?_ | refine QS.one rfl (One.loadRatM hA tabOk rfl rfl rfl rfl rfl rfl ?_) ?_ | refine QS.one rfl (One.appendM hA tabOk _ rfl rfl rfl rfl rfl rfl ?_ ?_) ?_ | refine QS.one rfl (One.appendMM hA tabOk rfl rfl rfl rfl rfl ?_ ?_) ?_ | refine QS.one rfl (One.appendOwnM hA tabOk _ rfl rfl rfl rfl rfl rfl rfl ?_ ?_) ?_ | refine QS.one rfl (One.appendOwnMM hA tabOk rfl rfl rfl rfl rfl rfl ?_ ?_) ?_ | refine QS.one rfl (One.appendOwn0 hA tabOk rfl rfl rfl rfl rfl rfl ?_ ?_) ?_ | refine QS.one rfl (One.storeRatM hA tabOk _ rfl rfl rfl rfl rfl rfl rfl rfl (fun _ => rfl) ?_) ?_ | refine QS.one rfl (One.makeM hA tabOk encI 0 rfl rfl rfl rfl rfl rfl rfl ?_ ?_ ?_) ?_ | refine QS.one rfl (One.build0 tabOk rfl rfl) ?_ | refine QS.one rfl (One.fieldRat tabOk rfl rfl rfl rfl (by decide) rfl rfl) ?_) <;> (first | refine QS.pass ?_ | (((try simp (disch := omega) only [zz hA, zb, reduceCtorEq, Bool.false_eq_true, Int.reduceLT, Int.reduceLE, Int.reduceNeg]) <;> (try simp only [zw])) <;> omega)))
        | refine QS.goG hA tabOk (by conv => lhs; cbv) ?_
        | refine QS.go1 hA tabOk (by conv => lhs; cbv) ?_
        | (refine QS.gs (by conv => lhs; cbv) ?_ ?_ <;> intro hc <;> (fail_if_success (with_reducible have h0 : true = true := hc)) <;> (fail_if_success (with_reducible have h0 : true = false := hc)) <;> (fail_if_success (with_reducible have h0 : false = true := hc)) <;> (fail_if_success (with_reducible have h0 : false = false := hc)) <;> rw [hc] <;> ((try simp (disch := omega) only [zz hA, zb, reduceCtorEq, Bool.false_eq_true, Int.reduceLT, Int.reduceLE, Int.reduceNeg] at hc) <;> (try simp only [zw] at hc)) <;> (try (exfalso; omega))))
    | refine Thn.exit ?_
    | refine Blk.here ?_
    | refine Blk.other (by decide) ?_
    | refine ⟨.inl rfl, _, RetOk.ev tabOk (by conv => lhs; cbv), ?_⟩
    | fail)
  · refine AOL.ycall rfl rfl (hy k _ _ (by omega) hj ?_) ?_
    · have e1 : IntKind.i64.wrap (hashM key) = hashM key := wok (by omega) (by omega)
      have e2 := Int.emod_nonneg (hashM key) (show (size : Int) ≠ 0 by omega)
      have e3 := Int.emod_lt_of_pos (hashM key) (show 0 < (size : Int) by omega)
      simp only [hA, real, hid, cN, e1, slotM, hsz, Int.tmod_eq_emod_of_nonneg hr.1]
      rw [wok (by omega) (by omega), Int.tmod_eq_emod_of_nonneg (by omega)]
    rintro y st' (⟨rfl, hj'⟩ | ⟨rfl, hf⟩)
    · obtain ⟨p0, p1, p2, c, rfl⟩ := hJ _ _ hj'
      repeat' (first
        | (refine AWp.pass ?_; first
            | refine AWp.seq ?_
            | refine AWp.block ?_
            | refine AWp.skip ?_
            | refine AWp.reg (by conv => lhs; cbv) ?_
            | refine AWp.cond_t rfl ?_
            | refine AWp.cond_f rfl ?_
            | (refine AWp.cond rfl ?_ ?_ <;> intro hc <;> (try rw [hc]) <;> ((try simp (disch := omega) only [zz hA, zb, reduceCtorEq, Bool.false_eq_true, Int.reduceLT, Int.reduceLE, Int.reduceNeg] at hc) <;> (try simp only [zw] at hc)) <;> (try (exfalso; omega)))
            | refine AWp.exit ?_
            | refine AWp.ret ⟨.inr rfl, _, RetOk.ev tabOk (by conv => lhs; cbv), ?_⟩
            | refine AWp.drawK 0 rfl (by decide +kernel) (by conv => lhs; cbv) (by conv => lhs; cbv) ?_
            | refine AWp.drawK 1 rfl (by decide +kernel) (by conv => lhs; cbv) (by conv => lhs; cbv) ?_
            | refine AWp.drawK 2 rfl (by decide +kernel) (by conv => lhs; cbv) (by conv => lhs; cbv) ?_
            | refine AWp.drawK 3 rfl (by decide +kernel) (by conv => lhs; cbv) (by conv => lhs; cbv) ?_
            | refine AWp.drawK 4 rfl (by decide +kernel) (by conv => lhs; cbv) (by conv => lhs; cbv) ?_
            | refine AWp.drawK 5 rfl (by decide +kernel) (by conv => lhs; cbv) (by conv => lhs; cbv) ?_
            | refine AWp.drawK 6 rfl (by decide +kernel) (by conv => lhs; cbv) (by conv => lhs; cbv) ?_
            | refine AWp.drawK 8 rfl (by decide +kernel) (by conv => lhs; cbv) (by conv => lhs; cbv) ?_)
        | (refine AOL.pass ?_; first
            | refine AOL.nil ?_
            | refine AOL.go hA tabOk (by conv => lhs; cbv) ?_
            | ((first | refine AOL.one (One.elemM hA tabOk rfl rfl rfl rfl ?_ ?_) ?_ | refine AOL.one (One.clipM tabOk rfl rfl rfl rfl rfl ?_ ?_) ?_ | refine AOL.one (One.cut_hM hA tabOk rfl rfl rfl rfl ?_ ?_) ?_ | refine AOL.one (One.cut_lM hA tabOk rfl rfl rfl rfl ?_ ?_) ?_ | refine AOL.one (One.cut_lhM hA tabOk rfl rfl rfl rfl rfl ?_ ?_ ?_) ?_ | refine AOL.one (One.quoM hA rfl rfl rfl ?_) ?_ | refine AOL.one (One.remM hA rfl rfl rfl ?_) ?_ | refine AOL.one (One.bitsM hA rfl rfl rfl rfl) ?_ | refine AOL.one (One.shrM hA rfl rfl rfl ?_) ?_ | refine AOL.one (One.byteM hA tabOk rfl rfl rfl rfl rfl ?_ ?_) ?_ | refine AOL.one (One.concatM hA rfl rfl rfl ?_) ?_ | refine AOL.one (One.eqBoolM hA tabOk rfl rfl rfl rfl rfl) ?_ | refine AOL.one (One.neBoolM hA tabOk rfl rfl rfl rfl rfl) ?_ | refine AOL.one (One.lenOwnM hA tabOk rfl rfl rfl rfl) ?_ | refine AOL.one (One.elemOwnM hA tabOk rfl rfl rfl rfl rfl ?_ ?_) ?_ | refine AOL.one (One.loadRatM hA tabOk rfl rfl rfl rfl rfl rfl ?_) ?_ | refine AOL.one (One.appendM hA tabOk _ rfl rfl rfl rfl rfl rfl ?_ ?_) ?_ | refine AOL.one (One.appendMM hA tabOk rfl rfl rfl rfl rfl ?_ ?_) ?_ | refine AOL.one (One.appendOwnM hA tabOk _ rfl rfl rfl rfl rfl rfl rfl ?_ ?_) ?_ | refine AOL.one (One.appendOwnMM hA tabOk rfl rfl rfl rfl rfl rfl ?_ ?_) ?_ | refine AOL.one (One.appendOwn0 hA tabOk rfl rfl rfl rfl rfl rfl ?_ ?_) ?_ | refine AOL.one (One.storeRatM hA tabOk _ rfl rfl rfl rfl rfl rfl rfl rfl (fun _ => rfl) ?_) ?_ | refine AOL.one (One.makeM hA tabOk encI 0 rfl rfl rfl rfl rfl rfl rfl ?_ ?_ ?_) ?_ | refine AOL.one (One.build0 tabOk rfl rfl) ?_ | refine AOL.one (One.fieldRat tabOk rfl rfl rfl rfl (by decide) rfl rfl) ?_) <;> (first | refine AOL.pass ?_ | (((try simp (disch := omega) only [zz hA, zb, reduceCtorEq, Bool.false_eq_true, Int.reduceLT, Int.reduceLE, Int.reduceNeg]) <;> (try simp only [zw])) <;> omega)))
            | refine AOL.goG hA tabOk (by conv => lhs; cbv) ?_
            | refine AOL.go1 hA tabOk (by conv => lhs; cbv) ?_
            | (refine AOL.gs (by conv => lhs; cbv) ?_ ?_ <;> intro hc <;> (fail_if_success (with_reducible have h0 : true = true := hc)) <;> (fail_if_success (with_reducible have h0 : true = false := hc)) <;> (fail_if_success (with_reducible have h0 : false = true := hc)) <;> (fail_if_success (with_reducible have h0 : false = false := hc)) <;> rw [hc] <;> ((try simp (disch := omega) only [zz hA, zb, reduceCtorEq, Bool.false_eq_true, Int.reduceLT, Int.reduceLE, Int.reduceNeg] at hc) <;> (try simp only [zw] at hc)) <;> (try (exfalso; omega))))
        | (refine QS.pass ?_; first
            | refine QS.nil ?_
            | refine QS.go hA tabOk (by conv => lhs; cbv) ?_
            | ((first | refine QS.one rfl (One.elemM hA tabOk rfl rfl rfl rfl ?_ ?_) ?_ | refine QS.one rfl (One.clipM tabOk rfl rfl rfl rfl rfl ?_ ?_) ?_ | refine QS.one rfl (One.cut_hM hA tabOk rfl rfl rfl rfl ?_ ?_) ?_ | refine QS.one rfl (One.cut_lM hA tabOk rfl rfl rfl rfl ?_ ?_) ?_ | refine QS.one rfl (One.cut_lhM hA tabOk rfl rfl rfl rfl rfl ?_ ?_ ?_) ?_ | refine QS.one rfl (One.quoM hA rfl rfl rfl ?_) ?_ | refine QS.one rfl (One.remM hA rfl rfl rfl ?_) ?_ | refine QS.one rfl (One.bitsM hA rfl rfl rfl rfl) ?_ | refine QS.one rfl (One.shrM hA rfl rfl rfl ?_) ?_ | refine QS.one rfl (One.byteM hA tabOk rfl rfl rfl rfl rfl ?_ ?_) ?_ | refine QS.one rfl (One.concatM hA rfl rfl rfl ?_) ?_ | refine QS.one rfl (One.eqBoolM hA tabOk rfl rfl rfl rfl rfl) ?_ | refine QS.one rfl (One.neBoolM hA tabOk rfl rfl rfl rfl rfl) ?_ | refine QS.one rfl (One.lenOwnM hA tabOk rfl rfl rfl rfl) ?_ | refine QS.one rfl (One.elemOwnM hA tabOk rfl rfl rfl rfl rfl ?_ ?_) ?_ | refine QS.one rfl (One.loadRatM hA tabOk rfl rfl rfl rfl rfl rfl ?_) ?_ | refine QS.one rfl (One.appendM hA tabOk _ rfl rfl rfl rfl rfl rfl ?_ ?_) ?_ | refine QS.one rfl (One.appendMM hA tabOk rfl rfl rfl rfl rfl ?_ ?_) ?_ | refine QS.one rfl (One.appendOwnM hA tabOk _ rfl rfl rfl rfl rfl rfl rfl ?_ ?_) ?_ | refine QS.one rfl (One.appendOwnMM hA tabOk rfl rfl rfl rfl rfl rfl ?_ ?_) ?_ | refine QS.one rfl (One.appendOwn0 hA tabOk rfl rfl rfl rfl rfl rfl ?_ ?_) ?_ | refine QS.one rfl (One.storeRatM hA tabOk _ rfl rfl rfl rfl rfl rfl rfl rfl (fun _ => rfl) ?_) ?_ | refine QS.one rfl (One.makeM hA tabOk encI 0 rfl rfl rfl rfl rfl rfl rfl ?_ ?_ ?_) ?_ | refine QS.one rfl (One.build0 tabOk rfl rfl) ?_ | refine QS.one rfl (One.fieldRat tabOk rfl rfl rfl rfl (by decide) rfl rfl) ?_) <;> (first | refine QS.pass ?_ | (((try simp (disch := omega) only [zz hA, zb, reduceCtorEq, Bool.false_eq_true, Int.reduceLT, Int.reduceLE, Int.reduceNeg]) <;> (try simp only [zw])) <;> omega)))
            | refine QS.goG hA tabOk (by conv => lhs; cbv) ?_
            | refine QS.go1 hA tabOk (by conv => lhs; cbv) ?_
            | (refine QS.gs (by conv => lhs; cbv) ?_ ?_ <;> intro hc <;> (fail_if_success (with_reducible have h0 : true = true := hc)) <;> (fail_if_success (with_reducible have h0 : true = false := hc)) <;> (fail_if_success (with_reducible have h0 : false = true := hc)) <;> (fail_if_success (with_reducible have h0 : false = false := hc)) <;> rw [hc] <;> ((try simp (disch := omega) only [zz hA, zb, reduceCtorEq, Bool.false_eq_true, Int.reduceLT, Int.reduceLE, Int.reduceNeg] at hc) <;> (try simp only [zw] at hc)) <;> (try (exfalso; omega))))
        | refine Thn.exit ?_
        | refine Blk.here ?_
        | refine Blk.other (by decide) ?_
        | refine ⟨.inl rfl, _, RetOk.ev tabOk (by conv => lhs; cbv), ?_⟩
        | fail)
      refine ⟨(k + 1, _), ⟨?_, hj'⟩, ?_, rfl, rfl, ?_, (by repeat' (first | exact subE.nil | refine subE.cons rfl ?_))⟩
      · simp only []; omega
      · simp only []; omega
      · exact .int rfl (by (((try simp (disch := omega) only [zz hA, zb, reduceCtorEq, Bool.false_eq_true, Int.reduceLT, Int.reduceLE, Int.reduceNeg]) <;> (try simp only [zw])) <;> omega)) .nil
    · repeat' (first
        | (refine AWp.pass ?_; first
            | refine AWp.seq ?_
            | refine AWp.block ?_
            | refine AWp.skip ?_
            | refine AWp.reg (by conv => lhs; cbv) ?_
            | refine AWp.cond_t rfl ?_
            | refine AWp.cond_f rfl ?_
            | (refine AWp.cond rfl ?_ ?_ <;> intro hc <;> (try rw [hc]) <;> ((try simp (disch := omega) only [zz hA, zb, reduceCtorEq, Bool.false_eq_true, Int.reduceLT, Int.reduceLE, Int.reduceNeg] at hc) <;> (try simp only [zw] at hc)) <;> (try (exfalso; omega)))
            | refine AWp.exit ?_
            | refine AWp.ret ⟨.inr rfl, _, RetOk.ev tabOk (by conv => lhs; cbv), ?_⟩
            | refine AWp.drawK 0 rfl (by decide +kernel) (by conv => lhs; cbv) (by conv => lhs; cbv) ?_
            | refine AWp.drawK 1 rfl (by decide +kernel) (by conv => lhs; cbv) (by conv => lhs; cbv) ?_
            | refine AWp.drawK 2 rfl (by decide +kernel) (by conv => lhs; cbv) (by conv => lhs; cbv) ?_
            | refine AWp.drawK 3 rfl (by decide +kernel) (by conv => lhs; cbv) (by conv => lhs; cbv) ?_
            | refine AWp.drawK 4 rfl (by decide +kernel) (by conv => lhs; cbv) (by conv => lhs; cbv) ?_
            | refine AWp.drawK 5 rfl (by decide +kernel) (by conv => lhs; cbv) (by conv => lhs; cbv) ?_
            | refine AWp.drawK 6 rfl (by decide +kernel) (by conv => lhs; cbv) (by conv => lhs; cbv) ?_
            | refine AWp.drawK 8 rfl (by decide +kernel) (by conv => lhs; cbv) (by conv => lhs; cbv) ?_)
        | (refine AOL.pass ?_; first
            | refine AOL.nil ?_
            | refine AOL.go hA tabOk (by conv => lhs; cbv) ?_
            | ((first | refine AOL.one (One.elemM hA tabOk rfl rfl rfl rfl ?_ ?_) ?_ | refine AOL.one (One.clipM tabOk rfl rfl rfl rfl rfl ?_ ?_) ?_ | refine AOL.one (One.cut_hM hA tabOk rfl rfl rfl rfl ?_ ?_) ?_ | refine AOL.one (One.cut_lM hA tabOk rfl rfl rfl rfl ?_ ?_) ?_ | refine AOL.one (One.cut_lhM hA tabOk rfl rfl rfl rfl rfl ?_ ?_ ?_) ?_ | refine AOL.one (One.quoM hA rfl rfl rfl ?_) ?_ | refine AOL.one (One.remM hA rfl rfl rfl ?_) ?_ | refine AOL.one (One.bitsM hA rfl rfl rfl rfl) ?_ | refine AOL.one (One.shrM hA rfl rfl rfl ?_) ?_ | refine AOL.one (One.byteM hA tabOk rfl rfl rfl rfl rfl ?_ ?_) ?_ | refine AOL.one (One.concatM hA rfl rfl rfl ?_) ?_ | refine AOL.one (One.eqBoolM hA tabOk rfl rfl rfl rfl rfl) ?_ | refine AOL.one (One.neBoolM hA tabOk rfl rfl rfl rfl rfl) ?_ | refine AOL.one (One.lenOwnM hA tabOk rfl rfl rfl rfl) ?_ | refine AOL.one (One.elemOwnM hA tabOk rfl rfl rfl rfl rfl ?_ ?_) ?_ | refine AOL.one (One.loadRatM hA tabOk rfl rfl rfl rfl rfl rfl ?_) ?_ | refine AOL.one (One.appendM hA tabOk _ rfl rfl rfl rfl rfl rfl ?_ ?_) ?_ | refine AOL.one (One.appendMM hA tabOk rfl rfl rfl rfl rfl ?_ ?_) ?_ | refine AOL.one (One.appendOwnM hA tabOk _ rfl rfl rfl rfl rfl rfl rfl ?_ ?_) ?_ | refine AOL.one (One.appendOwnMM hA tabOk rfl rfl rfl rfl rfl rfl ?_ ?_) ?_ | refine AOL.one (One.appendOwn0 hA tabOk rfl rfl rfl rfl rfl rfl ?_ ?_) ?_ | refine AOL.one (One.storeRatM hA tabOk _ rfl rfl rfl rfl rfl rfl rfl rfl (fun _ => rfl) ?_) ?_ | refine AOL.one (One.makeM hA tabOk encI 0 rfl rfl rfl rfl rfl rfl rfl ?_ ?_ ?_) ?_ | refine AOL.one (One.build0 tabOk rfl rfl) ?_ | refine AOL.one (One.fieldRat tabOk rfl rfl rfl rfl (by decide) rfl rfl) ?_) <;> (first | refine AOL.pass ?_ | (((try simp (disch := omega) only [zz hA, zb, reduceCtorEq, Bool.false_eq_true, Int.reduceLT, Int.reduceLE, Int.reduceNeg]) <;> (try simp only [zw])) <;> omega)))
            | refine AOL.goG hA tabOk (by conv => lhs; cbv) ?_
            | refine AOL.go1 hA tabOk (by conv => lhs; cbv) ?_
            | (refine AOL.gs (by conv => lhs; cbv) ?_ ?_ <;> intro hc <;> (fail_if_success (with_reducible have h0 : true = true := hc)) <;> (fail_if_success (with_reducible have h0 : true = false := hc)) <;> (fail_if_success (with_reducible have h0 : false = true := hc)) <;> (fail_if_success (with_reducible have h0 : false = false := hc)) <;> rw [hc] <;> ((try simp (disch := omega) only [zz hA, zb, reduceCtorEq, Bool.false_eq_true, Int.reduceLT, Int.reduceLE, Int.reduceNeg] at hc) <;> (try simp only [zw] at hc)) <;> (try (exfalso; omega))))
        | (refine QS.pass ?_; first
            | refine QS.nil ?_
            | refine QS.go hA tabOk (by conv => lhs; cbv) ?_
            | ((first | refine QS.one rfl (One.elemM hA tabOk rfl rfl rfl rfl ?_ ?_) ?_ | refine QS.one rfl (One.clipM tabOk rfl rfl rfl rfl rfl ?_ ?_) ?_ | refine QS.one rfl (One.cut_hM hA tabOk rfl rfl rfl rfl ?_ ?_) ?_ | refine QS.one rfl (One.cut_lM hA tabOk rfl rfl rfl rfl ?_ ?_) ?_ | refine QS.one rfl (One.cut_lhM hA tabOk rfl rfl rfl rfl rfl ?_ ?_ ?_) ?_ | refine QS.one rfl (One.quoM hA rfl rfl rfl ?_) ?_ | refine QS.one rfl (One.remM hA rfl rfl rfl ?_) ?_ | refine QS.one rfl (One.bitsM hA rfl rfl rfl rfl) ?_ | refine QS.one rfl (One.shrM hA rfl rfl rfl ?_) ?_ | refine QS.one rfl (One.byteM hA tabOk rfl rfl rfl rfl rfl ?_ ?_) ?_ | refine QS.one rfl (One.concatM hA rfl rfl rfl ?_) ?_ | refine QS.one rfl (One.eqBoolM hA tabOk rfl rfl rfl rfl rfl) ?_ | refine QS.one rfl (One.neBoolM hA tabOk rfl rfl rfl rfl rfl) ?_ | refine QS.one rfl (One.lenOwnM hA tabOk rfl rfl rfl rfl) ?_ | refine QS.one rfl (One.elemOwnM hA tabOk rfl rfl rfl rfl rfl ?_ ?_) ?_ | refine QS.one rfl (One.loadRatM hA tabOk rfl rfl rfl rfl rfl rfl ?_) ?_ | refine QS.one rfl (One.appendM hA tabOk _ rfl rfl rfl rfl rfl rfl ?_ ?_) ?_ | refine QS.one rfl (One.appendMM hA tabOk rfl rfl rfl rfl rfl ?_ ?_) ?_ | refine QS.one rfl (One.appendOwnM hA tabOk _ rfl rfl rfl rfl rfl rfl rfl ?_ ?_) ?_ | refine QS.one rfl (One.appendOwnMM hA tabOk rfl rfl rfl rfl rfl rfl ?_ ?_) ?_ | refine QS.one rfl (One.appendOwn0 hA tabOk rfl rfl rfl rfl rfl rfl ?_ ?_) ?_ | refine QS.one rfl (One.storeRatM hA tabOk _ rfl rfl rfl rfl rfl rfl rfl rfl (fun _ => rfl) ?_) ?_ | refine QS.one rfl (One.makeM hA tabOk encI 0 rfl rfl rfl rfl rfl rfl rfl ?_ ?_ ?_) ?_ | refine QS.one rfl (One.build0 tabOk rfl rfl) ?_ | refine QS.one rfl (One.fieldRat tabOk rfl rfl rfl rfl (by decide) rfl rfl) ?_) <;> (first | refine QS.pass ?_ | (((try simp (disch := omega) only [zz hA, zb, reduceCtorEq, Bool.false_eq_true, Int.reduceLT, Int.reduceLE, Int.reduceNeg]) <;> (try simp only [zw])) <;> omega)))
            | refine QS.goG hA tabOk (by conv => lhs; cbv) ?_
            | refine QS.go1 hA tabOk (by conv => lhs; cbv) ?_
            | (refine QS.gs (by conv => lhs; cbv) ?_ ?_ <;> intro hc <;> (fail_if_success (with_reducible have h0 : true = true := hc)) <;> (fail_if_success (with_reducible have h0 : true = false := hc)) <;> (fail_if_success (with_reducible have h0 : false = true := hc)) <;> (fail_if_success (with_reducible have h0 : false = false := hc)) <;> rw [hc] <;> ((try simp (disch := omega) only [zz hA, zb, reduceCtorEq, Bool.false_eq_true, Int.reduceLT, Int.reduceLE, Int.reduceNeg] at hc) <;> (try simp only [zw] at hc)) <;> (try (exfalso; omega))))
        | refine Thn.exit ?_
        | refine Blk.here ?_
        | refine Blk.other (by decide) ?_
        | refine ⟨.inl rfl, _, RetOk.ev tabOk (by conv => lhs; cbv), ?_⟩
        | fail)
      exact ⟨rfl, .inr hf⟩
  · obtain rfl : k = size := by omega
    exact ⟨rfl, .inl hj⟩

end Go.Proofs.Ytpphdaphbkepfaa.Aw
