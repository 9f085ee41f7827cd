/- Texts of the proof, put together: the abstract walk, contracts of the functions that the statement reaches, plain laws, part 5 of 5. -/
import Derived.Test.YtpphdaphbkepfaaKd
import Derived.Test.YtpphdaphbkepfaaKb
/- Contracts for package hash, part 7: the document's answer. -/
set_option linter.unusedVariables false
set_option linter.unusedSimpArgs false
namespace Go.Proofs.Ytpphdaphbkepfaa.Aw
open Go Go.RowKit
set_option maxRecDepth 10000
attribute [local irreducible] AWp AOL QS One AOLg QSg NX QX TRg TX AllO Fin3
theorem slotN_succ (key : List Int) (size k : Nat) (hk : k + 1 < size) : slotN key size (k + 1) = if slotN key size k + 1 = size then 0 else slotN key size k + 1 := by
  obtain ⟨a, ha, h⟩ := slotN_eq key size k (by omega)
  rw [h _ hk, h _ (by omega)]
  split <;> split <;> split <;> omega
theorem slotN_zero (key : List Int) (size : Nat) (h : 0 < size) : ((slotN key size 0 : Nat) : Int) = hashM key % size := by
  have h0 := Int.emod_nonneg (hashM key) (show (size : Int) ≠ 0 by omega)
  have h1 := Int.emod_lt_of_pos (hashM key) (show 0 < (size : Int) by omega)
  unfold slotN slotM
  rw [Int.emod_eq_of_lt (by omega) (by omega)]
  omega
theorem hbyte_div (n : Int) (j : Nat) : n % 18446744073709551616 / 256 ^ (j + 1) = n % 18446744073709551616 / 256 ^ j / 256 := by
  rw [Int.pow_succ, Int.ediv_ediv_of_nonneg (by exact Int.le_of_lt (Int.pow_pos (by decide)))]
variable {A : Ar} (hA : A = real)
include hA
theorem refSize_c (n : Nat) (z : Int) (hz : z = n) (hn : n ≤ 10000000) : PureCalls Try.prog 57 [IP z] (IP (hid A (cN (sizeM n)))) := by
  refine PureCalls.of Try.func57 rfl (by kernel_rfl) rfl ?_
  try first | refine AOLg.of [] ?_ | refine QSg.of [] ?_
  repeat' (first
    | (refine AWp.pass ?_; first
        | refine AWp.seq ?_
        | refine AWp.block ?_
        | refine AWp.skip ?_
        | refine AWp.regG [] (by conv => lhs; cbv) ?_
        | refine AWp.cond_t rfl ?_
        | refine AWp.cond_f rfl ?_
        | (refine AWp.cond rfl ?_ ?_ <;> intro hc <;> (try rw [hc]) <;> ((try simp only [zn] at hc) <;> (try simp (disch := omega) only [zz hA, zb, zy, reduceCtorEq, Bool.false_eq_true, Int.reduceLT, Int.reduceLE, Int.reduceNeg] at hc) <;> (try simp only [zw] at hc)) <;> (try (exfalso; omega)))
        | refine AWp.exit ?_
        | refine AWp.ret ⟨.inr rfl, _, RetOk.ev tabOk (by conv => lhs; cbv), ?_⟩)
    | (refine AOLg.pass ?_; refine AOLg.nx hA tabOk (by conv => lhs; cbv) ?_; first
        | refine NX.done ?_
        | refine NX.gt ?_
        | refine NX.gf ?_
        | (refine NX.gs ?_ ?_ <;> intro hc <;> rw [hc] <;> ((try simp only [zn] at hc) <;> (try simp (disch := omega) only [zz hA, zb, zy, reduceCtorEq, Bool.false_eq_true, Int.reduceLT, Int.reduceLE, Int.reduceNeg] at hc) <;> (try simp only [zw] at hc)) <;> (try (exfalso; omega)))
        | ((first | (refine NX.k 1 ?_; first | refine NX.one (One.elemM hA tabOk rfl rfl rfl rfl ?_ ?_) ?_ | refine NX.one (One.elemOwnM hA tabOk rfl rfl rfl rfl rfl ?_ ?_) ?_) | (refine NX.k 2 ?_; first | refine NX.one (One.clipM tabOk rfl rfl rfl rfl rfl ?_ ?_) ?_ | refine NX.one (One.cut_hM hA tabOk rfl rfl rfl rfl ?_ ?_) ?_ | refine NX.one (One.cut_lM hA tabOk rfl rfl rfl rfl ?_ ?_) ?_ | refine NX.one (One.cut_lhM hA tabOk rfl rfl rfl rfl rfl ?_ ?_ ?_) ?_) | (refine NX.k 3 ?_; first | refine NX.one (One.quoM hA rfl rfl rfl ?_) ?_) | (refine NX.k 4 ?_; first | refine NX.one (One.remM hA rfl rfl rfl ?_) ?_) | (refine NX.k 5 ?_; first | refine NX.one (One.shrM hA rfl rfl rfl ?_) ?_) | (refine NX.k 6 ?_; first | refine NX.one (One.bitsM hA rfl rfl rfl rfl) ?_) | (refine NX.k 7 ?_; first | refine NX.one (One.concatM hA rfl rfl rfl ?_) ?_) | (refine NX.k 8 ?_; first | refine NX.one (One.eqBoolM hA tabOk rfl rfl rfl rfl rfl) ?_) | (refine NX.k 9 ?_; first | refine NX.one (One.neBoolM hA tabOk rfl rfl rfl rfl rfl) ?_) | (refine NX.k 10 ?_; first | refine NX.one (One.lenOwnM hA tabOk rfl rfl rfl rfl) ?_) | (refine NX.k 11 ?_; first | refine NX.one (One.appendM hA tabOk _ rfl rfl rfl rfl rfl rfl ?_ ?_) ?_ | refine NX.one (One.appendMM hA tabOk rfl rfl rfl rfl rfl ?_ ?_) ?_ | refine NX.one (One.appendOwnM hA tabOk _ rfl rfl rfl rfl rfl rfl rfl ?_ ?_) ?_ | refine NX.one (One.appendOwnMM hA tabOk rfl rfl rfl rfl rfl rfl ?_ ?_) ?_ | refine NX.one (One.appendOwn0 hA tabOk rfl rfl rfl rfl rfl rfl ?_ ?_) ?_) | (refine NX.k 13 ?_; first | refine NX.one (One.byteM hA tabOk rfl rfl rfl rfl rfl ?_ ?_) ?_) | (refine NX.k 14 ?_; first | refine NX.one (One.loadRatM hA tabOk rfl rfl rfl rfl rfl rfl ?_) ?_) | (refine NX.k 15 ?_; first | refine NX.one (One.storeRatM hA tabOk _ rfl rfl rfl rfl rfl rfl rfl rfl (fun _ => rfl) ?_) ?_) | (refine NX.k 16 ?_; first | refine NX.one (One.makeM hA tabOk encI 0 rfl rfl rfl rfl rfl rfl rfl ?_ ?_ ?_) ?_) | (refine NX.k 17 ?_; first | refine NX.one (One.build0 tabOk rfl rfl) ?_) | (refine NX.k 18 ?_; first | refine NX.one (One.fieldRat tabOk rfl rfl rfl rfl (by decide) rfl rfl) ?_) | (refine NX.k 23 ?_; first | refine NX.one (One.lookupI (q := .i64) hA rfl rfl rfl (by conv => lhs; cbv) (by decide +kernel)) ?_ | refine NX.one (One.lookupI (q := .u8) hA rfl rfl rfl (by conv => lhs; cbv) (by decide +kernel)) ?_ | refine NX.one (One.lookupI1 (q := .i64) hA rfl rfl rfl (by conv => lhs; cbv) (by decide +kernel)) ?_ | refine NX.one (One.lookupI1 (q := .u8) hA rfl rfl rfl (by conv => lhs; cbv) (by decide +kernel)) ?_) | (refine NX.k 26 ?_; first | refine NX.mapLit .i64 (by conv => lhs; cbv) (by decide +kernel) ?_ | refine NX.mapLit .u8 (by conv => lhs; cbv) (by decide +kernel) ?_)) <;> (first | refine AOLg.pass ?_ | (((try simp only [zn]) <;> (try simp (disch := omega) only [zz hA, zb, zy, reduceCtorEq, Bool.false_eq_true, Int.reduceLT, Int.reduceLE, Int.reduceNeg]) <;> (try simp only [zw])) <;> omega)))
        | refine NX.raw ?_)
    | refine Thn.exit ?_
    | refine Blk.here ?_
    | refine Blk.other (by decide) ?_
    | refine ⟨.inl rfl, _, RetOk.ev tabOk (by conv => lhs; cbv), ?_⟩
    | fail)
  refine AWp.loopU (fun x : Nat × Nat => [(3, .ic (.lit (.int .i64 (hid A (cN x.2)))))]) (fun _ => []) (fun x => x.1) (fun x => sizeGo x.1 x.2 n = sizeM n ∧ 4 * n ≤ 3 * x.2 + x.1 ∧ x.2 ≤ 8 * n + 8 ∧ 8 ≤ x.2) (4 * n, 8) (by conv => lhs; cbv) ⟨rfl, by simp, by simp, by simp⟩ (by (repeat' (first | exact subE.nil | refine subE.cons rfl ?_ | refine subE.int rfl ?_ ?_ | refine subE.bool rfl ?_ ?_ | refine subE.str rfl ?_ ?_ | refine subE.sl rfl ?_ ?_)) <;> simp [hA, real, hid, cN]) rfl ?_
  rintro ⟨f, s⟩ ⟨h1, h2, h4, h5⟩
  simp only [] at h1 h2 h4 h5 ⊢
  try first | refine AOLg.of [] ?_ | refine QSg.of [] ?_
  repeat' (first
    | (refine AWp.pass ?_; first
        | refine AWp.seq ?_
        | refine AWp.block ?_
        | refine AWp.skip ?_
        | refine AWp.regG [] (by conv => lhs; cbv) ?_
        | refine AWp.cond_t rfl ?_
        | refine AWp.cond_f rfl ?_
        | (refine AWp.cond rfl ?_ ?_ <;> intro hc <;> (try rw [hc]) <;> ((try simp only [zn] at hc) <;> (try simp (disch := omega) only [zz hA, zb, zy, reduceCtorEq, Bool.false_eq_true, Int.reduceLT, Int.reduceLE, Int.reduceNeg] at hc) <;> (try simp only [zw] at hc)) <;> (try (exfalso; omega)))
        | refine AWp.exit ?_
        | refine AWp.ret ⟨.inr rfl, _, RetOk.ev tabOk (by conv => lhs; cbv), ?_⟩)
    | (refine AOLg.pass ?_; refine AOLg.nx hA tabOk (by conv => lhs; cbv) ?_; first
        | refine NX.done ?_
        | refine NX.gt ?_
        | refine NX.gf ?_
        | (refine NX.gs ?_ ?_ <;> intro hc <;> rw [hc] <;> ((try simp only [zn] at hc) <;> (try simp (disch := omega) only [zz hA, zb, zy, reduceCtorEq, Bool.false_eq_true, Int.reduceLT, Int.reduceLE, Int.reduceNeg] at hc) <;> (try simp only [zw] at hc)) <;> (try (exfalso; omega)))
        | ((first | (refine NX.k 1 ?_; first | refine NX.one (One.elemM hA tabOk rfl rfl rfl rfl ?_ ?_) ?_ | refine NX.one (One.elemOwnM hA tabOk rfl rfl rfl rfl rfl ?_ ?_) ?_) | (refine NX.k 2 ?_; first | refine NX.one (One.clipM tabOk rfl rfl rfl rfl rfl ?_ ?_) ?_ | refine NX.one (One.cut_hM hA tabOk rfl rfl rfl rfl ?_ ?_) ?_ | refine NX.one (One.cut_lM hA tabOk rfl rfl rfl rfl ?_ ?_) ?_ | refine NX.one (One.cut_lhM hA tabOk rfl rfl rfl rfl rfl ?_ ?_ ?_) ?_) | (refine NX.k 3 ?_; first | refine NX.one (One.quoM hA rfl rfl rfl ?_) ?_) | (refine NX.k 4 ?_; first | refine NX.one (One.remM hA rfl rfl rfl ?_) ?_) | (refine NX.k 5 ?_; first | refine NX.one (One.shrM hA rfl rfl rfl ?_) ?_) | (refine NX.k 6 ?_; first | refine NX.one (One.bitsM hA rfl rfl rfl rfl) ?_) | (refine NX.k 7 ?_; first | refine NX.one (One.concatM hA rfl rfl rfl ?_) ?_) | (refine NX.k 8 ?_; first | refine NX.one (One.eqBoolM hA tabOk rfl rfl rfl rfl rfl) ?_) | (refine NX.k 9 ?_; first | refine NX.one (One.neBoolM hA tabOk rfl rfl rfl rfl rfl) ?_) | (refine NX.k 10 ?_; first | refine NX.one (One.lenOwnM hA tabOk rfl rfl rfl rfl) ?_) | (refine NX.k 11 ?_; first | refine NX.one (One.appendM hA tabOk _ rfl rfl rfl rfl rfl rfl ?_ ?_) ?_ | refine NX.one (One.appendMM hA tabOk rfl rfl rfl rfl rfl ?_ ?_) ?_ | refine NX.one (One.appendOwnM hA tabOk _ rfl rfl rfl rfl rfl rfl rfl ?_ ?_) ?_ | refine NX.one (One.appendOwnMM hA tabOk rfl rfl rfl rfl rfl rfl ?_ ?_) ?_ | refine NX.one (One.appendOwn0 hA tabOk rfl rfl rfl rfl rfl rfl ?_ ?_) ?_) | (refine NX.k 13 ?_; first | refine NX.one (One.byteM hA tabOk rfl rfl rfl rfl rfl ?_ ?_) ?_) | (refine NX.k 14 ?_; first | refine NX.one (One.loadRatM hA tabOk rfl rfl rfl rfl rfl rfl ?_) ?_) | (refine NX.k 15 ?_; first | refine NX.one (One.storeRatM hA tabOk _ rfl rfl rfl rfl rfl rfl rfl rfl (fun _ => rfl) ?_) ?_) | (refine NX.k 16 ?_; first | refine NX.one (One.makeM hA tabOk encI 0 rfl rfl rfl rfl rfl rfl rfl ?_ ?_ ?_) ?_) | (refine NX.k 17 ?_; first | refine NX.one (One.build0 tabOk rfl rfl) ?_) | (refine NX.k 18 ?_; first | refine NX.one (One.fieldRat tabOk rfl rfl rfl rfl (by decide) rfl rfl) ?_) | (refine NX.k 23 ?_; first | refine NX.one (One.lookupI (q := .i64) hA rfl rfl rfl (by conv => lhs; cbv) (by decide +kernel)) ?_ | refine NX.one (One.lookupI (q := .u8) hA rfl rfl rfl (by conv => lhs; cbv) (by decide +kernel)) ?_ | refine NX.one (One.lookupI1 (q := .i64) hA rfl rfl rfl (by conv => lhs; cbv) (by decide +kernel)) ?_ | refine NX.one (One.lookupI1 (q := .u8) hA rfl rfl rfl (by conv => lhs; cbv) (by decide +kernel)) ?_) | (refine NX.k 26 ?_; first | refine NX.mapLit .i64 (by conv => lhs; cbv) (by decide +kernel) ?_ | refine NX.mapLit .u8 (by conv => lhs; cbv) (by decide +kernel) ?_)) <;> (first | refine AOLg.pass ?_ | (((try simp only [zn]) <;> (try simp (disch := omega) only [zz hA, zb, zy, reduceCtorEq, Bool.false_eq_true, Int.reduceLT, Int.reduceLE, Int.reduceNeg]) <;> (try simp only [zw])) <;> omega)))
        | refine NX.raw ?_)
    | refine Thn.exit ?_
    | refine Blk.here ?_
    | refine Blk.other (by decide) ?_
    | refine ⟨.inl rfl, _, RetOk.ev tabOk (by conv => lhs; cbv), ?_⟩
    | fail)
  · cases f with
    | zero => omega
    | succ f =>
      refine ⟨(f, 2 * s), ?_, ?_, rfl, rfl, ?_, (by repeat' (first | exact subE.nil | refine subE.cons rfl ?_))⟩ <;> (try omega)
      repeat' (first | exact subE.nil | refine subE.cons rfl ?_ | refine subE.int rfl ?_ ?_ | refine subE.bool rfl ?_ ?_ | refine subE.str rfl ?_ ?_ | refine subE.sl rfl ?_ ?_)
      · refine ⟨?_, ?_, ?_, ?_⟩ <;> simp only [] <;> try omega
        rw [← h1, sizeGo, if_pos (by omega)]
      · (((try simp only [zn]) <;> (try simp (disch := omega) only [zz hA, zb, zy, reduceCtorEq, Bool.false_eq_true, Int.reduceLT, Int.reduceLE, Int.reduceNeg]) <;> (try simp only [zw])) <;> omega)
  · refine rPV_then (by conv => lhs; cbv) ?_
    ((try simp only [zn]) <;> (try simp (disch := omega) only [zz hA, zb, zy, reduceCtorEq, Bool.false_eq_true, Int.reduceLT, Int.reduceLE, Int.reduceNeg]) <;> (try simp only [zw]))
    rw [← h1, sizeGo_done _ _ _ (by omega)]
theorem refHash_c (key : List Int) : PureCalls Try.prog 58 [intsP A key] (.c (.lit (.int .u32 (hid A (hashM key))))) := by
  refine PureCalls.lens (by kernel_rfl) fun hb => ?_
  have hl := lens_ints hA (hb (intsP A key) (by simp))
  clear hb
  simp only [maxLen] at hl
  refine PureCalls.of Try.func58 rfl (by kernel_rfl) rfl ?_
  try first | refine AOLg.of [] ?_ | refine QSg.of [] ?_
  repeat' (first
    | (refine AWp.pass ?_; first
        | refine AWp.seq ?_
        | refine AWp.block ?_
        | refine AWp.skip ?_
        | refine AWp.regG [] (by conv => lhs; cbv) ?_
        | refine AWp.cond_t rfl ?_
        | refine AWp.cond_f rfl ?_
        | (refine AWp.cond rfl ?_ ?_ <;> intro hc <;> (try rw [hc]) <;> ((try simp only [zn] at hc) <;> (try simp (disch := omega) only [zz hA, zb, zy, reduceCtorEq, Bool.false_eq_true, Int.reduceLT, Int.reduceLE, Int.reduceNeg] at hc) <;> (try simp only [zw] at hc)) <;> (try (exfalso; omega)))
        | refine AWp.exit ?_
        | refine AWp.ret ⟨.inr rfl, _, RetOk.ev tabOk (by conv => lhs; cbv), ?_⟩)
    | (refine AOLg.pass ?_; refine AOLg.nx hA tabOk (by conv => lhs; cbv) ?_; first
        | refine NX.done ?_
        | refine NX.gt ?_
        | refine NX.gf ?_
        | (refine NX.gs ?_ ?_ <;> intro hc <;> rw [hc] <;> ((try simp only [zn] at hc) <;> (try simp (disch := omega) only [zz hA, zb, zy, reduceCtorEq, Bool.false_eq_true, Int.reduceLT, Int.reduceLE, Int.reduceNeg] at hc) <;> (try simp only [zw] at hc)) <;> (try (exfalso; omega)))
        | ((first | (refine NX.k 1 ?_; first | refine NX.one (One.elemM hA tabOk rfl rfl rfl rfl ?_ ?_) ?_ | refine NX.one (One.elemOwnM hA tabOk rfl rfl rfl rfl rfl ?_ ?_) ?_) | (refine NX.k 2 ?_; first | refine NX.one (One.clipM tabOk rfl rfl rfl rfl rfl ?_ ?_) ?_ | refine NX.one (One.cut_hM hA tabOk rfl rfl rfl rfl ?_ ?_) ?_ | refine NX.one (One.cut_lM hA tabOk rfl rfl rfl rfl ?_ ?_) ?_ | refine NX.one (One.cut_lhM hA tabOk rfl rfl rfl rfl rfl ?_ ?_ ?_) ?_) | (refine NX.k 3 ?_; first | refine NX.one (One.quoM hA rfl rfl rfl ?_) ?_) | (refine NX.k 4 ?_; first | refine NX.one (One.remM hA rfl rfl rfl ?_) ?_) | (refine NX.k 5 ?_; first | refine NX.one (One.shrM hA rfl rfl rfl ?_) ?_) | (refine NX.k 6 ?_; first | refine NX.one (One.bitsM hA rfl rfl rfl rfl) ?_) | (refine NX.k 7 ?_; first | refine NX.one (One.concatM hA rfl rfl rfl ?_) ?_) | (refine NX.k 8 ?_; first | refine NX.one (One.eqBoolM hA tabOk rfl rfl rfl rfl rfl) ?_) | (refine NX.k 9 ?_; first | refine NX.one (One.neBoolM hA tabOk rfl rfl rfl rfl rfl) ?_) | (refine NX.k 10 ?_; first | refine NX.one (One.lenOwnM hA tabOk rfl rfl rfl rfl) ?_) | (refine NX.k 11 ?_; first | refine NX.one (One.appendM hA tabOk _ rfl rfl rfl rfl rfl rfl ?_ ?_) ?_ | refine NX.one (One.appendMM hA tabOk rfl rfl rfl rfl rfl ?_ ?_) ?_ | refine NX.one (One.appendOwnM hA tabOk _ rfl rfl rfl rfl rfl rfl rfl ?_ ?_) ?_ | refine NX.one (One.appendOwnMM hA tabOk rfl rfl rfl rfl rfl rfl ?_ ?_) ?_ | refine NX.one (One.appendOwn0 hA tabOk rfl rfl rfl rfl rfl rfl ?_ ?_) ?_) | (refine NX.k 13 ?_; first | refine NX.one (One.byteM hA tabOk rfl rfl rfl rfl rfl ?_ ?_) ?_) | (refine NX.k 14 ?_; first | refine NX.one (One.loadRatM hA tabOk rfl rfl rfl rfl rfl rfl ?_) ?_) | (refine NX.k 15 ?_; first | refine NX.one (One.storeRatM hA tabOk _ rfl rfl rfl rfl rfl rfl rfl rfl (fun _ => rfl) ?_) ?_) | (refine NX.k 16 ?_; first | refine NX.one (One.makeM hA tabOk encI 0 rfl rfl rfl rfl rfl rfl rfl ?_ ?_ ?_) ?_) | (refine NX.k 17 ?_; first | refine NX.one (One.build0 tabOk rfl rfl) ?_) | (refine NX.k 18 ?_; first | refine NX.one (One.fieldRat tabOk rfl rfl rfl rfl (by decide) rfl rfl) ?_) | (refine NX.k 23 ?_; first | refine NX.one (One.lookupI (q := .i64) hA rfl rfl rfl (by conv => lhs; cbv) (by decide +kernel)) ?_ | refine NX.one (One.lookupI (q := .u8) hA rfl rfl rfl (by conv => lhs; cbv) (by decide +kernel)) ?_ | refine NX.one (One.lookupI1 (q := .i64) hA rfl rfl rfl (by conv => lhs; cbv) (by decide +kernel)) ?_ | refine NX.one (One.lookupI1 (q := .u8) hA rfl rfl rfl (by conv => lhs; cbv) (by decide +kernel)) ?_) | (refine NX.k 26 ?_; first | refine NX.mapLit .i64 (by conv => lhs; cbv) (by decide +kernel) ?_ | refine NX.mapLit .u8 (by conv => lhs; cbv) (by decide +kernel) ?_)) <;> (first | refine AOLg.pass ?_ | (((try simp only [zn]) <;> (try simp (disch := omega) only [zz hA, zb, zy, reduceCtorEq, Bool.false_eq_true, Int.reduceLT, Int.reduceLE, Int.reduceNeg]) <;> (try simp only [zw])) <;> omega)))
        | refine NX.raw ?_)
    | refine Thn.exit ?_
    | refine Blk.here ?_
    | refine Blk.other (by decide) ?_
    | refine ⟨.inl rfl, _, RetOk.ev tabOk (by conv => lhs; cbv), ?_⟩
    | fail)
  refine AWp.loopU (fun k : Nat => [(3, .ic (.lit (.int .u32 (hid A (hashM (key.take k)))))), (4, .ic (.lit (.int .i64 (hid A (cN k)))))]) (fun _ => []) (fun k => key.length - k) (fun k => k ≤ key.length) 0 (by conv => lhs; cbv) (by omega) (.int rfl (by simp [hid, hA, real, hashM]) (.int rfl (by simp [hid, hA, real, cN]) .nil)) rfl ?_
  intro k hk
  try first | refine AOLg.of [] ?_ | refine QSg.of [] ?_
  repeat' (first
    | (refine AWp.pass ?_; first
        | refine AWp.seq ?_
        | refine AWp.block ?_
        | refine AWp.skip ?_
        | refine AWp.regG [] (by conv => lhs; cbv) ?_
        | refine AWp.cond_t rfl ?_
        | refine AWp.cond_f rfl ?_
        | (refine AWp.cond rfl ?_ ?_ <;> intro hc <;> (try rw [hc]) <;> ((try simp only [zn] at hc) <;> (try simp (disch := omega) only [zz hA, zb, zy, reduceCtorEq, Bool.false_eq_true, Int.reduceLT, Int.reduceLE, Int.reduceNeg] at hc) <;> (try simp only [zw] at hc)) <;> (try (exfalso; omega)))
        | refine AWp.exit ?_
        | refine AWp.ret ⟨.inr rfl, _, RetOk.ev tabOk (by conv => lhs; cbv), ?_⟩)
    | (refine AOLg.pass ?_; refine AOLg.nx hA tabOk (by conv => lhs; cbv) ?_; first
        | refine NX.done ?_
        | refine NX.gt ?_
        | refine NX.gf ?_
        | (refine NX.gs ?_ ?_ <;> intro hc <;> rw [hc] <;> ((try simp only [zn] at hc) <;> (try simp (disch := omega) only [zz hA, zb, zy, reduceCtorEq, Bool.false_eq_true, Int.reduceLT, Int.reduceLE, Int.reduceNeg] at hc) <;> (try simp only [zw] at hc)) <;> (try (exfalso; omega)))
        | ((first | (refine NX.k 1 ?_; first | refine NX.one (One.elemM hA tabOk rfl rfl rfl rfl ?_ ?_) ?_ | refine NX.one (One.elemOwnM hA tabOk rfl rfl rfl rfl rfl ?_ ?_) ?_) | (refine NX.k 2 ?_; first | refine NX.one (One.clipM tabOk rfl rfl rfl rfl rfl ?_ ?_) ?_ | refine NX.one (One.cut_hM hA tabOk rfl rfl rfl rfl ?_ ?_) ?_ | refine NX.one (One.cut_lM hA tabOk rfl rfl rfl rfl ?_ ?_) ?_ | refine NX.one (One.cut_lhM hA tabOk rfl rfl rfl rfl rfl ?_ ?_ ?_) ?_) | (refine NX.k 3 ?_; first | refine NX.one (One.quoM hA rfl rfl rfl ?_) ?_) | (refine NX.k 4 ?_; first | refine NX.one (One.remM hA rfl rfl rfl ?_) ?_) | (refine NX.k 5 ?_; first | refine NX.one (One.shrM hA rfl rfl rfl ?_) ?_) | (refine NX.k 6 ?_; first | refine NX.one (One.bitsM hA rfl rfl rfl rfl) ?_) | (refine NX.k 7 ?_; first | refine NX.one (One.concatM hA rfl rfl rfl ?_) ?_) | (refine NX.k 8 ?_; first | refine NX.one (One.eqBoolM hA tabOk rfl rfl rfl rfl rfl) ?_) | (refine NX.k 9 ?_; first | refine NX.one (One.neBoolM hA tabOk rfl rfl rfl rfl rfl) ?_) | (refine NX.k 10 ?_; first | refine NX.one (One.lenOwnM hA tabOk rfl rfl rfl rfl) ?_) | (refine NX.k 11 ?_; first | refine NX.one (One.appendM hA tabOk _ rfl rfl rfl rfl rfl rfl ?_ ?_) ?_ | refine NX.one (One.appendMM hA tabOk rfl rfl rfl rfl rfl ?_ ?_) ?_ | refine NX.one (One.appendOwnM hA tabOk _ rfl rfl rfl rfl rfl rfl rfl ?_ ?_) ?_ | refine NX.one (One.appendOwnMM hA tabOk rfl rfl rfl rfl rfl rfl ?_ ?_) ?_ | refine NX.one (One.appendOwn0 hA tabOk rfl rfl rfl rfl rfl rfl ?_ ?_) ?_) | (refine NX.k 13 ?_; first | refine NX.one (One.byteM hA tabOk rfl rfl rfl rfl rfl ?_ ?_) ?_) | (refine NX.k 14 ?_; first | refine NX.one (One.loadRatM hA tabOk rfl rfl rfl rfl rfl rfl ?_) ?_) | (refine NX.k 15 ?_; first | refine NX.one (One.storeRatM hA tabOk _ rfl rfl rfl rfl rfl rfl rfl rfl (fun _ => rfl) ?_) ?_) | (refine NX.k 16 ?_; first | refine NX.one (One.makeM hA tabOk encI 0 rfl rfl rfl rfl rfl rfl rfl ?_ ?_ ?_) ?_) | (refine NX.k 17 ?_; first | refine NX.one (One.build0 tabOk rfl rfl) ?_) | (refine NX.k 18 ?_; first | refine NX.one (One.fieldRat tabOk rfl rfl rfl rfl (by decide) rfl rfl) ?_) | (refine NX.k 23 ?_; first | refine NX.one (One.lookupI (q := .i64) hA rfl rfl rfl (by conv => lhs; cbv) (by decide +kernel)) ?_ | refine NX.one (One.lookupI (q := .u8) hA rfl rfl rfl (by conv => lhs; cbv) (by decide +kernel)) ?_ | refine NX.one (One.lookupI1 (q := .i64) hA rfl rfl rfl (by conv => lhs; cbv) (by decide +kernel)) ?_ | refine NX.one (One.lookupI1 (q := .u8) hA rfl rfl rfl (by conv => lhs; cbv) (by decide +kernel)) ?_) | (refine NX.k 26 ?_; first | refine NX.mapLit .i64 (by conv => lhs; cbv) (by decide +kernel) ?_ | refine NX.mapLit .u8 (by conv => lhs; cbv) (by decide +kernel) ?_)) <;> (first | refine AOLg.pass ?_ | (((try simp only [zn]) <;> (try simp (disch := omega) only [zz hA, zb, zy, reduceCtorEq, Bool.false_eq_true, Int.reduceLT, Int.reduceLE, Int.reduceNeg]) <;> (try simp only [zw])) <;> omega)))
        | refine NX.raw ?_)
    | refine Thn.exit ?_
    | refine Blk.here ?_
    | refine Blk.other (by decide) ?_
    | refine ⟨.inl rfl, _, RetOk.ev tabOk (by conv => lhs; cbv), ?_⟩
    | fail)
  · generalize hn : key.getD (A (.hid Int) fun x => cN k).toNat default = n
    refine AWp.loopU (fun j : Nat => [(3, .ic (.lit (.int .u32 (hid A (hnum (hashM (key.take k)) n j))))), (5, .ic (.lit (.int .u64 (hid A (n % 18446744073709551616 / 256 ^ j))))), (6, .ic (.lit (.int .i64 (hid A (cN j)))))]) (fun _ => []) (fun j => 8 - j) (fun j => j ≤ 8) 0 (by conv => lhs; cbv) (by omega) (.int rfl (by simp [hid, hA, real, hnum]) (.int rfl (by simp only [hA, real, hid, Int.pow_zero, Int.ediv_one, IntKind.wrap_u64]) (.int rfl (by simp [hid, hA, real, cN]) .nil))) rfl ?_
    intro j hj
    have hnn : 0 ≤ n % 18446744073709551616 / 256 ^ j := Int.ediv_nonneg (by omega) (by exact Int.le_of_lt (Int.pow_pos (by decide)))
    have hlt : n % 18446744073709551616 / 256 ^ j < 18446744073709551616 := Int.lt_of_le_of_lt (Int.ediv_le_self _ (by omega)) (by omega)
    try first | refine AOLg.of [] ?_ | refine QSg.of [] ?_
    repeat' (first
      | (refine AWp.pass ?_; first
          | refine AWp.seq ?_
          | refine AWp.block ?_
          | refine AWp.skip ?_
          | refine AWp.regG [] (by conv => lhs; cbv) ?_
          | refine AWp.cond_t rfl ?_
          | refine AWp.cond_f rfl ?_
          | (refine AWp.cond rfl ?_ ?_ <;> intro hc <;> (try rw [hc]) <;> ((try simp only [zn] at hc) <;> (try simp (disch := omega) only [zz hA, zb, zy, reduceCtorEq, Bool.false_eq_true, Int.reduceLT, Int.reduceLE, Int.reduceNeg] at hc) <;> (try simp only [zw] at hc)) <;> (try (exfalso; omega)))
          | refine AWp.exit ?_
          | refine AWp.ret ⟨.inr rfl, _, RetOk.ev tabOk (by conv => lhs; cbv), ?_⟩)
      | (refine AOLg.pass ?_; refine AOLg.nx hA tabOk (by conv => lhs; cbv) ?_; first
          | refine NX.done ?_
          | refine NX.gt ?_
          | refine NX.gf ?_
          | (refine NX.gs ?_ ?_ <;> intro hc <;> rw [hc] <;> ((try simp only [zn] at hc) <;> (try simp (disch := omega) only [zz hA, zb, zy, reduceCtorEq, Bool.false_eq_true, Int.reduceLT, Int.reduceLE, Int.reduceNeg] at hc) <;> (try simp only [zw] at hc)) <;> (try (exfalso; omega)))
          | ((first | (refine NX.k 1 ?_; first | refine NX.one (One.elemM hA tabOk rfl rfl rfl rfl ?_ ?_) ?_ | refine NX.one (One.elemOwnM hA tabOk rfl rfl rfl rfl rfl ?_ ?_) ?_) | (refine NX.k 2 ?_; first | refine NX.one (One.clipM tabOk rfl rfl rfl rfl rfl ?_ ?_) ?_ | refine NX.one (One.cut_hM hA tabOk rfl rfl rfl rfl ?_ ?_) ?_ | refine NX.one (One.cut_lM hA tabOk rfl rfl rfl rfl ?_ ?_) ?_ | refine NX.one (One.cut_lhM hA tabOk rfl rfl rfl rfl rfl ?_ ?_ ?_) ?_) | (refine NX.k 3 ?_; first | refine NX.one (One.quoM hA rfl rfl rfl ?_) ?_) | (refine NX.k 4 ?_; first | refine NX.one (One.remM hA rfl rfl rfl ?_) ?_) | (refine NX.k 5 ?_; first | refine NX.one (One.shrM hA rfl rfl rfl ?_) ?_) | (refine NX.k 6 ?_; first | refine NX.one (One.bitsM hA rfl rfl rfl rfl) ?_) | (refine NX.k 7 ?_; first | refine NX.one (One.concatM hA rfl rfl rfl ?_) ?_) | (refine NX.k 8 ?_; first | refine NX.one (One.eqBoolM hA tabOk rfl rfl rfl rfl rfl) ?_) | (refine NX.k 9 ?_; first | refine NX.one (One.neBoolM hA tabOk rfl rfl rfl rfl rfl) ?_) | (refine NX.k 10 ?_; first | refine NX.one (One.lenOwnM hA tabOk rfl rfl rfl rfl) ?_) | (refine NX.k 11 ?_; first | refine NX.one (One.appendM hA tabOk _ rfl rfl rfl rfl rfl rfl ?_ ?_) ?_ | refine NX.one (One.appendMM hA tabOk rfl rfl rfl rfl rfl ?_ ?_) ?_ | refine NX.one (One.appendOwnM hA tabOk _ rfl rfl rfl rfl rfl rfl rfl ?_ ?_) ?_ | refine NX.one (One.appendOwnMM hA tabOk rfl rfl rfl rfl rfl rfl ?_ ?_) ?_ | refine NX.one (One.appendOwn0 hA tabOk rfl rfl rfl rfl rfl rfl ?_ ?_) ?_) | (refine NX.k 13 ?_; first | refine NX.one (One.byteM hA tabOk rfl rfl rfl rfl rfl ?_ ?_) ?_) | (refine NX.k 14 ?_; first | refine NX.one (One.loadRatM hA tabOk rfl rfl rfl rfl rfl rfl ?_) ?_) | (refine NX.k 15 ?_; first | refine NX.one (One.storeRatM hA tabOk _ rfl rfl rfl rfl rfl rfl rfl rfl (fun _ => rfl) ?_) ?_) | (refine NX.k 16 ?_; first | refine NX.one (One.makeM hA tabOk encI 0 rfl rfl rfl rfl rfl rfl rfl ?_ ?_ ?_) ?_) | (refine NX.k 17 ?_; first | refine NX.one (One.build0 tabOk rfl rfl) ?_) | (refine NX.k 18 ?_; first | refine NX.one (One.fieldRat tabOk rfl rfl rfl rfl (by decide) rfl rfl) ?_) | (refine NX.k 23 ?_; first | refine NX.one (One.lookupI (q := .i64) hA rfl rfl rfl (by conv => lhs; cbv) (by decide +kernel)) ?_ | refine NX.one (One.lookupI (q := .u8) hA rfl rfl rfl (by conv => lhs; cbv) (by decide +kernel)) ?_ | refine NX.one (One.lookupI1 (q := .i64) hA rfl rfl rfl (by conv => lhs; cbv) (by decide +kernel)) ?_ | refine NX.one (One.lookupI1 (q := .u8) hA rfl rfl rfl (by conv => lhs; cbv) (by decide +kernel)) ?_) | (refine NX.k 26 ?_; first | refine NX.mapLit .i64 (by conv => lhs; cbv) (by decide +kernel) ?_ | refine NX.mapLit .u8 (by conv => lhs; cbv) (by decide +kernel) ?_)) <;> (first | refine AOLg.pass ?_ | (((try simp only [zn]) <;> (try simp (disch := omega) only [zz hA, zb, zy, reduceCtorEq, Bool.false_eq_true, Int.reduceLT, Int.reduceLE, Int.reduceNeg]) <;> (try simp only [zw])) <;> omega)))
          | refine NX.raw ?_)
      | refine Thn.exit ?_
      | refine Blk.here ?_
      | refine Blk.other (by decide) ?_
      | refine ⟨.inl rfl, _, RetOk.ev tabOk (by conv => lhs; cbv), ?_⟩
      | fail)
    · skip
      refine ⟨j + 1, ?_, ?_, rfl, rfl, ?_, (by repeat' (first | exact subE.nil | refine subE.cons rfl ?_))⟩ <;> (try omega)
      repeat' (first | exact subE.nil | refine subE.cons rfl ?_ | refine subE.int rfl ?_ ?_ | refine subE.bool rfl ?_ ?_ | refine subE.str rfl ?_ ?_ | refine subE.sl rfl ?_ ?_)
      · ((try simp only [zn]) <;> (try simp (disch := omega) only [zz hA, zb, zy, reduceCtorEq, Bool.false_eq_true, Int.reduceLT, Int.reduceLE, Int.reduceNeg]) <;> (try simp only [zw]))
        rw [hnum_succ, hstep, hbyte]
      · ((try simp only [zn]) <;> (try simp (disch := omega) only [zz hA, zb, zy, reduceCtorEq, Bool.false_eq_true, Int.reduceLT, Int.reduceLE, Int.reduceNeg]) <;> (try simp only [zw]))
        rw [hbyte_div]
      · (((try simp only [zn]) <;> (try simp (disch := omega) only [zz hA, zb, zy, reduceCtorEq, Bool.false_eq_true, Int.reduceLT, Int.reduceLE, Int.reduceNeg]) <;> (try simp only [zw])) <;> omega)
    · skip
      refine ⟨k + 1, ?_, ?_, rfl, rfl, ?_, (by repeat' (first | exact subE.nil | refine subE.cons rfl ?_))⟩ <;> (try omega)
      repeat' (first | exact subE.nil | refine subE.cons rfl ?_ | refine subE.int rfl ?_ ?_ | refine subE.bool rfl ?_ ?_ | refine subE.str rfl ?_ ?_ | refine subE.sl rfl ?_ ?_)
      · ((try simp only [zn]) <;> (try simp (disch := omega) only [zz hA, zb, zy, reduceCtorEq, Bool.false_eq_true, Int.reduceLT, Int.reduceLE, Int.reduceNeg]) <;> (try simp only [zw]))
        rw [show j = 8 by omega, take_snoc key k (by omega), hashM_snoc, ← hn]
        ((try simp only [zn]) <;> (try simp (disch := omega) only [zz hA, zb, zy, reduceCtorEq, Bool.false_eq_true, Int.reduceLT, Int.reduceLE, Int.reduceNeg]) <;> (try simp only [zw]))
      · (((try simp only [zn]) <;> (try simp (disch := omega) only [zz hA, zb, zy, reduceCtorEq, Bool.false_eq_true, Int.reduceLT, Int.reduceLE, Int.reduceNeg]) <;> (try simp only [zw])) <;> omega)
  · refine rPV_then (by conv => lhs; cbv) ?_
    ((try simp only [zn]) <;> (try simp (disch := omega) only [zz hA, zb, zy, reduceCtorEq, Bool.false_eq_true, Int.reduceLT, Int.reduceLE, Int.reduceNeg]) <;> (try simp only [zw]))
    rw [List.take_of_length_le (by omega)]
theorem refLay_c (K : List (List Int)) (hK : K.length ≤ 1000000) : PureCalls Try.prog 40 [slP A 1 (encK A) K] (intsP A (layM K)) := by
  have hb := sizeM_bound K.length
  have hbig := sizeM_big K.length
  refine PureCalls.of Try.func40 rfl (by kernel_rfl) rfl ?_
  try first | refine AOLg.of [] ?_ | refine QSg.of [] ?_
  repeat' (first
    | (refine AWp.pass ?_; first
        | refine AWp.seq ?_
        | refine AWp.block ?_
        | refine AWp.skip ?_
        | refine AWp.regG [] (by conv => lhs; cbv) ?_
        | refine AWp.cond_t rfl ?_
        | refine AWp.cond_f rfl ?_
        | (refine AWp.cond rfl ?_ ?_ <;> intro hc <;> (try rw [hc]) <;> ((try simp only [zn] at hc) <;> (try simp (disch := omega) only [zz hA, zb, zy, reduceCtorEq, Bool.false_eq_true, Int.reduceLT, Int.reduceLE, Int.reduceNeg] at hc) <;> (try simp only [zw] at hc)) <;> (try (exfalso; omega)))
        | refine AWp.exit ?_
        | refine AWp.ret ⟨.inr rfl, _, RetOk.ev tabOk (by conv => lhs; cbv), ?_⟩)
    | (refine AOLg.pass ?_; refine AOLg.nx hA tabOk (by conv => lhs; cbv) ?_; first
        | refine NX.done ?_
        | refine NX.gt ?_
        | refine NX.gf ?_
        | (refine NX.gs ?_ ?_ <;> intro hc <;> rw [hc] <;> ((try simp only [zn] at hc) <;> (try simp (disch := omega) only [zz hA, zb, zy, reduceCtorEq, Bool.false_eq_true, Int.reduceLT, Int.reduceLE, Int.reduceNeg] at hc) <;> (try simp only [zw] at hc)) <;> (try (exfalso; omega)))
        | (refine NX.kC ?_; first | ((with_reducible refine NX.call (refSize_c hA K.length _ ?_ (by omega)) ?_) <;> (first | refine AOLg.pass ?_ | (((try simp only [zn]) <;> (try simp (disch := omega) only [zz hA, zb, zy, reduceCtorEq, Bool.false_eq_true, Int.reduceLT, Int.reduceLE, Int.reduceNeg]) <;> (try simp only [zw])) <;> omega))) | ((first | refine NX.call (refSize_c hA K.length _ ?_ (by omega)) ?_) <;> (first | refine AOLg.pass ?_ | (((try simp only [zn]) <;> (try simp (disch := omega) only [zz hA, zb, zy, reduceCtorEq, Bool.false_eq_true, Int.reduceLT, Int.reduceLE, Int.reduceNeg]) <;> (try simp only [zw])) <;> omega))) | fail)
        | (refine NX.kO ?_; (first | refine NX.callO (refSize_c hA K.length _ ?_ (by omega)) (by simp [allEq]) rfl ?_) <;> (first | refine AOLg.pass ?_ | (((try simp only [zn]) <;> (try simp (disch := omega) only [zz hA, zb, zy, reduceCtorEq, Bool.false_eq_true, Int.reduceLT, Int.reduceLE, Int.reduceNeg]) <;> (try simp only [zw])) <;> omega)))
        | ((first | (refine NX.k 1 ?_; first | refine NX.one (One.elemM hA tabOk rfl rfl rfl rfl ?_ ?_) ?_ | refine NX.one (One.elemOwnM hA tabOk rfl rfl rfl rfl rfl ?_ ?_) ?_) | (refine NX.k 2 ?_; first | refine NX.one (One.clipM tabOk rfl rfl rfl rfl rfl ?_ ?_) ?_ | refine NX.one (One.cut_hM hA tabOk rfl rfl rfl rfl ?_ ?_) ?_ | refine NX.one (One.cut_lM hA tabOk rfl rfl rfl rfl ?_ ?_) ?_ | refine NX.one (One.cut_lhM hA tabOk rfl rfl rfl rfl rfl ?_ ?_ ?_) ?_) | (refine NX.k 3 ?_; first | refine NX.one (One.quoM hA rfl rfl rfl ?_) ?_) | (refine NX.k 4 ?_; first | refine NX.one (One.remM hA rfl rfl rfl ?_) ?_) | (refine NX.k 5 ?_; first | refine NX.one (One.shrM hA rfl rfl rfl ?_) ?_) | (refine NX.k 6 ?_; first | refine NX.one (One.bitsM hA rfl rfl rfl rfl) ?_) | (refine NX.k 7 ?_; first | refine NX.one (One.concatM hA rfl rfl rfl ?_) ?_) | (refine NX.k 8 ?_; first | refine NX.one (One.eqBoolM hA tabOk rfl rfl rfl rfl rfl) ?_) | (refine NX.k 9 ?_; first | refine NX.one (One.neBoolM hA tabOk rfl rfl rfl rfl rfl) ?_) | (refine NX.k 10 ?_; first | refine NX.one (One.lenOwnM hA tabOk rfl rfl rfl rfl) ?_) | (refine NX.k 11 ?_; first | refine NX.one (One.appendM hA tabOk _ rfl rfl rfl rfl rfl rfl ?_ ?_) ?_ | refine NX.one (One.appendMM hA tabOk rfl rfl rfl rfl rfl ?_ ?_) ?_ | refine NX.one (One.appendOwnM hA tabOk _ rfl rfl rfl rfl rfl rfl rfl ?_ ?_) ?_ | refine NX.one (One.appendOwnMM hA tabOk rfl rfl rfl rfl rfl rfl ?_ ?_) ?_ | refine NX.one (One.appendOwn0 hA tabOk rfl rfl rfl rfl rfl rfl ?_ ?_) ?_) | (refine NX.k 13 ?_; first | refine NX.one (One.byteM hA tabOk rfl rfl rfl rfl rfl ?_ ?_) ?_) | (refine NX.k 14 ?_; first | refine NX.one (One.loadRatM hA tabOk rfl rfl rfl rfl rfl rfl ?_) ?_) | (refine NX.k 15 ?_; first | refine NX.one (One.storeRatM hA tabOk _ rfl rfl rfl rfl rfl rfl rfl rfl (fun _ => rfl) ?_) ?_) | (refine NX.k 16 ?_; first | refine NX.one (One.makeM hA tabOk encI 0 rfl rfl rfl rfl rfl rfl rfl ?_ ?_ ?_) ?_) | (refine NX.k 17 ?_; first | refine NX.one (One.build0 tabOk rfl rfl) ?_) | (refine NX.k 18 ?_; first | refine NX.one (One.fieldRat tabOk rfl rfl rfl rfl (by decide) rfl rfl) ?_) | (refine NX.k 23 ?_; first | refine NX.one (One.lookupI (q := .i64) hA rfl rfl rfl (by conv => lhs; cbv) (by decide +kernel)) ?_ | refine NX.one (One.lookupI (q := .u8) hA rfl rfl rfl (by conv => lhs; cbv) (by decide +kernel)) ?_ | refine NX.one (One.lookupI1 (q := .i64) hA rfl rfl rfl (by conv => lhs; cbv) (by decide +kernel)) ?_ | refine NX.one (One.lookupI1 (q := .u8) hA rfl rfl rfl (by conv => lhs; cbv) (by decide +kernel)) ?_) | (refine NX.k 26 ?_; first | refine NX.mapLit .i64 (by conv => lhs; cbv) (by decide +kernel) ?_ | refine NX.mapLit .u8 (by conv => lhs; cbv) (by decide +kernel) ?_)) <;> (first | refine AOLg.pass ?_ | (((try simp only [zn]) <;> (try simp (disch := omega) only [zz hA, zb, zy, reduceCtorEq, Bool.false_eq_true, Int.reduceLT, Int.reduceLE, Int.reduceNeg]) <;> (try simp only [zw])) <;> omega)))
        | refine NX.raw ?_)
    | refine Thn.exit ?_
    | refine Blk.here ?_
    | refine Blk.other (by decide) ?_
    | refine ⟨.inl rfl, _, RetOk.ev tabOk (by conv => lhs; cbv), ?_⟩
    | fail)
  refine AWp.loopU (fun k : Nat => [(4, .ic (.lit (.int .i64 (hid A (cN k)))))]) (fun k => [.row true 0 3 1 (hid A (List.map encI (layGo K k)))]) (fun k => K.length - k) (fun k => k ≤ K.length) 0 (by conv => lhs; cbv) (by omega) (by (repeat' (first | exact subE.nil | refine subE.cons rfl ?_ | refine subE.int rfl ?_ ?_ | refine subE.bool rfl ?_ ?_ | refine subE.str rfl ?_ ?_ | refine subE.sl rfl ?_ ?_)) <;> simp [hA, real, hid, cN]) (by simp only [hA, real, hid, cN, layGo, List.range_zero, List.foldl_nil, Int.toNat_natCast]) ?_
  intro i hi
  have hlk := layGo_len K i
  try first | refine AOLg.of [] ?_ | refine QSg.of [] ?_
  repeat' (first
    | (refine AWp.pass ?_; first
        | refine AWp.seq ?_
        | refine AWp.block ?_
        | refine AWp.skip ?_
        | refine AWp.regG [] (by conv => lhs; cbv) ?_
        | refine AWp.cond_t rfl ?_
        | refine AWp.cond_f rfl ?_
        | (refine AWp.cond rfl ?_ ?_ <;> intro hc <;> (try rw [hc]) <;> ((try simp only [zn] at hc) <;> (try simp (disch := omega) only [zz hA, zb, zy, reduceCtorEq, Bool.false_eq_true, Int.reduceLT, Int.reduceLE, Int.reduceNeg] at hc) <;> (try simp only [zw] at hc)) <;> (try (exfalso; omega)))
        | refine AWp.exit ?_
        | refine AWp.ret ⟨.inr rfl, _, RetOk.ev tabOk (by conv => lhs; cbv), ?_⟩)
    | (refine AOLg.pass ?_; refine AOLg.nx hA tabOk (by conv => lhs; cbv) ?_; first
        | refine NX.done ?_
        | refine NX.gt ?_
        | refine NX.gf ?_
        | (refine NX.gs ?_ ?_ <;> intro hc <;> rw [hc] <;> ((try simp only [zn] at hc) <;> (try simp (disch := omega) only [zz hA, zb, zy, reduceCtorEq, Bool.false_eq_true, Int.reduceLT, Int.reduceLE, Int.reduceNeg] at hc) <;> (try simp only [zw] at hc)) <;> (try (exfalso; omega)))
        | ((first | (refine NX.k 1 ?_; first | refine NX.one (One.elemM hA tabOk rfl rfl rfl rfl ?_ ?_) ?_ | refine NX.one (One.elemOwnM hA tabOk rfl rfl rfl rfl rfl ?_ ?_) ?_) | (refine NX.k 2 ?_; first | refine NX.one (One.clipM tabOk rfl rfl rfl rfl rfl ?_ ?_) ?_ | refine NX.one (One.cut_hM hA tabOk rfl rfl rfl rfl ?_ ?_) ?_ | refine NX.one (One.cut_lM hA tabOk rfl rfl rfl rfl ?_ ?_) ?_ | refine NX.one (One.cut_lhM hA tabOk rfl rfl rfl rfl rfl ?_ ?_ ?_) ?_) | (refine NX.k 3 ?_; first | refine NX.one (One.quoM hA rfl rfl rfl ?_) ?_) | (refine NX.k 4 ?_; first | refine NX.one (One.remM hA rfl rfl rfl ?_) ?_) | (refine NX.k 5 ?_; first | refine NX.one (One.shrM hA rfl rfl rfl ?_) ?_) | (refine NX.k 6 ?_; first | refine NX.one (One.bitsM hA rfl rfl rfl rfl) ?_) | (refine NX.k 7 ?_; first | refine NX.one (One.concatM hA rfl rfl rfl ?_) ?_) | (refine NX.k 8 ?_; first | refine NX.one (One.eqBoolM hA tabOk rfl rfl rfl rfl rfl) ?_) | (refine NX.k 9 ?_; first | refine NX.one (One.neBoolM hA tabOk rfl rfl rfl rfl rfl) ?_) | (refine NX.k 10 ?_; first | refine NX.one (One.lenOwnM hA tabOk rfl rfl rfl rfl) ?_) | (refine NX.k 11 ?_; first | refine NX.one (One.appendM hA tabOk _ rfl rfl rfl rfl rfl rfl ?_ ?_) ?_ | refine NX.one (One.appendMM hA tabOk rfl rfl rfl rfl rfl ?_ ?_) ?_ | refine NX.one (One.appendOwnM hA tabOk _ rfl rfl rfl rfl rfl rfl rfl ?_ ?_) ?_ | refine NX.one (One.appendOwnMM hA tabOk rfl rfl rfl rfl rfl rfl ?_ ?_) ?_ | refine NX.one (One.appendOwn0 hA tabOk rfl rfl rfl rfl rfl rfl ?_ ?_) ?_) | (refine NX.k 13 ?_; first | refine NX.one (One.byteM hA tabOk rfl rfl rfl rfl rfl ?_ ?_) ?_) | (refine NX.k 14 ?_; first | refine NX.one (One.loadRatM hA tabOk rfl rfl rfl rfl rfl rfl ?_) ?_) | (refine NX.k 15 ?_; first | refine NX.one (One.storeRatM hA tabOk _ rfl rfl rfl rfl rfl rfl rfl rfl (fun _ => rfl) ?_) ?_) | (refine NX.k 16 ?_; first | refine NX.one (One.makeM hA tabOk encI 0 rfl rfl rfl rfl rfl rfl rfl ?_ ?_ ?_) ?_) | (refine NX.k 17 ?_; first | refine NX.one (One.build0 tabOk rfl rfl) ?_) | (refine NX.k 18 ?_; first | refine NX.one (One.fieldRat tabOk rfl rfl rfl rfl (by decide) rfl rfl) ?_) | (refine NX.k 23 ?_; first | refine NX.one (One.lookupI (q := .i64) hA rfl rfl rfl (by conv => lhs; cbv) (by decide +kernel)) ?_ | refine NX.one (One.lookupI (q := .u8) hA rfl rfl rfl (by conv => lhs; cbv) (by decide +kernel)) ?_ | refine NX.one (One.lookupI1 (q := .i64) hA rfl rfl rfl (by conv => lhs; cbv) (by decide +kernel)) ?_ | refine NX.one (One.lookupI1 (q := .u8) hA rfl rfl rfl (by conv => lhs; cbv) (by decide +kernel)) ?_) | (refine NX.k 26 ?_; first | refine NX.mapLit .i64 (by conv => lhs; cbv) (by decide +kernel) ?_ | refine NX.mapLit .u8 (by conv => lhs; cbv) (by decide +kernel) ?_)) <;> (first | refine AOLg.pass ?_ | (((try simp only [zn]) <;> (try simp (disch := omega) only [zz hA, zb, zy, reduceCtorEq, Bool.false_eq_true, Int.reduceLT, Int.reduceLE, Int.reduceNeg]) <;> (try simp only [zw])) <;> omega)))
        | refine NX.raw ?_)
    | refine Thn.exit ?_
    | refine Blk.here ?_
    | refine Blk.other (by decide) ?_
    | refine ⟨.inl rfl, _, RetOk.ev tabOk (by conv => lhs; cbv), ?_⟩
    | fail)
  · have hr := hashM_range (K.getD (A (.hid Int) fun x => cN i).toNat default)
    have hil : i < K.length := by omega
    obtain ⟨k0, hk0, hz0, hbef, hpl⟩ := (layGo_laid K i hi).find (by omega) (K.getD i default)
    try first | refine AOLg.of [] ?_ | refine QSg.of [] ?_
    repeat' (first
      | (refine AWp.pass ?_; first
          | refine AWp.seq ?_
          | refine AWp.block ?_
          | refine AWp.skip ?_
          | refine AWp.regG [] (by conv => lhs; cbv) ?_
          | refine AWp.cond_t rfl ?_
          | refine AWp.cond_f rfl ?_
          | (refine AWp.cond rfl ?_ ?_ <;> intro hc <;> (try rw [hc]) <;> ((try simp only [zn] at hc) <;> (try simp (disch := omega) only [zz hA, zb, zy, reduceCtorEq, Bool.false_eq_true, Int.reduceLT, Int.reduceLE, Int.reduceNeg] at hc) <;> (try simp only [zw] at hc)) <;> (try (exfalso; omega)))
          | refine AWp.exit ?_
          | refine AWp.ret ⟨.inr rfl, _, RetOk.ev tabOk (by conv => lhs; cbv), ?_⟩)
      | (refine AOLg.pass ?_; refine AOLg.nx hA tabOk (by conv => lhs; cbv) ?_; first
          | refine NX.done ?_
          | refine NX.gt ?_
          | refine NX.gf ?_
          | (refine NX.gs ?_ ?_ <;> intro hc <;> rw [hc] <;> ((try simp only [zn] at hc) <;> (try simp (disch := omega) only [zz hA, zb, zy, reduceCtorEq, Bool.false_eq_true, Int.reduceLT, Int.reduceLE, Int.reduceNeg] at hc) <;> (try simp only [zw] at hc)) <;> (try (exfalso; omega)))
          | (refine NX.kC ?_; first | (with_reducible refine NX.call (refHash_c hA _) ?_) | ((first | refine NX.call (refHash_c hA _) ?_)) | fail)
          | (refine NX.kO ?_; (first | refine NX.callO (refHash_c hA _) (by simp [allEq]) rfl ?_))
          | ((first | (refine NX.k 1 ?_; first | refine NX.one (One.elemM hA tabOk rfl rfl rfl rfl ?_ ?_) ?_ | refine NX.one (One.elemOwnM hA tabOk rfl rfl rfl rfl rfl ?_ ?_) ?_) | (refine NX.k 2 ?_; first | refine NX.one (One.clipM tabOk rfl rfl rfl rfl rfl ?_ ?_) ?_ | refine NX.one (One.cut_hM hA tabOk rfl rfl rfl rfl ?_ ?_) ?_ | refine NX.one (One.cut_lM hA tabOk rfl rfl rfl rfl ?_ ?_) ?_ | refine NX.one (One.cut_lhM hA tabOk rfl rfl rfl rfl rfl ?_ ?_ ?_) ?_) | (refine NX.k 3 ?_; first | refine NX.one (One.quoM hA rfl rfl rfl ?_) ?_) | (refine NX.k 4 ?_; first | refine NX.one (One.remM hA rfl rfl rfl ?_) ?_) | (refine NX.k 5 ?_; first | refine NX.one (One.shrM hA rfl rfl rfl ?_) ?_) | (refine NX.k 6 ?_; first | refine NX.one (One.bitsM hA rfl rfl rfl rfl) ?_) | (refine NX.k 7 ?_; first | refine NX.one (One.concatM hA rfl rfl rfl ?_) ?_) | (refine NX.k 8 ?_; first | refine NX.one (One.eqBoolM hA tabOk rfl rfl rfl rfl rfl) ?_) | (refine NX.k 9 ?_; first | refine NX.one (One.neBoolM hA tabOk rfl rfl rfl rfl rfl) ?_) | (refine NX.k 10 ?_; first | refine NX.one (One.lenOwnM hA tabOk rfl rfl rfl rfl) ?_) | (refine NX.k 11 ?_; first | refine NX.one (One.appendM hA tabOk _ rfl rfl rfl rfl rfl rfl ?_ ?_) ?_ | refine NX.one (One.appendMM hA tabOk rfl rfl rfl rfl rfl ?_ ?_) ?_ | refine NX.one (One.appendOwnM hA tabOk _ rfl rfl rfl rfl rfl rfl rfl ?_ ?_) ?_ | refine NX.one (One.appendOwnMM hA tabOk rfl rfl rfl rfl rfl rfl ?_ ?_) ?_ | refine NX.one (One.appendOwn0 hA tabOk rfl rfl rfl rfl rfl rfl ?_ ?_) ?_) | (refine NX.k 13 ?_; first | refine NX.one (One.byteM hA tabOk rfl rfl rfl rfl rfl ?_ ?_) ?_) | (refine NX.k 14 ?_; first | refine NX.one (One.loadRatM hA tabOk rfl rfl rfl rfl rfl rfl ?_) ?_) | (refine NX.k 15 ?_; first | refine NX.one (One.storeRatM hA tabOk _ rfl rfl rfl rfl rfl rfl rfl rfl (fun _ => rfl) ?_) ?_) | (refine NX.k 16 ?_; first | refine NX.one (One.makeM hA tabOk encI 0 rfl rfl rfl rfl rfl rfl rfl ?_ ?_ ?_) ?_) | (refine NX.k 17 ?_; first | refine NX.one (One.build0 tabOk rfl rfl) ?_) | (refine NX.k 18 ?_; first | refine NX.one (One.fieldRat tabOk rfl rfl rfl rfl (by decide) rfl rfl) ?_) | (refine NX.k 23 ?_; first | refine NX.one (One.lookupI (q := .i64) hA rfl rfl rfl (by conv => lhs; cbv) (by decide +kernel)) ?_ | refine NX.one (One.lookupI (q := .u8) hA rfl rfl rfl (by conv => lhs; cbv) (by decide +kernel)) ?_ | refine NX.one (One.lookupI1 (q := .i64) hA rfl rfl rfl (by conv => lhs; cbv) (by decide +kernel)) ?_ | refine NX.one (One.lookupI1 (q := .u8) hA rfl rfl rfl (by conv => lhs; cbv) (by decide +kernel)) ?_) | (refine NX.k 26 ?_; first | refine NX.mapLit .i64 (by conv => lhs; cbv) (by decide +kernel) ?_ | refine NX.mapLit .u8 (by conv => lhs; cbv) (by decide +kernel) ?_)) <;> (first | refine AOLg.pass ?_ | (((try simp only [zn]) <;> (try simp (disch := omega) only [zz hA, zb, zy, reduceCtorEq, Bool.false_eq_true, Int.reduceLT, Int.reduceLE, Int.reduceNeg]) <;> (try simp only [zw])) <;> omega)))
          | refine NX.raw ?_)
      | refine Thn.exit ?_
      | refine Blk.here ?_
      | refine Blk.other (by decide) ?_
      | refine ⟨.inl rfl, _, RetOk.ev tabOk (by conv => lhs; cbv), ?_⟩
      | fail)
    refine AWp.loopU (fun k : Nat => [(5, .ic (.lit (.int .i64 (hid A (cN (slotN (K.getD i default) (layGo K i).length k))))))]) (fun k => [.row true 0 3 1 (hid A (List.map encI (layGo K i)))]) (fun k => k0 - k) (fun k => k ≤ k0) 0 (by conv => lhs; cbv) (Nat.zero_le _) ?_ rfl ?_
    · refine .int rfl ?_ .nil
      have hr2 := hashM_range (K.getD i default)
      ((try simp only [zn]) <;> (try simp (disch := omega) only [zz hA, zb, zy, reduceCtorEq, Bool.false_eq_true, Int.reduceLT, Int.reduceLE, Int.reduceNeg]) <;> (try simp only [zw]))
      rw [slotN_zero _ _ (by omega)]
    · intro k hk
      have hsl := slotN_lt (K.getD i default) (layGo K i).length k (by omega)
      have e0 : ∀ p, (layGo K i).getD p default = (layGo K i).getD p 0 := fun _ => rfl
      have hlt : (layGo K i).getD (slotN (K.getD i default) (layGo K i).length k) 0 ≠ 0 → k < k0 := fun h => by
        rcases Nat.lt_or_ge k k0 with h1 | h1
        · exact h1
        · rw [show k = k0 by omega] at h
          exact absurd hz0 h
      try first | refine AOLg.of [] ?_ | refine QSg.of [] ?_
      repeat' (first
        | (refine AWp.pass ?_; first
            | refine AWp.seq ?_
            | refine AWp.block ?_
            | refine AWp.skip ?_
            | refine AWp.regG [] (by conv => lhs; cbv) ?_
            | refine AWp.cond_t rfl ?_
            | refine AWp.cond_f rfl ?_
            | (refine AWp.cond rfl ?_ ?_ <;> intro hc <;> (try rw [hc]) <;> ((try simp only [zn] at hc) <;> (try simp (disch := omega) only [zz hA, zb, zy, reduceCtorEq, Bool.false_eq_true, Int.reduceLT, Int.reduceLE, Int.reduceNeg] at hc) <;> (try simp only [zw] at hc)) <;> (try (exfalso; omega)))
            | refine AWp.exit ?_
            | refine AWp.ret ⟨.inr rfl, _, RetOk.ev tabOk (by conv => lhs; cbv), ?_⟩)
        | (refine AOLg.pass ?_; refine AOLg.nx hA tabOk (by conv => lhs; cbv) ?_; first
            | refine NX.done ?_
            | refine NX.gt ?_
            | refine NX.gf ?_
            | (refine NX.gs ?_ ?_ <;> intro hc <;> rw [hc] <;> ((try simp only [zn] at hc) <;> (try simp (disch := omega) only [zz hA, zb, zy, reduceCtorEq, Bool.false_eq_true, Int.reduceLT, Int.reduceLE, Int.reduceNeg] at hc) <;> (try simp only [zw] at hc)) <;> (try (exfalso; omega)))
            | ((first | (refine NX.k 1 ?_; first | refine NX.one (One.elemM hA tabOk rfl rfl rfl rfl ?_ ?_) ?_ | refine NX.one (One.elemOwnM hA tabOk rfl rfl rfl rfl rfl ?_ ?_) ?_) | (refine NX.k 2 ?_; first | refine NX.one (One.clipM tabOk rfl rfl rfl rfl rfl ?_ ?_) ?_ | refine NX.one (One.cut_hM hA tabOk rfl rfl rfl rfl ?_ ?_) ?_ | refine NX.one (One.cut_lM hA tabOk rfl rfl rfl rfl ?_ ?_) ?_ | refine NX.one (One.cut_lhM hA tabOk rfl rfl rfl rfl rfl ?_ ?_ ?_) ?_) | (refine NX.k 3 ?_; first | refine NX.one (One.quoM hA rfl rfl rfl ?_) ?_) | (refine NX.k 4 ?_; first | refine NX.one (One.remM hA rfl rfl rfl ?_) ?_) | (refine NX.k 5 ?_; first | refine NX.one (One.shrM hA rfl rfl rfl ?_) ?_) | (refine NX.k 6 ?_; first | refine NX.one (One.bitsM hA rfl rfl rfl rfl) ?_) | (refine NX.k 7 ?_; first | refine NX.one (One.concatM hA rfl rfl rfl ?_) ?_) | (refine NX.k 8 ?_; first | refine NX.one (One.eqBoolM hA tabOk rfl rfl rfl rfl rfl) ?_) | (refine NX.k 9 ?_; first | refine NX.one (One.neBoolM hA tabOk rfl rfl rfl rfl rfl) ?_) | (refine NX.k 10 ?_; first | refine NX.one (One.lenOwnM hA tabOk rfl rfl rfl rfl) ?_) | (refine NX.k 11 ?_; first | refine NX.one (One.appendM hA tabOk _ rfl rfl rfl rfl rfl rfl ?_ ?_) ?_ | refine NX.one (One.appendMM hA tabOk rfl rfl rfl rfl rfl ?_ ?_) ?_ | refine NX.one (One.appendOwnM hA tabOk _ rfl rfl rfl rfl rfl rfl rfl ?_ ?_) ?_ | refine NX.one (One.appendOwnMM hA tabOk rfl rfl rfl rfl rfl rfl ?_ ?_) ?_ | refine NX.one (One.appendOwn0 hA tabOk rfl rfl rfl rfl rfl rfl ?_ ?_) ?_) | (refine NX.k 13 ?_; first | refine NX.one (One.byteM hA tabOk rfl rfl rfl rfl rfl ?_ ?_) ?_) | (refine NX.k 14 ?_; first | refine NX.one (One.loadRatM hA tabOk rfl rfl rfl rfl rfl rfl ?_) ?_) | (refine NX.k 15 ?_; first | refine NX.one (One.storeRatM hA tabOk _ rfl rfl rfl rfl rfl rfl rfl rfl (fun _ => rfl) ?_) ?_) | (refine NX.k 16 ?_; first | refine NX.one (One.makeM hA tabOk encI 0 rfl rfl rfl rfl rfl rfl rfl ?_ ?_ ?_) ?_) | (refine NX.k 17 ?_; first | refine NX.one (One.build0 tabOk rfl rfl) ?_) | (refine NX.k 18 ?_; first | refine NX.one (One.fieldRat tabOk rfl rfl rfl rfl (by decide) rfl rfl) ?_) | (refine NX.k 23 ?_; first | refine NX.one (One.lookupI (q := .i64) hA rfl rfl rfl (by conv => lhs; cbv) (by decide +kernel)) ?_ | refine NX.one (One.lookupI (q := .u8) hA rfl rfl rfl (by conv => lhs; cbv) (by decide +kernel)) ?_ | refine NX.one (One.lookupI1 (q := .i64) hA rfl rfl rfl (by conv => lhs; cbv) (by decide +kernel)) ?_ | refine NX.one (One.lookupI1 (q := .u8) hA rfl rfl rfl (by conv => lhs; cbv) (by decide +kernel)) ?_) | (refine NX.k 26 ?_; first | refine NX.mapLit .i64 (by conv => lhs; cbv) (by decide +kernel) ?_ | refine NX.mapLit .u8 (by conv => lhs; cbv) (by decide +kernel) ?_)) <;> (first | refine AOLg.pass ?_ | (((try simp only [zn]) <;> (try simp (disch := omega) only [zz hA, zb, zy, reduceCtorEq, Bool.false_eq_true, Int.reduceLT, Int.reduceLE, Int.reduceNeg]) <;> (try simp only [zw])) <;> omega)))
            | refine NX.raw ?_)
        | refine Thn.exit ?_
        | refine Blk.here ?_
        | refine Blk.other (by decide) ?_
        | refine ⟨.inl rfl, _, RetOk.ev tabOk (by conv => lhs; cbv), ?_⟩
        | fail)
      · have hk2 : k < k0 := hlt (by assumption)
        have hsu := slotN_succ (K.getD i default) (layGo K i).length k (by omega)
        rw [if_pos (by omega)] at hsu
        refine ⟨k + 1, ?_, ?_, rfl, rfl, ?_, (by repeat' (first | exact subE.nil | refine subE.cons rfl ?_))⟩ <;> (try omega)
        repeat' (first | exact subE.nil | refine subE.cons rfl ?_ | refine subE.int rfl ?_ ?_ | refine subE.bool rfl ?_ ?_ | refine subE.str rfl ?_ ?_ | refine subE.sl rfl ?_ ?_)
        ((try simp only [zn]) <;> (try simp (disch := omega) only [zz hA, zb, zy, reduceCtorEq, Bool.false_eq_true, Int.reduceLT, Int.reduceLE, Int.reduceNeg]) <;> (try simp only [zw]))
        rw [hsu]
        rfl
      · have hk2 : k < k0 := hlt (by assumption)
        have hsu := slotN_succ (K.getD i default) (layGo K i).length k (by omega)
        rw [if_neg (by omega)] at hsu
        refine ⟨k + 1, ?_, ?_, rfl, rfl, ?_, (by repeat' (first | exact subE.nil | refine subE.cons rfl ?_))⟩ <;> (try omega)
        repeat' (first | exact subE.nil | refine subE.cons rfl ?_ | refine subE.int rfl ?_ ?_ | refine subE.bool rfl ?_ ?_ | refine subE.str rfl ?_ ?_ | refine subE.sl rfl ?_ ?_)
        ((try simp only [zn]) <;> (try simp (disch := omega) only [zz hA, zb, zy, reduceCtorEq, Bool.false_eq_true, Int.reduceLT, Int.reduceLE, Int.reduceNeg]) <;> (try simp only [zw]))
        rw [hsu]
        rfl
      · have hk2 : k = k0 := by
          rcases Nat.lt_or_ge k k0 with h1 | h1
          · exact absurd hc (hbef k h1)
          · omega
        subst hk2
        refine ⟨i + 1, ?_, ?_, rfl, ?_, ?_, (by repeat' (first | exact subE.nil | refine subE.cons rfl ?_))⟩ <;> (try omega)
        · rw [layGo_succ, hpl]
          ((try simp only [zn]) <;> (try simp (disch := omega) only [zz hA, zb, zy, reduceCtorEq, Bool.false_eq_true, Int.reduceLT, Int.reduceLE, Int.reduceNeg]) <;> (try simp only [zw]))
        · (repeat' (first | exact subE.nil | refine subE.cons rfl ?_ | refine subE.int rfl ?_ ?_ | refine subE.bool rfl ?_ ?_ | refine subE.str rfl ?_ ?_ | refine subE.sl rfl ?_ ?_))
          (((try simp only [zn]) <;> (try simp (disch := omega) only [zz hA, zb, zy, reduceCtorEq, Bool.false_eq_true, Int.reduceLT, Int.reduceLE, Int.reduceNeg]) <;> (try simp only [zw])) <;> omega)
  · refine rPV_then (by conv => lhs; cbv) ?_
    ((try simp only [zn]) <;> (try simp (disch := omega) only [zz hA, zb, zy, reduceCtorEq, Bool.false_eq_true, Int.reduceLT, Int.reduceLE, Int.reduceNeg]) <;> (try simp only [zw]))
    rw [layM, show K.length = i by omega]
    simp [hid, real, hA]
end Go.Proofs.Ytpphdaphbkepfaa.Aw

/- Contracts for package hash, part 8: which tables are right, Put by the document. -/
set_option linter.unusedVariables false
set_option linter.unusedSimpArgs false
namespace Go.Proofs.Ytpphdaphbkepfaa.Aw
open Go Go.RowKit
set_option maxRecDepth 10000
attribute [local irreducible] AWp AOL QS One AOLg QSg NX QX TRg TX AllO Fin3
theorem nodup_false {K : List (List Int)} {i : Nat} (hi : i < K.length) (h : atM K (K.getD i default) ≠ i) : ¬ K.Nodup := fun hn => h ((nodup_at K).1 hn i hi)
variable {A : Ar} (hA : A = real)
include hA
theorem refRight_c (K : List (List Int)) (S : List Int) (hK : K.length ≤ 1000000) : PureCalls Try.prog 16 [keyedPV A K S] (BP (hid A (decide (K.Nodup ∧ S = layM K)))) := by
  refine PureCalls.of Try.func16 rfl (by kernel_rfl) rfl ?_
  try first | refine AOLg.of [] ?_ | refine QSg.of [] ?_
  repeat' (first
    | (refine AWp.pass ?_; first
        | refine AWp.seq ?_
        | refine AWp.block ?_
        | refine AWp.skip ?_
        | refine AWp.regG [] (by conv => lhs; cbv) ?_
        | refine AWp.cond_t rfl ?_
        | refine AWp.cond_f rfl ?_
        | (refine AWp.cond rfl ?_ ?_ <;> intro hc <;> (try rw [hc]) <;> ((try simp only [zn] at hc) <;> (try simp (disch := omega) only [zz hA, zb, zy, reduceCtorEq, Bool.false_eq_true, Int.reduceLT, Int.reduceLE, Int.reduceNeg] at hc) <;> (try simp only [zw] at hc)) <;> (try (exfalso; omega)))
        | refine AWp.exit ?_
        | refine AWp.ret ⟨.inr rfl, _, RetOk.ev tabOk (by conv => lhs; cbv), ?_⟩
        | refine AWp.drawVG [] rfl (by decide +kernel) (by conv => lhs; cbv) ?_)
    | (refine AOLg.pass ?_; refine AOLg.nx hA tabOk (by conv => lhs; cbv) ?_; first
        | refine NX.done ?_
        | refine NX.gt ?_
        | refine NX.gf ?_
        | (refine NX.gs ?_ ?_ <;> intro hc <;> rw [hc] <;> ((try simp only [zn] at hc) <;> (try simp (disch := omega) only [zz hA, zb, zy, reduceCtorEq, Bool.false_eq_true, Int.reduceLT, Int.reduceLE, Int.reduceNeg] at hc) <;> (try simp only [zw] at hc)) <;> (try (exfalso; omega)))
        | ((first | (refine NX.k 1 ?_; first | refine NX.one (One.elemM hA tabOk rfl rfl rfl rfl ?_ ?_) ?_ | refine NX.one (One.elemOwnM hA tabOk rfl rfl rfl rfl rfl ?_ ?_) ?_) | (refine NX.k 2 ?_; first | refine NX.one (One.clipM tabOk rfl rfl rfl rfl rfl ?_ ?_) ?_ | refine NX.one (One.cut_hM hA tabOk rfl rfl rfl rfl ?_ ?_) ?_ | refine NX.one (One.cut_lM hA tabOk rfl rfl rfl rfl ?_ ?_) ?_ | refine NX.one (One.cut_lhM hA tabOk rfl rfl rfl rfl rfl ?_ ?_ ?_) ?_) | (refine NX.k 3 ?_; first | refine NX.one (One.quoM hA rfl rfl rfl ?_) ?_) | (refine NX.k 4 ?_; first | refine NX.one (One.remM hA rfl rfl rfl ?_) ?_) | (refine NX.k 5 ?_; first | refine NX.one (One.shrM hA rfl rfl rfl ?_) ?_) | (refine NX.k 6 ?_; first | refine NX.one (One.bitsM hA rfl rfl rfl rfl) ?_) | (refine NX.k 7 ?_; first | refine NX.one (One.concatM hA rfl rfl rfl ?_) ?_) | (refine NX.k 8 ?_; first | refine NX.one (One.eqBoolM hA tabOk rfl rfl rfl rfl rfl) ?_) | (refine NX.k 9 ?_; first | refine NX.one (One.neBoolM hA tabOk rfl rfl rfl rfl rfl) ?_) | (refine NX.k 10 ?_; first | refine NX.one (One.lenOwnM hA tabOk rfl rfl rfl rfl) ?_) | (refine NX.k 11 ?_; first | refine NX.one (One.appendM hA tabOk _ rfl rfl rfl rfl rfl rfl ?_ ?_) ?_ | refine NX.one (One.appendMM hA tabOk rfl rfl rfl rfl rfl ?_ ?_) ?_ | refine NX.one (One.appendOwnM hA tabOk _ rfl rfl rfl rfl rfl rfl rfl ?_ ?_) ?_ | refine NX.one (One.appendOwnMM hA tabOk rfl rfl rfl rfl rfl rfl ?_ ?_) ?_ | refine NX.one (One.appendOwn0 hA tabOk rfl rfl rfl rfl rfl rfl ?_ ?_) ?_) | (refine NX.k 13 ?_; first | refine NX.one (One.byteM hA tabOk rfl rfl rfl rfl rfl ?_ ?_) ?_) | (refine NX.k 14 ?_; first | refine NX.one (One.loadRatM hA tabOk rfl rfl rfl rfl rfl rfl ?_) ?_) | (refine NX.k 15 ?_; first | refine NX.one (One.storeRatM hA tabOk _ rfl rfl rfl rfl rfl rfl rfl rfl (fun _ => rfl) ?_) ?_) | (refine NX.k 16 ?_; first | refine NX.one (One.makeM hA tabOk encI 0 rfl rfl rfl rfl rfl rfl rfl ?_ ?_ ?_) ?_) | (refine NX.k 17 ?_; first | refine NX.one (One.build0 tabOk rfl rfl) ?_) | (refine NX.k 18 ?_; first | refine NX.one (One.fieldRat tabOk rfl rfl rfl rfl (by decide) rfl rfl) ?_) | (refine NX.k 23 ?_; first | refine NX.one (One.lookupI (q := .i64) hA rfl rfl rfl (by conv => lhs; cbv) (by decide +kernel)) ?_ | refine NX.one (One.lookupI (q := .u8) hA rfl rfl rfl (by conv => lhs; cbv) (by decide +kernel)) ?_ | refine NX.one (One.lookupI1 (q := .i64) hA rfl rfl rfl (by conv => lhs; cbv) (by decide +kernel)) ?_ | refine NX.one (One.lookupI1 (q := .u8) hA rfl rfl rfl (by conv => lhs; cbv) (by decide +kernel)) ?_) | (refine NX.k 26 ?_; first | refine NX.mapLit .i64 (by conv => lhs; cbv) (by decide +kernel) ?_ | refine NX.mapLit .u8 (by conv => lhs; cbv) (by decide +kernel) ?_)) <;> (first | refine AOLg.pass ?_ | (((try simp only [zn]) <;> (try simp (disch := omega) only [zz hA, zb, zy, reduceCtorEq, Bool.false_eq_true, Int.reduceLT, Int.reduceLE, Int.reduceNeg]) <;> (try simp only [zw])) <;> omega)))
        | refine NX.raw ?_)
    | (refine TRg.pass ?_; refine TRg.nx hA tabOk (by conv => lhs; cbv) ?_; first
        | refine TX.done ?_
        | refine TX.gt ?_
        | refine TX.gf ?_
        | (refine TX.gs ?_ ?_ <;> intro hc <;> rw [hc] <;> ((try simp only [zn] at hc) <;> (try simp (disch := omega) only [zz hA, zb, zy, reduceCtorEq, Bool.false_eq_true, Int.reduceLT, Int.reduceLE, Int.reduceNeg] at hc) <;> (try simp only [zw] at hc)) <;> (try (exfalso; omega)))
        | ((first | (refine TX.k 1 ?_; first | refine TX.one (One.elemM hA tabOk rfl rfl rfl rfl ?_ ?_) ?_ | refine TX.one (One.elemOwnM hA tabOk rfl rfl rfl rfl rfl ?_ ?_) ?_) | (refine TX.k 2 ?_; first | refine TX.one (One.clipM tabOk rfl rfl rfl rfl rfl ?_ ?_) ?_ | refine TX.one (One.cut_hM hA tabOk rfl rfl rfl rfl ?_ ?_) ?_ | refine TX.one (One.cut_lM hA tabOk rfl rfl rfl rfl ?_ ?_) ?_ | refine TX.one (One.cut_lhM hA tabOk rfl rfl rfl rfl rfl ?_ ?_ ?_) ?_) | (refine TX.k 3 ?_; first | refine TX.one (One.quoM hA rfl rfl rfl ?_) ?_) | (refine TX.k 4 ?_; first | refine TX.one (One.remM hA rfl rfl rfl ?_) ?_) | (refine TX.k 5 ?_; first | refine TX.one (One.shrM hA rfl rfl rfl ?_) ?_) | (refine TX.k 6 ?_; first | refine TX.one (One.bitsM hA rfl rfl rfl rfl) ?_) | (refine TX.k 7 ?_; first | refine TX.one (One.concatM hA rfl rfl rfl ?_) ?_) | (refine TX.k 8 ?_; first | refine TX.one (One.eqBoolM hA tabOk rfl rfl rfl rfl rfl) ?_) | (refine TX.k 9 ?_; first | refine TX.one (One.neBoolM hA tabOk rfl rfl rfl rfl rfl) ?_) | (refine TX.k 10 ?_; first | refine TX.one (One.lenOwnM hA tabOk rfl rfl rfl rfl) ?_) | (refine TX.k 11 ?_; first | refine TX.one (One.appendM hA tabOk _ rfl rfl rfl rfl rfl rfl ?_ ?_) ?_ | refine TX.one (One.appendMM hA tabOk rfl rfl rfl rfl rfl ?_ ?_) ?_ | refine TX.one (One.appendOwnM hA tabOk _ rfl rfl rfl rfl rfl rfl rfl ?_ ?_) ?_ | refine TX.one (One.appendOwnMM hA tabOk rfl rfl rfl rfl rfl rfl ?_ ?_) ?_ | refine TX.one (One.appendOwn0 hA tabOk rfl rfl rfl rfl rfl rfl ?_ ?_) ?_) | (refine TX.k 13 ?_; first | refine TX.one (One.byteM hA tabOk rfl rfl rfl rfl rfl ?_ ?_) ?_) | (refine TX.k 14 ?_; first | refine TX.one (One.loadRatM hA tabOk rfl rfl rfl rfl rfl rfl ?_) ?_) | (refine TX.k 15 ?_; first | refine TX.one (One.storeRatM hA tabOk _ rfl rfl rfl rfl rfl rfl rfl rfl (fun _ => rfl) ?_) ?_) | (refine TX.k 16 ?_; first | refine TX.one (One.makeM hA tabOk encI 0 rfl rfl rfl rfl rfl rfl rfl ?_ ?_ ?_) ?_) | (refine TX.k 17 ?_; first | refine TX.one (One.build0 tabOk rfl rfl) ?_) | (refine TX.k 18 ?_; first | refine TX.one (One.fieldRat tabOk rfl rfl rfl rfl (by decide) rfl rfl) ?_) | (refine TX.k 23 ?_; first | refine TX.one (One.lookupI (q := .i64) hA rfl rfl rfl (by conv => lhs; cbv) (by decide +kernel)) ?_ | refine TX.one (One.lookupI (q := .u8) hA rfl rfl rfl (by conv => lhs; cbv) (by decide +kernel)) ?_ | refine TX.one (One.lookupI1 (q := .i64) hA rfl rfl rfl (by conv => lhs; cbv) (by decide +kernel)) ?_ | refine TX.one (One.lookupI1 (q := .u8) hA rfl rfl rfl (by conv => lhs; cbv) (by decide +kernel)) ?_)) <;> (first | refine TRg.pass ?_ | (((try simp only [zn]) <;> (try simp (disch := omega) only [zz hA, zb, zy, reduceCtorEq, Bool.false_eq_true, Int.reduceLT, Int.reduceLE, Int.reduceNeg]) <;> (try simp only [zw])) <;> omega)))
        | refine TX.raw ?_)
    | refine Fin3.of (by conv => lhs; cbv) (by repeat' (first | exact True.intro | exact rfl | refine And.intro ?_ ?_)) ?_ ?_
    | (refine AllO.pass ?_; first
        | exact AllO.nil
        | (refine AllO.cons (One.ev hA tabOk ?_) ?_ <;> (first | refine AllO.pass ?_ | ((conv => lhs; cbv); done)))
        | (refine AllO.cons (One.skipB ?_) ?_ <;> (first | refine AllO.pass ?_ | ((conv => lhs; cbv); done)))
        | ((first | refine AllO.consX (One.elemM hA tabOk rfl rfl rfl rfl ?_ ?_) rfl rfl ?_ | refine AllO.consX (One.cut_hM hA tabOk rfl rfl rfl rfl ?_ ?_) rfl rfl ?_ | refine AllO.consX (One.cut_lM hA tabOk rfl rfl rfl rfl ?_ ?_) rfl rfl ?_ | refine AllO.consX (One.cut_lhM hA tabOk rfl rfl rfl rfl rfl ?_ ?_ ?_) rfl rfl ?_ | refine AllO.consX (One.quoM hA rfl rfl rfl ?_) rfl rfl ?_ | refine AllO.consX (One.remM hA rfl rfl rfl ?_) rfl rfl ?_ | refine AllO.consX (One.byteM hA tabOk rfl rfl rfl rfl rfl ?_ ?_) rfl rfl ?_ | refine AllO.consX (One.concatM hA rfl rfl rfl ?_) rfl rfl ?_ | refine AllO.consX (One.lenOwnM hA tabOk rfl rfl rfl rfl) rfl rfl ?_ | refine AllO.consX (One.elemOwnM hA tabOk rfl rfl rfl rfl rfl ?_ ?_) rfl rfl ?_ | refine AllO.consX (One.loadRatM hA tabOk rfl rfl rfl rfl rfl rfl ?_) rfl rfl ?_) <;> (first | refine AllO.pass ?_ | (((try simp only [zn]) <;> (try simp (disch := omega) only [zz hA, zb, zy, reduceCtorEq, Bool.false_eq_true, Int.reduceLT, Int.reduceLE, Int.reduceNeg]) <;> (try simp only [zw])) <;> omega))))
    | refine Thn.exit ?_
    | refine Blk.here ?_
    | refine Blk.other (by decide) ?_
    | refine ⟨.inl rfl, _, RetOk.ev tabOk (by conv => lhs; cbv), ?_⟩
    | fail)
  refine AWp.loopU (fun k : Nat => [(3, .ic (.lit (.int .i64 (hid A (cN k)))))]) (fun _ => [.var true 25 [.ic (.sl 1 false (hid A (List.map (encK A) K))), .ic (.sl 1 false (hid A (List.map encI S)))]]) (fun k => K.length - k) (fun k => k ≤ K.length ∧ ∀ i, i < k → atM K (K.getD i default) = i) 0 (by conv => lhs; cbv) ⟨by omega, by simp⟩ (by (repeat' (first | exact subE.nil | refine subE.cons rfl ?_ | refine subE.int rfl ?_ ?_ | refine subE.bool rfl ?_ ?_ | refine subE.str rfl ?_ ?_ | refine subE.sl rfl ?_ ?_)) <;> simp [hA, real, hid, cN]) rfl ?_
  rintro k ⟨hk, hat⟩
  try first | refine AOLg.of [] ?_ | refine QSg.of [] ?_
  repeat' (first
    | (refine AWp.pass ?_; first
        | refine AWp.seq ?_
        | refine AWp.block ?_
        | refine AWp.skip ?_
        | refine AWp.regG [] (by conv => lhs; cbv) ?_
        | refine AWp.cond_t rfl ?_
        | refine AWp.cond_f rfl ?_
        | (refine AWp.cond rfl ?_ ?_ <;> intro hc <;> (try rw [hc]) <;> ((try simp only [zn] at hc) <;> (try simp (disch := omega) only [zz hA, zb, zy, reduceCtorEq, Bool.false_eq_true, Int.reduceLT, Int.reduceLE, Int.reduceNeg] at hc) <;> (try simp only [zw] at hc)) <;> (try (exfalso; omega)))
        | refine AWp.exit ?_
        | refine AWp.ret ⟨.inr rfl, _, RetOk.ev tabOk (by conv => lhs; cbv), ?_⟩
        | refine AWp.drawVG [] rfl (by decide +kernel) (by conv => lhs; cbv) ?_)
    | (refine AOLg.pass ?_; refine AOLg.nx hA tabOk (by conv => lhs; cbv) ?_; first
        | refine NX.done ?_
        | refine NX.gt ?_
        | refine NX.gf ?_
        | (refine NX.gs ?_ ?_ <;> intro hc <;> rw [hc] <;> ((try simp only [zn] at hc) <;> (try simp (disch := omega) only [zz hA, zb, zy, reduceCtorEq, Bool.false_eq_true, Int.reduceLT, Int.reduceLE, Int.reduceNeg] at hc) <;> (try simp only [zw] at hc)) <;> (try (exfalso; omega)))
        | (refine NX.kC ?_; first | (with_reducible refine NX.call (refAt_c hA _ _) ?_) | (with_reducible refine NX.call (refLay_c hA K hK) ?_) | (with_reducible refine NX.call (refInts_c hA _ _) ?_) | ((first | refine NX.call (refAt_c hA _ _) ?_ | refine NX.call (refLay_c hA K hK) ?_ | refine NX.call (refInts_c hA _ _) ?_)) | fail)
        | (refine NX.kO ?_; (first | refine NX.callO (refAt_c hA _ _) (by simp [allEq]) rfl ?_ | refine NX.callO (refLay_c hA K hK) (by simp [allEq]) rfl ?_ | refine NX.callO (refInts_c hA _ _) (by simp [allEq]) rfl ?_))
        | ((first | (refine NX.k 1 ?_; first | refine NX.one (One.elemM hA tabOk rfl rfl rfl rfl ?_ ?_) ?_ | refine NX.one (One.elemOwnM hA tabOk rfl rfl rfl rfl rfl ?_ ?_) ?_) | (refine NX.k 2 ?_; first | refine NX.one (One.clipM tabOk rfl rfl rfl rfl rfl ?_ ?_) ?_ | refine NX.one (One.cut_hM hA tabOk rfl rfl rfl rfl ?_ ?_) ?_ | refine NX.one (One.cut_lM hA tabOk rfl rfl rfl rfl ?_ ?_) ?_ | refine NX.one (One.cut_lhM hA tabOk rfl rfl rfl rfl rfl ?_ ?_ ?_) ?_) | (refine NX.k 3 ?_; first | refine NX.one (One.quoM hA rfl rfl rfl ?_) ?_) | (refine NX.k 4 ?_; first | refine NX.one (One.remM hA rfl rfl rfl ?_) ?_) | (refine NX.k 5 ?_; first | refine NX.one (One.shrM hA rfl rfl rfl ?_) ?_) | (refine NX.k 6 ?_; first | refine NX.one (One.bitsM hA rfl rfl rfl rfl) ?_) | (refine NX.k 7 ?_; first | refine NX.one (One.concatM hA rfl rfl rfl ?_) ?_) | (refine NX.k 8 ?_; first | refine NX.one (One.eqBoolM hA tabOk rfl rfl rfl rfl rfl) ?_) | (refine NX.k 9 ?_; first | refine NX.one (One.neBoolM hA tabOk rfl rfl rfl rfl rfl) ?_) | (refine NX.k 10 ?_; first | refine NX.one (One.lenOwnM hA tabOk rfl rfl rfl rfl) ?_) | (refine NX.k 11 ?_; first | refine NX.one (One.appendM hA tabOk _ rfl rfl rfl rfl rfl rfl ?_ ?_) ?_ | refine NX.one (One.appendMM hA tabOk rfl rfl rfl rfl rfl ?_ ?_) ?_ | refine NX.one (One.appendOwnM hA tabOk _ rfl rfl rfl rfl rfl rfl rfl ?_ ?_) ?_ | refine NX.one (One.appendOwnMM hA tabOk rfl rfl rfl rfl rfl rfl ?_ ?_) ?_ | refine NX.one (One.appendOwn0 hA tabOk rfl rfl rfl rfl rfl rfl ?_ ?_) ?_) | (refine NX.k 13 ?_; first | refine NX.one (One.byteM hA tabOk rfl rfl rfl rfl rfl ?_ ?_) ?_) | (refine NX.k 14 ?_; first | refine NX.one (One.loadRatM hA tabOk rfl rfl rfl rfl rfl rfl ?_) ?_) | (refine NX.k 15 ?_; first | refine NX.one (One.storeRatM hA tabOk _ rfl rfl rfl rfl rfl rfl rfl rfl (fun _ => rfl) ?_) ?_) | (refine NX.k 16 ?_; first | refine NX.one (One.makeM hA tabOk encI 0 rfl rfl rfl rfl rfl rfl rfl ?_ ?_ ?_) ?_) | (refine NX.k 17 ?_; first | refine NX.one (One.build0 tabOk rfl rfl) ?_) | (refine NX.k 18 ?_; first | refine NX.one (One.fieldRat tabOk rfl rfl rfl rfl (by decide) rfl rfl) ?_) | (refine NX.k 23 ?_; first | refine NX.one (One.lookupI (q := .i64) hA rfl rfl rfl (by conv => lhs; cbv) (by decide +kernel)) ?_ | refine NX.one (One.lookupI (q := .u8) hA rfl rfl rfl (by conv => lhs; cbv) (by decide +kernel)) ?_ | refine NX.one (One.lookupI1 (q := .i64) hA rfl rfl rfl (by conv => lhs; cbv) (by decide +kernel)) ?_ | refine NX.one (One.lookupI1 (q := .u8) hA rfl rfl rfl (by conv => lhs; cbv) (by decide +kernel)) ?_) | (refine NX.k 26 ?_; first | refine NX.mapLit .i64 (by conv => lhs; cbv) (by decide +kernel) ?_ | refine NX.mapLit .u8 (by conv => lhs; cbv) (by decide +kernel) ?_)) <;> (first | refine AOLg.pass ?_ | (((try simp only [zn]) <;> (try simp (disch := omega) only [zz hA, zb, zy, reduceCtorEq, Bool.false_eq_true, Int.reduceLT, Int.reduceLE, Int.reduceNeg]) <;> (try simp only [zw])) <;> omega)))
        | refine NX.raw ?_)
    | (refine TRg.pass ?_; refine TRg.nx hA tabOk (by conv => lhs; cbv) ?_; first
        | refine TX.done ?_
        | refine TX.gt ?_
        | refine TX.gf ?_
        | (refine TX.gs ?_ ?_ <;> intro hc <;> rw [hc] <;> ((try simp only [zn] at hc) <;> (try simp (disch := omega) only [zz hA, zb, zy, reduceCtorEq, Bool.false_eq_true, Int.reduceLT, Int.reduceLE, Int.reduceNeg] at hc) <;> (try simp only [zw] at hc)) <;> (try (exfalso; omega)))
        | (refine TX.kC ?_; first | (with_reducible refine TX.call (refAt_c hA _ _) ?_) | (with_reducible refine TX.call (refLay_c hA K hK) ?_) | (with_reducible refine TX.call (refInts_c hA _ _) ?_) | ((first | refine TX.call (refAt_c hA _ _) ?_ | refine TX.call (refLay_c hA K hK) ?_ | refine TX.call (refInts_c hA _ _) ?_)) | fail)
        | (refine TX.kO ?_; (first | refine TX.callO (refAt_c hA _ _) (by simp [allEq]) rfl ?_ | refine TX.callO (refLay_c hA K hK) (by simp [allEq]) rfl ?_ | refine TX.callO (refInts_c hA _ _) (by simp [allEq]) rfl ?_))
        | ((first | (refine TX.k 1 ?_; first | refine TX.one (One.elemM hA tabOk rfl rfl rfl rfl ?_ ?_) ?_ | refine TX.one (One.elemOwnM hA tabOk rfl rfl rfl rfl rfl ?_ ?_) ?_) | (refine TX.k 2 ?_; first | refine TX.one (One.clipM tabOk rfl rfl rfl rfl rfl ?_ ?_) ?_ | refine TX.one (One.cut_hM hA tabOk rfl rfl rfl rfl ?_ ?_) ?_ | refine TX.one (One.cut_lM hA tabOk rfl rfl rfl rfl ?_ ?_) ?_ | refine TX.one (One.cut_lhM hA tabOk rfl rfl rfl rfl rfl ?_ ?_ ?_) ?_) | (refine TX.k 3 ?_; first | refine TX.one (One.quoM hA rfl rfl rfl ?_) ?_) | (refine TX.k 4 ?_; first | refine TX.one (One.remM hA rfl rfl rfl ?_) ?_) | (refine TX.k 5 ?_; first | refine TX.one (One.shrM hA rfl rfl rfl ?_) ?_) | (refine TX.k 6 ?_; first | refine TX.one (One.bitsM hA rfl rfl rfl rfl) ?_) | (refine TX.k 7 ?_; first | refine TX.one (One.concatM hA rfl rfl rfl ?_) ?_) | (refine TX.k 8 ?_; first | refine TX.one (One.eqBoolM hA tabOk rfl rfl rfl rfl rfl) ?_) | (refine TX.k 9 ?_; first | refine TX.one (One.neBoolM hA tabOk rfl rfl rfl rfl rfl) ?_) | (refine TX.k 10 ?_; first | refine TX.one (One.lenOwnM hA tabOk rfl rfl rfl rfl) ?_) | (refine TX.k 11 ?_; first | refine TX.one (One.appendM hA tabOk _ rfl rfl rfl rfl rfl rfl ?_ ?_) ?_ | refine TX.one (One.appendMM hA tabOk rfl rfl rfl rfl rfl ?_ ?_) ?_ | refine TX.one (One.appendOwnM hA tabOk _ rfl rfl rfl rfl rfl rfl rfl ?_ ?_) ?_ | refine TX.one (One.appendOwnMM hA tabOk rfl rfl rfl rfl rfl rfl ?_ ?_) ?_ | refine TX.one (One.appendOwn0 hA tabOk rfl rfl rfl rfl rfl rfl ?_ ?_) ?_) | (refine TX.k 13 ?_; first | refine TX.one (One.byteM hA tabOk rfl rfl rfl rfl rfl ?_ ?_) ?_) | (refine TX.k 14 ?_; first | refine TX.one (One.loadRatM hA tabOk rfl rfl rfl rfl rfl rfl ?_) ?_) | (refine TX.k 15 ?_; first | refine TX.one (One.storeRatM hA tabOk _ rfl rfl rfl rfl rfl rfl rfl rfl (fun _ => rfl) ?_) ?_) | (refine TX.k 16 ?_; first | refine TX.one (One.makeM hA tabOk encI 0 rfl rfl rfl rfl rfl rfl rfl ?_ ?_ ?_) ?_) | (refine TX.k 17 ?_; first | refine TX.one (One.build0 tabOk rfl rfl) ?_) | (refine TX.k 18 ?_; first | refine TX.one (One.fieldRat tabOk rfl rfl rfl rfl (by decide) rfl rfl) ?_) | (refine TX.k 23 ?_; first | refine TX.one (One.lookupI (q := .i64) hA rfl rfl rfl (by conv => lhs; cbv) (by decide +kernel)) ?_ | refine TX.one (One.lookupI (q := .u8) hA rfl rfl rfl (by conv => lhs; cbv) (by decide +kernel)) ?_ | refine TX.one (One.lookupI1 (q := .i64) hA rfl rfl rfl (by conv => lhs; cbv) (by decide +kernel)) ?_ | refine TX.one (One.lookupI1 (q := .u8) hA rfl rfl rfl (by conv => lhs; cbv) (by decide +kernel)) ?_)) <;> (first | refine TRg.pass ?_ | (((try simp only [zn]) <;> (try simp (disch := omega) only [zz hA, zb, zy, reduceCtorEq, Bool.false_eq_true, Int.reduceLT, Int.reduceLE, Int.reduceNeg]) <;> (try simp only [zw])) <;> omega)))
        | refine TX.raw ?_)
    | refine Fin3.of (by conv => lhs; cbv) (by repeat' (first | exact True.intro | exact rfl | refine And.intro ?_ ?_)) ?_ ?_
    | (refine AllO.pass ?_; first
        | exact AllO.nil
        | (refine AllO.cons (One.ev hA tabOk ?_) ?_ <;> (first | refine AllO.pass ?_ | ((conv => lhs; cbv); done)))
        | (refine AllO.cons (One.skipB ?_) ?_ <;> (first | refine AllO.pass ?_ | ((conv => lhs; cbv); done)))
        | ((with_reducible refine AllO.call (by conv => lhs; cbv) (refAt_c hA _ _) ?_ ?_) <;> (first | refine AllO.pass ?_ | exact rfl | (((try simp only [zn]) <;> (try simp (disch := omega) only [zz hA, zb, zy, reduceCtorEq, Bool.false_eq_true, Int.reduceLT, Int.reduceLE, Int.reduceNeg]) <;> (try simp only [zw])) <;> omega)))
        | ((with_reducible refine AllO.call (by conv => lhs; cbv) (refLay_c hA K hK) ?_ ?_) <;> (first | refine AllO.pass ?_ | exact rfl | (((try simp only [zn]) <;> (try simp (disch := omega) only [zz hA, zb, zy, reduceCtorEq, Bool.false_eq_true, Int.reduceLT, Int.reduceLE, Int.reduceNeg]) <;> (try simp only [zw])) <;> omega)))
        | ((with_reducible refine AllO.call (by conv => lhs; cbv) (refInts_c hA _ _) ?_ ?_) <;> (first | refine AllO.pass ?_ | exact rfl | (((try simp only [zn]) <;> (try simp (disch := omega) only [zz hA, zb, zy, reduceCtorEq, Bool.false_eq_true, Int.reduceLT, Int.reduceLE, Int.reduceNeg]) <;> (try simp only [zw])) <;> omega)))
        | ((first | refine AllO.consX (One.elemM hA tabOk rfl rfl rfl rfl ?_ ?_) rfl rfl ?_ | refine AllO.consX (One.cut_hM hA tabOk rfl rfl rfl rfl ?_ ?_) rfl rfl ?_ | refine AllO.consX (One.cut_lM hA tabOk rfl rfl rfl rfl ?_ ?_) rfl rfl ?_ | refine AllO.consX (One.cut_lhM hA tabOk rfl rfl rfl rfl rfl ?_ ?_ ?_) rfl rfl ?_ | refine AllO.consX (One.quoM hA rfl rfl rfl ?_) rfl rfl ?_ | refine AllO.consX (One.remM hA rfl rfl rfl ?_) rfl rfl ?_ | refine AllO.consX (One.byteM hA tabOk rfl rfl rfl rfl rfl ?_ ?_) rfl rfl ?_ | refine AllO.consX (One.concatM hA rfl rfl rfl ?_) rfl rfl ?_ | refine AllO.consX (One.lenOwnM hA tabOk rfl rfl rfl rfl) rfl rfl ?_ | refine AllO.consX (One.elemOwnM hA tabOk rfl rfl rfl rfl rfl ?_ ?_) rfl rfl ?_ | refine AllO.consX (One.loadRatM hA tabOk rfl rfl rfl rfl rfl rfl ?_) rfl rfl ?_) <;> (first | refine AllO.pass ?_ | (((try simp only [zn]) <;> (try simp (disch := omega) only [zz hA, zb, zy, reduceCtorEq, Bool.false_eq_true, Int.reduceLT, Int.reduceLE, Int.reduceNeg]) <;> (try simp only [zw])) <;> omega))))
    | refine Thn.exit ?_
    | refine Blk.here ?_
    | refine Blk.other (by decide) ?_
    | refine ⟨.inl rfl, _, RetOk.ev tabOk (by conv => lhs; cbv), ?_⟩
    | fail)
  · refine rPV_then (by conv => lhs; cbv) ?_
    ((try simp only [zn]) <;> (try simp (disch := omega) only [zz hA, zb, zy, reduceCtorEq, Bool.false_eq_true, Int.reduceLT, Int.reduceLE, Int.reduceNeg]) <;> (try simp only [zw]))
    rw [decide_eq_false fun h => nodup_false (K := K) (i := k) (by omega) hc h.1]
  · refine ⟨k + 1, ?_, ?_, rfl, rfl, ?_, (by repeat' (first | exact subE.nil | refine subE.cons rfl ?_))⟩ <;> (try omega)
    repeat' (first | exact subE.nil | refine subE.cons rfl ?_ | refine subE.int rfl ?_ ?_ | refine subE.bool rfl ?_ ?_ | refine subE.str rfl ?_ ?_ | refine subE.sl rfl ?_ ?_)
    · refine ⟨by omega, fun i hi => ?_⟩
      rcases Nat.lt_or_ge i k with h | h
      · exact hat i h
      · obtain rfl : i = k := by omega
        exact hc
    · (((try simp only [zn]) <;> (try simp (disch := omega) only [zz hA, zb, zy, reduceCtorEq, Bool.false_eq_true, Int.reduceLT, Int.reduceLE, Int.reduceNeg]) <;> (try simp only [zw])) <;> omega)
  · refine rPV_then (by conv => lhs; cbv) ?_
    ((try simp only [zn]) <;> (try simp (disch := omega) only [zz hA, zb, zy, reduceCtorEq, Bool.false_eq_true, Int.reduceLT, Int.reduceLE, Int.reduceNeg]) <;> (try simp only [zw]))
    have hn : K.Nodup := (nodup_at K).2 fun i hi => hat i (by omega)
    simp [hn]
theorem right_c (K : List (List Int)) (S : List Int) (hK : K.length ≤ 900000) (hk : ∀ x ∈ K, x.length ≤ 1000000) (hS : S.length ≤ 100000000) : PureCalls Try.prog 39 [keyedPV A K S] (BP (hid A (decide (K.Nodup ∧ S = layM K)))) := by
  have hb := sizeM_bound K.length
  have hll := layM_len K
  refine PureCalls.of Try.func39 rfl (by kernel_rfl) rfl ?_
  try first | refine AOLg.of [] ?_ | refine QSg.of [] ?_
  repeat' (first
    | (refine AWp.pass ?_; first
        | refine AWp.seq ?_
        | refine AWp.block ?_
        | refine AWp.skip ?_
        | refine AWp.regG [] (by conv => lhs; cbv) ?_
        | refine AWp.cond_t rfl ?_
        | refine AWp.cond_f rfl ?_
        | (refine AWp.cond rfl ?_ ?_ <;> intro hc <;> (try rw [hc]) <;> ((try simp only [zn] at hc) <;> (try simp (disch := omega) only [zz hA, zb, zy, reduceCtorEq, Bool.false_eq_true, Int.reduceLT, Int.reduceLE, Int.reduceNeg] at hc) <;> (try simp only [zw] at hc)) <;> (try (exfalso; omega)))
        | refine AWp.exit ?_
        | refine AWp.ret ⟨.inr rfl, _, RetOk.ev tabOk (by conv => lhs; cbv), ?_⟩
        | refine AWp.drawVG [] rfl (by decide +kernel) (by conv => lhs; cbv) ?_)
    | (refine AOLg.pass ?_; refine AOLg.nx hA tabOk (by conv => lhs; cbv) ?_; first
        | refine NX.done ?_
        | refine NX.gt ?_
        | refine NX.gf ?_
        | (refine NX.gs ?_ ?_ <;> intro hc <;> rw [hc] <;> ((try simp only [zn] at hc) <;> (try simp (disch := omega) only [zz hA, zb, zy, reduceCtorEq, Bool.false_eq_true, Int.reduceLT, Int.reduceLE, Int.reduceNeg] at hc) <;> (try simp only [zw] at hc)) <;> (try (exfalso; omega)))
        | (refine NX.kC ?_; first | (with_reducible refine NX.call (lay_c hA K (by omega) hk) ?_) | (with_reducible refine NX.call (eqInts_c hA _ _) ?_) | ((first | refine NX.call (lay_c hA K (by omega) hk) ?_ | refine NX.call (eqInts_c hA _ _) ?_)) | fail)
        | (refine NX.kO ?_; (first | refine NX.callO (lay_c hA K (by omega) hk) (by simp [allEq]) rfl ?_ | refine NX.callO (eqInts_c hA _ _) (by simp [allEq]) rfl ?_))
        | ((first | (refine NX.k 1 ?_; first | refine NX.one (One.elemM hA tabOk rfl rfl rfl rfl ?_ ?_) ?_ | refine NX.one (One.elemOwnM hA tabOk rfl rfl rfl rfl rfl ?_ ?_) ?_) | (refine NX.k 2 ?_; first | refine NX.one (One.clipM tabOk rfl rfl rfl rfl rfl ?_ ?_) ?_ | refine NX.one (One.cut_hM hA tabOk rfl rfl rfl rfl ?_ ?_) ?_ | refine NX.one (One.cut_lM hA tabOk rfl rfl rfl rfl ?_ ?_) ?_ | refine NX.one (One.cut_lhM hA tabOk rfl rfl rfl rfl rfl ?_ ?_ ?_) ?_) | (refine NX.k 3 ?_; first | refine NX.one (One.quoM hA rfl rfl rfl ?_) ?_) | (refine NX.k 4 ?_; first | refine NX.one (One.remM hA rfl rfl rfl ?_) ?_) | (refine NX.k 5 ?_; first | refine NX.one (One.shrM hA rfl rfl rfl ?_) ?_) | (refine NX.k 6 ?_; first | refine NX.one (One.bitsM hA rfl rfl rfl rfl) ?_) | (refine NX.k 7 ?_; first | refine NX.one (One.concatM hA rfl rfl rfl ?_) ?_) | (refine NX.k 8 ?_; first | refine NX.one (One.eqBoolM hA tabOk rfl rfl rfl rfl rfl) ?_) | (refine NX.k 9 ?_; first | refine NX.one (One.neBoolM hA tabOk rfl rfl rfl rfl rfl) ?_) | (refine NX.k 10 ?_; first | refine NX.one (One.lenOwnM hA tabOk rfl rfl rfl rfl) ?_) | (refine NX.k 11 ?_; first | refine NX.one (One.appendM hA tabOk _ rfl rfl rfl rfl rfl rfl ?_ ?_) ?_ | refine NX.one (One.appendMM hA tabOk rfl rfl rfl rfl rfl ?_ ?_) ?_ | refine NX.one (One.appendOwnM hA tabOk _ rfl rfl rfl rfl rfl rfl rfl ?_ ?_) ?_ | refine NX.one (One.appendOwnMM hA tabOk rfl rfl rfl rfl rfl rfl ?_ ?_) ?_ | refine NX.one (One.appendOwn0 hA tabOk rfl rfl rfl rfl rfl rfl ?_ ?_) ?_) | (refine NX.k 13 ?_; first | refine NX.one (One.byteM hA tabOk rfl rfl rfl rfl rfl ?_ ?_) ?_) | (refine NX.k 14 ?_; first | refine NX.one (One.loadRatM hA tabOk rfl rfl rfl rfl rfl rfl ?_) ?_) | (refine NX.k 15 ?_; first | refine NX.one (One.storeRatM hA tabOk _ rfl rfl rfl rfl rfl rfl rfl rfl (fun _ => rfl) ?_) ?_) | (refine NX.k 16 ?_; first | refine NX.one (One.makeM hA tabOk encI 0 rfl rfl rfl rfl rfl rfl rfl ?_ ?_ ?_) ?_) | (refine NX.k 17 ?_; first | refine NX.one (One.build0 tabOk rfl rfl) ?_) | (refine NX.k 18 ?_; first | refine NX.one (One.fieldRat tabOk rfl rfl rfl rfl (by decide) rfl rfl) ?_) | (refine NX.k 23 ?_; first | refine NX.one (One.lookupI (q := .i64) hA rfl rfl rfl (by conv => lhs; cbv) (by decide +kernel)) ?_ | refine NX.one (One.lookupI (q := .u8) hA rfl rfl rfl (by conv => lhs; cbv) (by decide +kernel)) ?_ | refine NX.one (One.lookupI1 (q := .i64) hA rfl rfl rfl (by conv => lhs; cbv) (by decide +kernel)) ?_ | refine NX.one (One.lookupI1 (q := .u8) hA rfl rfl rfl (by conv => lhs; cbv) (by decide +kernel)) ?_) | (refine NX.k 26 ?_; first | refine NX.mapLit .i64 (by conv => lhs; cbv) (by decide +kernel) ?_ | refine NX.mapLit .u8 (by conv => lhs; cbv) (by decide +kernel) ?_)) <;> (first | refine AOLg.pass ?_ | (((try simp only [zn]) <;> (try simp (disch := omega) only [zz hA, zb, zy, reduceCtorEq, Bool.false_eq_true, Int.reduceLT, Int.reduceLE, Int.reduceNeg]) <;> (try simp only [zw])) <;> omega)))
        | refine NX.raw ?_)
    | (refine TRg.pass ?_; refine TRg.nx hA tabOk (by conv => lhs; cbv) ?_; first
        | refine TX.done ?_
        | refine TX.gt ?_
        | refine TX.gf ?_
        | (refine TX.gs ?_ ?_ <;> intro hc <;> rw [hc] <;> ((try simp only [zn] at hc) <;> (try simp (disch := omega) only [zz hA, zb, zy, reduceCtorEq, Bool.false_eq_true, Int.reduceLT, Int.reduceLE, Int.reduceNeg] at hc) <;> (try simp only [zw] at hc)) <;> (try (exfalso; omega)))
        | (refine TX.kC ?_; first | (with_reducible refine TX.call (lay_c hA K (by omega) hk) ?_) | (with_reducible refine TX.call (eqInts_c hA _ _) ?_) | ((first | refine TX.call (lay_c hA K (by omega) hk) ?_ | refine TX.call (eqInts_c hA _ _) ?_)) | fail)
        | (refine TX.kO ?_; (first | refine TX.callO (lay_c hA K (by omega) hk) (by simp [allEq]) rfl ?_ | refine TX.callO (eqInts_c hA _ _) (by simp [allEq]) rfl ?_))
        | ((first | (refine TX.k 1 ?_; first | refine TX.one (One.elemM hA tabOk rfl rfl rfl rfl ?_ ?_) ?_ | refine TX.one (One.elemOwnM hA tabOk rfl rfl rfl rfl rfl ?_ ?_) ?_) | (refine TX.k 2 ?_; first | refine TX.one (One.clipM tabOk rfl rfl rfl rfl rfl ?_ ?_) ?_ | refine TX.one (One.cut_hM hA tabOk rfl rfl rfl rfl ?_ ?_) ?_ | refine TX.one (One.cut_lM hA tabOk rfl rfl rfl rfl ?_ ?_) ?_ | refine TX.one (One.cut_lhM hA tabOk rfl rfl rfl rfl rfl ?_ ?_ ?_) ?_) | (refine TX.k 3 ?_; first | refine TX.one (One.quoM hA rfl rfl rfl ?_) ?_) | (refine TX.k 4 ?_; first | refine TX.one (One.remM hA rfl rfl rfl ?_) ?_) | (refine TX.k 5 ?_; first | refine TX.one (One.shrM hA rfl rfl rfl ?_) ?_) | (refine TX.k 6 ?_; first | refine TX.one (One.bitsM hA rfl rfl rfl rfl) ?_) | (refine TX.k 7 ?_; first | refine TX.one (One.concatM hA rfl rfl rfl ?_) ?_) | (refine TX.k 8 ?_; first | refine TX.one (One.eqBoolM hA tabOk rfl rfl rfl rfl rfl) ?_) | (refine TX.k 9 ?_; first | refine TX.one (One.neBoolM hA tabOk rfl rfl rfl rfl rfl) ?_) | (refine TX.k 10 ?_; first | refine TX.one (One.lenOwnM hA tabOk rfl rfl rfl rfl) ?_) | (refine TX.k 11 ?_; first | refine TX.one (One.appendM hA tabOk _ rfl rfl rfl rfl rfl rfl ?_ ?_) ?_ | refine TX.one (One.appendMM hA tabOk rfl rfl rfl rfl rfl ?_ ?_) ?_ | refine TX.one (One.appendOwnM hA tabOk _ rfl rfl rfl rfl rfl rfl rfl ?_ ?_) ?_ | refine TX.one (One.appendOwnMM hA tabOk rfl rfl rfl rfl rfl rfl ?_ ?_) ?_ | refine TX.one (One.appendOwn0 hA tabOk rfl rfl rfl rfl rfl rfl ?_ ?_) ?_) | (refine TX.k 13 ?_; first | refine TX.one (One.byteM hA tabOk rfl rfl rfl rfl rfl ?_ ?_) ?_) | (refine TX.k 14 ?_; first | refine TX.one (One.loadRatM hA tabOk rfl rfl rfl rfl rfl rfl ?_) ?_) | (refine TX.k 15 ?_; first | refine TX.one (One.storeRatM hA tabOk _ rfl rfl rfl rfl rfl rfl rfl rfl (fun _ => rfl) ?_) ?_) | (refine TX.k 16 ?_; first | refine TX.one (One.makeM hA tabOk encI 0 rfl rfl rfl rfl rfl rfl rfl ?_ ?_ ?_) ?_) | (refine TX.k 17 ?_; first | refine TX.one (One.build0 tabOk rfl rfl) ?_) | (refine TX.k 18 ?_; first | refine TX.one (One.fieldRat tabOk rfl rfl rfl rfl (by decide) rfl rfl) ?_) | (refine TX.k 23 ?_; first | refine TX.one (One.lookupI (q := .i64) hA rfl rfl rfl (by conv => lhs; cbv) (by decide +kernel)) ?_ | refine TX.one (One.lookupI (q := .u8) hA rfl rfl rfl (by conv => lhs; cbv) (by decide +kernel)) ?_ | refine TX.one (One.lookupI1 (q := .i64) hA rfl rfl rfl (by conv => lhs; cbv) (by decide +kernel)) ?_ | refine TX.one (One.lookupI1 (q := .u8) hA rfl rfl rfl (by conv => lhs; cbv) (by decide +kernel)) ?_)) <;> (first | refine TRg.pass ?_ | (((try simp only [zn]) <;> (try simp (disch := omega) only [zz hA, zb, zy, reduceCtorEq, Bool.false_eq_true, Int.reduceLT, Int.reduceLE, Int.reduceNeg]) <;> (try simp only [zw])) <;> omega)))
        | refine TX.raw ?_)
    | refine Fin3.of (by conv => lhs; cbv) (by repeat' (first | exact True.intro | exact rfl | refine And.intro ?_ ?_)) ?_ ?_
    | (refine AllO.pass ?_; first
        | exact AllO.nil
        | (refine AllO.cons (One.ev hA tabOk ?_) ?_ <;> (first | refine AllO.pass ?_ | ((conv => lhs; cbv); done)))
        | (refine AllO.cons (One.skipB ?_) ?_ <;> (first | refine AllO.pass ?_ | ((conv => lhs; cbv); done)))
        | ((with_reducible refine AllO.call (by conv => lhs; cbv) (lay_c hA K (by omega) hk) ?_ ?_) <;> (first | refine AllO.pass ?_ | exact rfl | (((try simp only [zn]) <;> (try simp (disch := omega) only [zz hA, zb, zy, reduceCtorEq, Bool.false_eq_true, Int.reduceLT, Int.reduceLE, Int.reduceNeg]) <;> (try simp only [zw])) <;> omega)))
        | ((with_reducible refine AllO.call (by conv => lhs; cbv) (eqInts_c hA _ _) ?_ ?_) <;> (first | refine AllO.pass ?_ | exact rfl | (((try simp only [zn]) <;> (try simp (disch := omega) only [zz hA, zb, zy, reduceCtorEq, Bool.false_eq_true, Int.reduceLT, Int.reduceLE, Int.reduceNeg]) <;> (try simp only [zw])) <;> omega)))
        | ((first | refine AllO.consX (One.elemM hA tabOk rfl rfl rfl rfl ?_ ?_) rfl rfl ?_ | refine AllO.consX (One.cut_hM hA tabOk rfl rfl rfl rfl ?_ ?_) rfl rfl ?_ | refine AllO.consX (One.cut_lM hA tabOk rfl rfl rfl rfl ?_ ?_) rfl rfl ?_ | refine AllO.consX (One.cut_lhM hA tabOk rfl rfl rfl rfl rfl ?_ ?_ ?_) rfl rfl ?_ | refine AllO.consX (One.quoM hA rfl rfl rfl ?_) rfl rfl ?_ | refine AllO.consX (One.remM hA rfl rfl rfl ?_) rfl rfl ?_ | refine AllO.consX (One.byteM hA tabOk rfl rfl rfl rfl rfl ?_ ?_) rfl rfl ?_ | refine AllO.consX (One.concatM hA rfl rfl rfl ?_) rfl rfl ?_ | refine AllO.consX (One.lenOwnM hA tabOk rfl rfl rfl rfl) rfl rfl ?_ | refine AllO.consX (One.elemOwnM hA tabOk rfl rfl rfl rfl rfl ?_ ?_) rfl rfl ?_ | refine AllO.consX (One.loadRatM hA tabOk rfl rfl rfl rfl rfl rfl ?_) rfl rfl ?_) <;> (first | refine AllO.pass ?_ | (((try simp only [zn]) <;> (try simp (disch := omega) only [zz hA, zb, zy, reduceCtorEq, Bool.false_eq_true, Int.reduceLT, Int.reduceLE, Int.reduceNeg]) <;> (try simp only [zw])) <;> omega))))
    | refine Thn.exit ?_
    | refine Blk.here ?_
    | refine Blk.other (by decide) ?_
    | refine ⟨.inl rfl, _, RetOk.ev tabOk (by conv => lhs; cbv), ?_⟩
    | fail)
  · refine rPV_then (by conv => lhs; cbv) ?_
    ((try simp only [zn]) <;> (try simp (disch := omega) only [zz hA, zb, zy, reduceCtorEq, Bool.false_eq_true, Int.reduceLT, Int.reduceLE, Int.reduceNeg]) <;> (try simp only [zw]))
    rw [decide_eq_false fun h => hc h.2]
  · subst hc
    refine AWp.loopU (fun k : Nat => [(15, .ic (.lit (.int .i64 (hid A (cN k)))))]) (fun _ => [.var true 25 [.ic (.sl 1 false (hid A (List.map (encK A) K))), .ic (.sl 1 false (hid A (List.map encI (layM K))))]]) (fun k => K.length - k) (fun k => k ≤ K.length ∧ ∀ i, i < k → findM K (layM K) (K.getD i default) = i) 0 (by conv => lhs; cbv) ⟨by omega, by simp⟩ (by (repeat' (first | exact subE.nil | refine subE.cons rfl ?_ | refine subE.int rfl ?_ ?_ | refine subE.bool rfl ?_ ?_ | refine subE.str rfl ?_ ?_ | refine subE.sl rfl ?_ ?_)) <;> simp [hA, real, hid, cN]) rfl ?_
    rintro k ⟨hk2, hat⟩
    have hkl : k < K.length → (hid A (K.getD (hid A (cN k)).toNat default)).length ≤ 1000000 := fun h => by
      ((try simp only [zn]) <;> (try simp (disch := omega) only [zz hA, zb, zy, reduceCtorEq, Bool.false_eq_true, Int.reduceLT, Int.reduceLE, Int.reduceNeg]) <;> (try simp only [zw]))
      refine hk _ ?_
      rw [List.getD_eq_getElem?_getD, List.getElem?_eq_getElem h]
      exact List.getElem_mem _
    try first | refine AOLg.of [] ?_ | refine QSg.of [] ?_
    repeat' (first
      | (refine AWp.pass ?_; first
          | refine AWp.seq ?_
          | refine AWp.block ?_
          | refine AWp.skip ?_
          | refine AWp.regG [] (by conv => lhs; cbv) ?_
          | refine AWp.cond_t rfl ?_
          | refine AWp.cond_f rfl ?_
          | (refine AWp.cond rfl ?_ ?_ <;> intro hc <;> (try rw [hc]) <;> ((try simp only [zn] at hc) <;> (try simp (disch := omega) only [zz hA, zb, zy, reduceCtorEq, Bool.false_eq_true, Int.reduceLT, Int.reduceLE, Int.reduceNeg] at hc) <;> (try simp only [zw] at hc)) <;> (try (exfalso; omega)))
          | refine AWp.exit ?_
          | refine AWp.ret ⟨.inr rfl, _, RetOk.ev tabOk (by conv => lhs; cbv), ?_⟩
          | refine AWp.drawVG [] rfl (by decide +kernel) (by conv => lhs; cbv) ?_)
      | (refine AOLg.pass ?_; refine AOLg.nx hA tabOk (by conv => lhs; cbv) ?_; first
          | refine NX.done ?_
          | refine NX.gt ?_
          | refine NX.gf ?_
          | (refine NX.gs ?_ ?_ <;> intro hc <;> rw [hc] <;> ((try simp only [zn] at hc) <;> (try simp (disch := omega) only [zz hA, zb, zy, reduceCtorEq, Bool.false_eq_true, Int.reduceLT, Int.reduceLE, Int.reduceNeg] at hc) <;> (try simp only [zw] at hc)) <;> (try (exfalso; omega)))
          | (refine NX.kC ?_; first | (with_reducible refine NX.call (find_c hA K (layM K) _ (by omega) (layM_vals K) (by omega) (hkl (by omega))) ?_) | ((first | refine NX.call (find_c hA K (layM K) _ (by omega) (layM_vals K) (by omega) (hkl (by omega))) ?_)) | fail)
          | (refine NX.kO ?_; (first | refine NX.callO (find_c hA K (layM K) _ (by omega) (layM_vals K) (by omega) (hkl (by omega))) (by simp [allEq]) rfl ?_))
          | ((first | (refine NX.k 1 ?_; first | refine NX.one (One.elemM hA tabOk rfl rfl rfl rfl ?_ ?_) ?_ | refine NX.one (One.elemOwnM hA tabOk rfl rfl rfl rfl rfl ?_ ?_) ?_) | (refine NX.k 2 ?_; first | refine NX.one (One.clipM tabOk rfl rfl rfl rfl rfl ?_ ?_) ?_ | refine NX.one (One.cut_hM hA tabOk rfl rfl rfl rfl ?_ ?_) ?_ | refine NX.one (One.cut_lM hA tabOk rfl rfl rfl rfl ?_ ?_) ?_ | refine NX.one (One.cut_lhM hA tabOk rfl rfl rfl rfl rfl ?_ ?_ ?_) ?_) | (refine NX.k 3 ?_; first | refine NX.one (One.quoM hA rfl rfl rfl ?_) ?_) | (refine NX.k 4 ?_; first | refine NX.one (One.remM hA rfl rfl rfl ?_) ?_) | (refine NX.k 5 ?_; first | refine NX.one (One.shrM hA rfl rfl rfl ?_) ?_) | (refine NX.k 6 ?_; first | refine NX.one (One.bitsM hA rfl rfl rfl rfl) ?_) | (refine NX.k 7 ?_; first | refine NX.one (One.concatM hA rfl rfl rfl ?_) ?_) | (refine NX.k 8 ?_; first | refine NX.one (One.eqBoolM hA tabOk rfl rfl rfl rfl rfl) ?_) | (refine NX.k 9 ?_; first | refine NX.one (One.neBoolM hA tabOk rfl rfl rfl rfl rfl) ?_) | (refine NX.k 10 ?_; first | refine NX.one (One.lenOwnM hA tabOk rfl rfl rfl rfl) ?_) | (refine NX.k 11 ?_; first | refine NX.one (One.appendM hA tabOk _ rfl rfl rfl rfl rfl rfl ?_ ?_) ?_ | refine NX.one (One.appendMM hA tabOk rfl rfl rfl rfl rfl ?_ ?_) ?_ | refine NX.one (One.appendOwnM hA tabOk _ rfl rfl rfl rfl rfl rfl rfl ?_ ?_) ?_ | refine NX.one (One.appendOwnMM hA tabOk rfl rfl rfl rfl rfl rfl ?_ ?_) ?_ | refine NX.one (One.appendOwn0 hA tabOk rfl rfl rfl rfl rfl rfl ?_ ?_) ?_) | (refine NX.k 13 ?_; first | refine NX.one (One.byteM hA tabOk rfl rfl rfl rfl rfl ?_ ?_) ?_) | (refine NX.k 14 ?_; first | refine NX.one (One.loadRatM hA tabOk rfl rfl rfl rfl rfl rfl ?_) ?_) | (refine NX.k 15 ?_; first | refine NX.one (One.storeRatM hA tabOk _ rfl rfl rfl rfl rfl rfl rfl rfl (fun _ => rfl) ?_) ?_) | (refine NX.k 16 ?_; first | refine NX.one (One.makeM hA tabOk encI 0 rfl rfl rfl rfl rfl rfl rfl ?_ ?_ ?_) ?_) | (refine NX.k 17 ?_; first | refine NX.one (One.build0 tabOk rfl rfl) ?_) | (refine NX.k 18 ?_; first | refine NX.one (One.fieldRat tabOk rfl rfl rfl rfl (by decide) rfl rfl) ?_) | (refine NX.k 23 ?_; first | refine NX.one (One.lookupI (q := .i64) hA rfl rfl rfl (by conv => lhs; cbv) (by decide +kernel)) ?_ | refine NX.one (One.lookupI (q := .u8) hA rfl rfl rfl (by conv => lhs; cbv) (by decide +kernel)) ?_ | refine NX.one (One.lookupI1 (q := .i64) hA rfl rfl rfl (by conv => lhs; cbv) (by decide +kernel)) ?_ | refine NX.one (One.lookupI1 (q := .u8) hA rfl rfl rfl (by conv => lhs; cbv) (by decide +kernel)) ?_) | (refine NX.k 26 ?_; first | refine NX.mapLit .i64 (by conv => lhs; cbv) (by decide +kernel) ?_ | refine NX.mapLit .u8 (by conv => lhs; cbv) (by decide +kernel) ?_)) <;> (first | refine AOLg.pass ?_ | (((try simp only [zn]) <;> (try simp (disch := omega) only [zz hA, zb, zy, reduceCtorEq, Bool.false_eq_true, Int.reduceLT, Int.reduceLE, Int.reduceNeg]) <;> (try simp only [zw])) <;> omega)))
          | refine NX.raw ?_)
      | (refine TRg.pass ?_; refine TRg.nx hA tabOk (by conv => lhs; cbv) ?_; first
          | refine TX.done ?_
          | refine TX.gt ?_
          | refine TX.gf ?_
          | (refine TX.gs ?_ ?_ <;> intro hc <;> rw [hc] <;> ((try simp only [zn] at hc) <;> (try simp (disch := omega) only [zz hA, zb, zy, reduceCtorEq, Bool.false_eq_true, Int.reduceLT, Int.reduceLE, Int.reduceNeg] at hc) <;> (try simp only [zw] at hc)) <;> (try (exfalso; omega)))
          | (refine TX.kC ?_; first | (with_reducible refine TX.call (find_c hA K (layM K) _ (by omega) (layM_vals K) (by omega) (hkl (by omega))) ?_) | ((first | refine TX.call (find_c hA K (layM K) _ (by omega) (layM_vals K) (by omega) (hkl (by omega))) ?_)) | fail)
          | (refine TX.kO ?_; (first | refine TX.callO (find_c hA K (layM K) _ (by omega) (layM_vals K) (by omega) (hkl (by omega))) (by simp [allEq]) rfl ?_))
          | ((first | (refine TX.k 1 ?_; first | refine TX.one (One.elemM hA tabOk rfl rfl rfl rfl ?_ ?_) ?_ | refine TX.one (One.elemOwnM hA tabOk rfl rfl rfl rfl rfl ?_ ?_) ?_) | (refine TX.k 2 ?_; first | refine TX.one (One.clipM tabOk rfl rfl rfl rfl rfl ?_ ?_) ?_ | refine TX.one (One.cut_hM hA tabOk rfl rfl rfl rfl ?_ ?_) ?_ | refine TX.one (One.cut_lM hA tabOk rfl rfl rfl rfl ?_ ?_) ?_ | refine TX.one (One.cut_lhM hA tabOk rfl rfl rfl rfl rfl ?_ ?_ ?_) ?_) | (refine TX.k 3 ?_; first | refine TX.one (One.quoM hA rfl rfl rfl ?_) ?_) | (refine TX.k 4 ?_; first | refine TX.one (One.remM hA rfl rfl rfl ?_) ?_) | (refine TX.k 5 ?_; first | refine TX.one (One.shrM hA rfl rfl rfl ?_) ?_) | (refine TX.k 6 ?_; first | refine TX.one (One.bitsM hA rfl rfl rfl rfl) ?_) | (refine TX.k 7 ?_; first | refine TX.one (One.concatM hA rfl rfl rfl ?_) ?_) | (refine TX.k 8 ?_; first | refine TX.one (One.eqBoolM hA tabOk rfl rfl rfl rfl rfl) ?_) | (refine TX.k 9 ?_; first | refine TX.one (One.neBoolM hA tabOk rfl rfl rfl rfl rfl) ?_) | (refine TX.k 10 ?_; first | refine TX.one (One.lenOwnM hA tabOk rfl rfl rfl rfl) ?_) | (refine TX.k 11 ?_; first | refine TX.one (One.appendM hA tabOk _ rfl rfl rfl rfl rfl rfl ?_ ?_) ?_ | refine TX.one (One.appendMM hA tabOk rfl rfl rfl rfl rfl ?_ ?_) ?_ | refine TX.one (One.appendOwnM hA tabOk _ rfl rfl rfl rfl rfl rfl rfl ?_ ?_) ?_ | refine TX.one (One.appendOwnMM hA tabOk rfl rfl rfl rfl rfl rfl ?_ ?_) ?_ | refine TX.one (One.appendOwn0 hA tabOk rfl rfl rfl rfl rfl rfl ?_ ?_) ?_) | (refine TX.k 13 ?_; first | refine TX.one (One.byteM hA tabOk rfl rfl rfl rfl rfl ?_ ?_) ?_) | (refine TX.k 14 ?_; first | refine TX.one (One.loadRatM hA tabOk rfl rfl rfl rfl rfl rfl ?_) ?_) | (refine TX.k 15 ?_; first | refine TX.one (One.storeRatM hA tabOk _ rfl rfl rfl rfl rfl rfl rfl rfl (fun _ => rfl) ?_) ?_) | (refine TX.k 16 ?_; first | refine TX.one (One.makeM hA tabOk encI 0 rfl rfl rfl rfl rfl rfl rfl ?_ ?_ ?_) ?_) | (refine TX.k 17 ?_; first | refine TX.one (One.build0 tabOk rfl rfl) ?_) | (refine TX.k 18 ?_; first | refine TX.one (One.fieldRat tabOk rfl rfl rfl rfl (by decide) rfl rfl) ?_) | (refine TX.k 23 ?_; first | refine TX.one (One.lookupI (q := .i64) hA rfl rfl rfl (by conv => lhs; cbv) (by decide +kernel)) ?_ | refine TX.one (One.lookupI (q := .u8) hA rfl rfl rfl (by conv => lhs; cbv) (by decide +kernel)) ?_ | refine TX.one (One.lookupI1 (q := .i64) hA rfl rfl rfl (by conv => lhs; cbv) (by decide +kernel)) ?_ | refine TX.one (One.lookupI1 (q := .u8) hA rfl rfl rfl (by conv => lhs; cbv) (by decide +kernel)) ?_)) <;> (first | refine TRg.pass ?_ | (((try simp only [zn]) <;> (try simp (disch := omega) only [zz hA, zb, zy, reduceCtorEq, Bool.false_eq_true, Int.reduceLT, Int.reduceLE, Int.reduceNeg]) <;> (try simp only [zw])) <;> omega)))
          | refine TX.raw ?_)
      | refine Fin3.of (by conv => lhs; cbv) (by repeat' (first | exact True.intro | exact rfl | refine And.intro ?_ ?_)) ?_ ?_
      | (refine AllO.pass ?_; first
          | exact AllO.nil
          | (refine AllO.cons (One.ev hA tabOk ?_) ?_ <;> (first | refine AllO.pass ?_ | ((conv => lhs; cbv); done)))
          | (refine AllO.cons (One.skipB ?_) ?_ <;> (first | refine AllO.pass ?_ | ((conv => lhs; cbv); done)))
          | ((with_reducible refine AllO.call (by conv => lhs; cbv) (find_c hA K (layM K) _ (by omega) (layM_vals K) (by omega) (hkl (by omega))) ?_ ?_) <;> (first | refine AllO.pass ?_ | exact rfl | (((try simp only [zn]) <;> (try simp (disch := omega) only [zz hA, zb, zy, reduceCtorEq, Bool.false_eq_true, Int.reduceLT, Int.reduceLE, Int.reduceNeg]) <;> (try simp only [zw])) <;> omega)))
          | ((first | refine AllO.consX (One.elemM hA tabOk rfl rfl rfl rfl ?_ ?_) rfl rfl ?_ | refine AllO.consX (One.cut_hM hA tabOk rfl rfl rfl rfl ?_ ?_) rfl rfl ?_ | refine AllO.consX (One.cut_lM hA tabOk rfl rfl rfl rfl ?_ ?_) rfl rfl ?_ | refine AllO.consX (One.cut_lhM hA tabOk rfl rfl rfl rfl rfl ?_ ?_ ?_) rfl rfl ?_ | refine AllO.consX (One.quoM hA rfl rfl rfl ?_) rfl rfl ?_ | refine AllO.consX (One.remM hA rfl rfl rfl ?_) rfl rfl ?_ | refine AllO.consX (One.byteM hA tabOk rfl rfl rfl rfl rfl ?_ ?_) rfl rfl ?_ | refine AllO.consX (One.concatM hA rfl rfl rfl ?_) rfl rfl ?_ | refine AllO.consX (One.lenOwnM hA tabOk rfl rfl rfl rfl) rfl rfl ?_ | refine AllO.consX (One.elemOwnM hA tabOk rfl rfl rfl rfl rfl ?_ ?_) rfl rfl ?_ | refine AllO.consX (One.loadRatM hA tabOk rfl rfl rfl rfl rfl rfl ?_) rfl rfl ?_) <;> (first | refine AllO.pass ?_ | (((try simp only [zn]) <;> (try simp (disch := omega) only [zz hA, zb, zy, reduceCtorEq, Bool.false_eq_true, Int.reduceLT, Int.reduceLE, Int.reduceNeg]) <;> (try simp only [zw])) <;> omega))))
      | refine Thn.exit ?_
      | refine Blk.here ?_
      | refine Blk.other (by decide) ?_
      | refine ⟨.inl rfl, _, RetOk.ev tabOk (by conv => lhs; cbv), ?_⟩
      | fail)
    · refine rPV_then (by conv => lhs; cbv) ?_
      ((try simp only [zn]) <;> (try simp (disch := omega) only [zz hA, zb, zy, reduceCtorEq, Bool.false_eq_true, Int.reduceLT, Int.reduceLE, Int.reduceNeg]) <;> (try simp only [zw]))
      rw [decide_eq_false fun h => hc ?_]
      rw [find_at K h.1]
      exact (nodup_at K).1 h.1 k (by omega)
    · refine ⟨k + 1, ?_, ?_, rfl, rfl, ?_, (by repeat' (first | exact subE.nil | refine subE.cons rfl ?_))⟩ <;> (try omega)
      repeat' (first | exact subE.nil | refine subE.cons rfl ?_ | refine subE.int rfl ?_ ?_ | refine subE.bool rfl ?_ ?_ | refine subE.str rfl ?_ ?_ | refine subE.sl rfl ?_ ?_)
      · refine ⟨by omega, fun i hi => ?_⟩
        rcases Nat.lt_or_ge i k with h | h
        · exact hat i h
        · obtain rfl : i = k := by omega
          exact hc
      · (((try simp only [zn]) <;> (try simp (disch := omega) only [zz hA, zb, zy, reduceCtorEq, Bool.false_eq_true, Int.reduceLT, Int.reduceLE, Int.reduceNeg]) <;> (try simp only [zw])) <;> omega)
    · refine rPV_then (by conv => lhs; cbv) ?_
      have hn : K.Nodup := by
        refine List.pairwise_iff_getElem.2 fun i j hi hj hij e => ?_
        have h1 := hat i (by omega)
        have h2 := hat j (by omega)
        simp only [List.getD_eq_getElem?_getD, List.getElem?_eq_getElem hi, List.getElem?_eq_getElem hj, Option.getD_some, e] at h1 h2
        omega
      simp [hn, hid, hA, real]
theorem refSame_c (K L : List (List Int)) (S T : List Int) : PureCalls Try.prog 19 [keyedPV A K S, keyedPV A L T] (BP (hid A (decide (K = L ∧ S = T)))) := by
  refine PureCalls.of Try.func19 rfl (by kernel_rfl) rfl ?_
  try first | refine AOLg.of [] ?_ | refine QSg.of [] ?_
  repeat' (first
    | (refine AWp.pass ?_; first
        | refine AWp.seq ?_
        | refine AWp.block ?_
        | refine AWp.skip ?_
        | refine AWp.regG [] (by conv => lhs; cbv) ?_
        | refine AWp.cond_t rfl ?_
        | refine AWp.cond_f rfl ?_
        | (refine AWp.cond rfl ?_ ?_ <;> intro hc <;> (try rw [hc]) <;> ((try simp only [zn] at hc) <;> (try simp (disch := omega) only [zz hA, zb, zy, reduceCtorEq, Bool.false_eq_true, Int.reduceLT, Int.reduceLE, Int.reduceNeg] at hc) <;> (try simp only [zw] at hc)) <;> (try (exfalso; omega)))
        | refine AWp.exit ?_
        | refine AWp.ret ⟨.inr rfl, _, RetOk.ev tabOk (by conv => lhs; cbv), ?_⟩)
    | (refine AOLg.pass ?_; refine AOLg.nx hA tabOk (by conv => lhs; cbv) ?_; first
        | refine NX.done ?_
        | refine NX.gt ?_
        | refine NX.gf ?_
        | (refine NX.gs ?_ ?_ <;> intro hc <;> rw [hc] <;> ((try simp only [zn] at hc) <;> (try simp (disch := omega) only [zz hA, zb, zy, reduceCtorEq, Bool.false_eq_true, Int.reduceLT, Int.reduceLE, Int.reduceNeg] at hc) <;> (try simp only [zw] at hc)) <;> (try (exfalso; omega)))
        | (refine NX.kC ?_; first | (with_reducible refine NX.call (refRows_c hA _ _) ?_) | (with_reducible refine NX.call (refInts_c hA _ _) ?_) | ((first | refine NX.call (refRows_c hA _ _) ?_ | refine NX.call (refInts_c hA _ _) ?_)) | fail)
        | (refine NX.kO ?_; (first | refine NX.callO (refRows_c hA _ _) (by simp [allEq]) rfl ?_ | refine NX.callO (refInts_c hA _ _) (by simp [allEq]) rfl ?_))
        | ((first | (refine NX.k 1 ?_; first | refine NX.one (One.elemM hA tabOk rfl rfl rfl rfl ?_ ?_) ?_ | refine NX.one (One.elemOwnM hA tabOk rfl rfl rfl rfl rfl ?_ ?_) ?_) | (refine NX.k 2 ?_; first | refine NX.one (One.clipM tabOk rfl rfl rfl rfl rfl ?_ ?_) ?_ | refine NX.one (One.cut_hM hA tabOk rfl rfl rfl rfl ?_ ?_) ?_ | refine NX.one (One.cut_lM hA tabOk rfl rfl rfl rfl ?_ ?_) ?_ | refine NX.one (One.cut_lhM hA tabOk rfl rfl rfl rfl rfl ?_ ?_ ?_) ?_) | (refine NX.k 3 ?_; first | refine NX.one (One.quoM hA rfl rfl rfl ?_) ?_) | (refine NX.k 4 ?_; first | refine NX.one (One.remM hA rfl rfl rfl ?_) ?_) | (refine NX.k 5 ?_; first | refine NX.one (One.shrM hA rfl rfl rfl ?_) ?_) | (refine NX.k 6 ?_; first | refine NX.one (One.bitsM hA rfl rfl rfl rfl) ?_) | (refine NX.k 7 ?_; first | refine NX.one (One.concatM hA rfl rfl rfl ?_) ?_) | (refine NX.k 8 ?_; first | refine NX.one (One.eqBoolM hA tabOk rfl rfl rfl rfl rfl) ?_) | (refine NX.k 9 ?_; first | refine NX.one (One.neBoolM hA tabOk rfl rfl rfl rfl rfl) ?_) | (refine NX.k 10 ?_; first | refine NX.one (One.lenOwnM hA tabOk rfl rfl rfl rfl) ?_) | (refine NX.k 11 ?_; first | refine NX.one (One.appendM hA tabOk _ rfl rfl rfl rfl rfl rfl ?_ ?_) ?_ | refine NX.one (One.appendMM hA tabOk rfl rfl rfl rfl rfl ?_ ?_) ?_ | refine NX.one (One.appendOwnM hA tabOk _ rfl rfl rfl rfl rfl rfl rfl ?_ ?_) ?_ | refine NX.one (One.appendOwnMM hA tabOk rfl rfl rfl rfl rfl rfl ?_ ?_) ?_ | refine NX.one (One.appendOwn0 hA tabOk rfl rfl rfl rfl rfl rfl ?_ ?_) ?_) | (refine NX.k 13 ?_; first | refine NX.one (One.byteM hA tabOk rfl rfl rfl rfl rfl ?_ ?_) ?_) | (refine NX.k 14 ?_; first | refine NX.one (One.loadRatM hA tabOk rfl rfl rfl rfl rfl rfl ?_) ?_) | (refine NX.k 15 ?_; first | refine NX.one (One.storeRatM hA tabOk _ rfl rfl rfl rfl rfl rfl rfl rfl (fun _ => rfl) ?_) ?_) | (refine NX.k 16 ?_; first | refine NX.one (One.makeM hA tabOk encI 0 rfl rfl rfl rfl rfl rfl rfl ?_ ?_ ?_) ?_) | (refine NX.k 17 ?_; first | refine NX.one (One.build0 tabOk rfl rfl) ?_) | (refine NX.k 18 ?_; first | refine NX.one (One.fieldRat tabOk rfl rfl rfl rfl (by decide) rfl rfl) ?_) | (refine NX.k 23 ?_; first | refine NX.one (One.lookupI (q := .i64) hA rfl rfl rfl (by conv => lhs; cbv) (by decide +kernel)) ?_ | refine NX.one (One.lookupI (q := .u8) hA rfl rfl rfl (by conv => lhs; cbv) (by decide +kernel)) ?_ | refine NX.one (One.lookupI1 (q := .i64) hA rfl rfl rfl (by conv => lhs; cbv) (by decide +kernel)) ?_ | refine NX.one (One.lookupI1 (q := .u8) hA rfl rfl rfl (by conv => lhs; cbv) (by decide +kernel)) ?_) | (refine NX.k 26 ?_; first | refine NX.mapLit .i64 (by conv => lhs; cbv) (by decide +kernel) ?_ | refine NX.mapLit .u8 (by conv => lhs; cbv) (by decide +kernel) ?_)) <;> (first | refine AOLg.pass ?_ | (((try simp only [zn]) <;> (try simp (disch := omega) only [zz hA, zb, zy, reduceCtorEq, Bool.false_eq_true, Int.reduceLT, Int.reduceLE, Int.reduceNeg]) <;> (try simp only [zw])) <;> omega)))
        | refine NX.raw ?_)
    | refine Thn.exit ?_
    | refine Blk.here ?_
    | refine Blk.other (by decide) ?_
    | refine ⟨.inl rfl, _, RetOk.ev tabOk (by conv => lhs; cbv), ?_⟩
    | fail)
  · refine rPV_then (by conv => lhs; cbv) ?_
    simp [hc, hA, real, hid]
  · refine rPV_then (by conv => lhs; cbv) ?_
    simp [hc, hA, real, hid]
set_option maxHeartbeats 4000000 in
theorem refPut_c (K : List (List Int)) (key : List Int) (S : List Int) (hS : S = layM K) (hK : K.length ≤ 900000) :
    PureCalls Try.prog 18 [keyedPV A K S, intsP A key] (.tup [keyedPV A (putK K key) (layM (putK K key)), IP (hid A (cN (K.idxOf key))), BP (hid A (decide (key ∉ K)))]) := by
  refine PureCalls.of Try.func18 rfl (by kernel_rfl) rfl ?_
  try first | refine AOLg.of [] ?_ | refine QSg.of [] ?_
  repeat' (first
    | (refine AWp.pass ?_; first
        | refine AWp.seq ?_
        | refine AWp.block ?_
        | refine AWp.skip ?_
        | refine AWp.regG [] (by conv => lhs; cbv) ?_
        | refine AWp.cond_t rfl ?_
        | refine AWp.cond_f rfl ?_
        | (refine AWp.cond rfl ?_ ?_ <;> intro hc <;> (try rw [hc]) <;> ((try simp only [zn] at hc) <;> (try simp (disch := omega) only [zz hA, zb, zy, reduceCtorEq, Bool.false_eq_true, Int.reduceLT, Int.reduceLE, Int.reduceNeg] at hc) <;> (try simp only [zw] at hc)) <;> (try (exfalso; omega)))
        | refine AWp.exit ?_
        | refine AWp.ret ⟨.inr rfl, _, RetOk.ev tabOk (by conv => lhs; cbv), ?_⟩)
    | (refine AOLg.pass ?_; refine AOLg.nx hA tabOk (by conv => lhs; cbv) ?_; first
        | refine NX.done ?_
        | refine NX.gt ?_
        | refine NX.gf ?_
        | (refine NX.gs ?_ ?_ <;> intro hc <;> rw [hc] <;> ((try simp only [zn] at hc) <;> (try simp (disch := omega) only [zz hA, zb, zy, reduceCtorEq, Bool.false_eq_true, Int.reduceLT, Int.reduceLE, Int.reduceNeg] at hc) <;> (try simp only [zw] at hc)) <;> (try (exfalso; omega)))
        | (refine NX.kC ?_; first | (with_reducible refine NX.call (refAt_c hA _ _) ?_) | (with_reducible refine NX.call (refLay_c hA _ (by simp; omega)) ?_) | ((first | refine NX.call (refAt_c hA _ _) ?_ | refine NX.call (refLay_c hA _ (by simp; omega)) ?_)) | fail)
        | (refine NX.kO ?_; (first | refine NX.callO (refAt_c hA _ _) (by simp [allEq]) rfl ?_ | refine NX.callO (refLay_c hA _ (by simp; omega)) (by simp [allEq]) rfl ?_))
        | ((first | (refine NX.k 1 ?_; first | refine NX.one (One.elemM hA tabOk rfl rfl rfl rfl ?_ ?_) ?_ | refine NX.one (One.elemOwnM hA tabOk rfl rfl rfl rfl rfl ?_ ?_) ?_) | (refine NX.k 2 ?_; first | refine NX.one (One.clipM tabOk rfl rfl rfl rfl rfl ?_ ?_) ?_ | refine NX.one (One.cut_hM hA tabOk rfl rfl rfl rfl ?_ ?_) ?_ | refine NX.one (One.cut_lM hA tabOk rfl rfl rfl rfl ?_ ?_) ?_ | refine NX.one (One.cut_lhM hA tabOk rfl rfl rfl rfl rfl ?_ ?_ ?_) ?_) | (refine NX.k 3 ?_; first | refine NX.one (One.quoM hA rfl rfl rfl ?_) ?_) | (refine NX.k 4 ?_; first | refine NX.one (One.remM hA rfl rfl rfl ?_) ?_) | (refine NX.k 5 ?_; first | refine NX.one (One.shrM hA rfl rfl rfl ?_) ?_) | (refine NX.k 6 ?_; first | refine NX.one (One.bitsM hA rfl rfl rfl rfl) ?_) | (refine NX.k 7 ?_; first | refine NX.one (One.concatM hA rfl rfl rfl ?_) ?_) | (refine NX.k 8 ?_; first | refine NX.one (One.eqBoolM hA tabOk rfl rfl rfl rfl rfl) ?_) | (refine NX.k 9 ?_; first | refine NX.one (One.neBoolM hA tabOk rfl rfl rfl rfl rfl) ?_) | (refine NX.k 10 ?_; first | refine NX.one (One.lenOwnM hA tabOk rfl rfl rfl rfl) ?_) | (refine NX.k 11 ?_; first | refine NX.one (One.appendM hA tabOk _ rfl rfl rfl rfl rfl rfl ?_ ?_) ?_ | refine NX.one (One.appendMM hA tabOk rfl rfl rfl rfl rfl ?_ ?_) ?_ | refine NX.one (One.appendOwnM hA tabOk _ rfl rfl rfl rfl rfl rfl rfl ?_ ?_) ?_ | refine NX.one (One.appendOwnMM hA tabOk rfl rfl rfl rfl rfl rfl ?_ ?_) ?_ | refine NX.one (One.appendOwn0 hA tabOk rfl rfl rfl rfl rfl rfl ?_ ?_) ?_) | (refine NX.k 13 ?_; first | refine NX.one (One.byteM hA tabOk rfl rfl rfl rfl rfl ?_ ?_) ?_) | (refine NX.k 14 ?_; first | refine NX.one (One.loadRatM hA tabOk rfl rfl rfl rfl rfl rfl ?_) ?_) | (refine NX.k 15 ?_; first | refine NX.one (One.storeRatM hA tabOk _ rfl rfl rfl rfl rfl rfl rfl rfl (fun _ => rfl) ?_) ?_) | (refine NX.k 16 ?_; first | refine NX.one (One.makeM hA tabOk encI 0 rfl rfl rfl rfl rfl rfl rfl ?_ ?_ ?_) ?_) | (refine NX.k 17 ?_; first | refine NX.one (One.build0 tabOk rfl rfl) ?_) | (refine NX.k 18 ?_; first | refine NX.one (One.fieldRat tabOk rfl rfl rfl rfl (by decide) rfl rfl) ?_) | (refine NX.k 23 ?_; first | refine NX.one (One.lookupI (q := .i64) hA rfl rfl rfl (by conv => lhs; cbv) (by decide +kernel)) ?_ | refine NX.one (One.lookupI (q := .u8) hA rfl rfl rfl (by conv => lhs; cbv) (by decide +kernel)) ?_ | refine NX.one (One.lookupI1 (q := .i64) hA rfl rfl rfl (by conv => lhs; cbv) (by decide +kernel)) ?_ | refine NX.one (One.lookupI1 (q := .u8) hA rfl rfl rfl (by conv => lhs; cbv) (by decide +kernel)) ?_) | (refine NX.k 26 ?_; first | refine NX.mapLit .i64 (by conv => lhs; cbv) (by decide +kernel) ?_ | refine NX.mapLit .u8 (by conv => lhs; cbv) (by decide +kernel) ?_)) <;> (first | refine AOLg.pass ?_ | (((try simp only [zn]) <;> (try simp (disch := omega) only [zz hA, zb, zy, reduceCtorEq, Bool.false_eq_true, Int.reduceLT, Int.reduceLE, Int.reduceNeg]) <;> (try simp only [zw])) <;> omega)))
        | refine NX.raw ?_)
    | (refine TRg.pass ?_; refine TRg.nx hA tabOk (by conv => lhs; cbv) ?_; first
        | refine TX.done ?_
        | refine TX.gt ?_
        | refine TX.gf ?_
        | (refine TX.gs ?_ ?_ <;> intro hc <;> rw [hc] <;> ((try simp only [zn] at hc) <;> (try simp (disch := omega) only [zz hA, zb, zy, reduceCtorEq, Bool.false_eq_true, Int.reduceLT, Int.reduceLE, Int.reduceNeg] at hc) <;> (try simp only [zw] at hc)) <;> (try (exfalso; omega)))
        | (refine TX.kC ?_; first | (with_reducible refine TX.call (refAt_c hA _ _) ?_) | (with_reducible refine TX.call (refLay_c hA _ (by simp; omega)) ?_) | ((first | refine TX.call (refAt_c hA _ _) ?_ | refine TX.call (refLay_c hA _ (by simp; omega)) ?_)) | fail)
        | (refine TX.kO ?_; (first | refine TX.callO (refAt_c hA _ _) (by simp [allEq]) rfl ?_ | refine TX.callO (refLay_c hA _ (by simp; omega)) (by simp [allEq]) rfl ?_))
        | ((first | (refine TX.k 1 ?_; first | refine TX.one (One.elemM hA tabOk rfl rfl rfl rfl ?_ ?_) ?_ | refine TX.one (One.elemOwnM hA tabOk rfl rfl rfl rfl rfl ?_ ?_) ?_) | (refine TX.k 2 ?_; first | refine TX.one (One.clipM tabOk rfl rfl rfl rfl rfl ?_ ?_) ?_ | refine TX.one (One.cut_hM hA tabOk rfl rfl rfl rfl ?_ ?_) ?_ | refine TX.one (One.cut_lM hA tabOk rfl rfl rfl rfl ?_ ?_) ?_ | refine TX.one (One.cut_lhM hA tabOk rfl rfl rfl rfl rfl ?_ ?_ ?_) ?_) | (refine TX.k 3 ?_; first | refine TX.one (One.quoM hA rfl rfl rfl ?_) ?_) | (refine TX.k 4 ?_; first | refine TX.one (One.remM hA rfl rfl rfl ?_) ?_) | (refine TX.k 5 ?_; first | refine TX.one (One.shrM hA rfl rfl rfl ?_) ?_) | (refine TX.k 6 ?_; first | refine TX.one (One.bitsM hA rfl rfl rfl rfl) ?_) | (refine TX.k 7 ?_; first | refine TX.one (One.concatM hA rfl rfl rfl ?_) ?_) | (refine TX.k 8 ?_; first | refine TX.one (One.eqBoolM hA tabOk rfl rfl rfl rfl rfl) ?_) | (refine TX.k 9 ?_; first | refine TX.one (One.neBoolM hA tabOk rfl rfl rfl rfl rfl) ?_) | (refine TX.k 10 ?_; first | refine TX.one (One.lenOwnM hA tabOk rfl rfl rfl rfl) ?_) | (refine TX.k 11 ?_; first | refine TX.one (One.appendM hA tabOk _ rfl rfl rfl rfl rfl rfl ?_ ?_) ?_ | refine TX.one (One.appendMM hA tabOk rfl rfl rfl rfl rfl ?_ ?_) ?_ | refine TX.one (One.appendOwnM hA tabOk _ rfl rfl rfl rfl rfl rfl rfl ?_ ?_) ?_ | refine TX.one (One.appendOwnMM hA tabOk rfl rfl rfl rfl rfl rfl ?_ ?_) ?_ | refine TX.one (One.appendOwn0 hA tabOk rfl rfl rfl rfl rfl rfl ?_ ?_) ?_) | (refine TX.k 13 ?_; first | refine TX.one (One.byteM hA tabOk rfl rfl rfl rfl rfl ?_ ?_) ?_) | (refine TX.k 14 ?_; first | refine TX.one (One.loadRatM hA tabOk rfl rfl rfl rfl rfl rfl ?_) ?_) | (refine TX.k 15 ?_; first | refine TX.one (One.storeRatM hA tabOk _ rfl rfl rfl rfl rfl rfl rfl rfl (fun _ => rfl) ?_) ?_) | (refine TX.k 16 ?_; first | refine TX.one (One.makeM hA tabOk encI 0 rfl rfl rfl rfl rfl rfl rfl ?_ ?_ ?_) ?_) | (refine TX.k 17 ?_; first | refine TX.one (One.build0 tabOk rfl rfl) ?_) | (refine TX.k 18 ?_; first | refine TX.one (One.fieldRat tabOk rfl rfl rfl rfl (by decide) rfl rfl) ?_) | (refine TX.k 23 ?_; first | refine TX.one (One.lookupI (q := .i64) hA rfl rfl rfl (by conv => lhs; cbv) (by decide +kernel)) ?_ | refine TX.one (One.lookupI (q := .u8) hA rfl rfl rfl (by conv => lhs; cbv) (by decide +kernel)) ?_ | refine TX.one (One.lookupI1 (q := .i64) hA rfl rfl rfl (by conv => lhs; cbv) (by decide +kernel)) ?_ | refine TX.one (One.lookupI1 (q := .u8) hA rfl rfl rfl (by conv => lhs; cbv) (by decide +kernel)) ?_)) <;> (first | refine TRg.pass ?_ | (((try simp only [zn]) <;> (try simp (disch := omega) only [zz hA, zb, zy, reduceCtorEq, Bool.false_eq_true, Int.reduceLT, Int.reduceLE, Int.reduceNeg]) <;> (try simp only [zw])) <;> omega)))
        | refine TX.raw ?_)
    | refine Fin3.of (by conv => lhs; cbv) (by repeat' (first | exact True.intro | exact rfl | refine And.intro ?_ ?_)) ?_ ?_
    | (refine AllO.pass ?_; first
        | exact AllO.nil
        | (refine AllO.cons (One.ev hA tabOk ?_) ?_ <;> (first | refine AllO.pass ?_ | ((conv => lhs; cbv); done)))
        | (refine AllO.cons (One.skipB ?_) ?_ <;> (first | refine AllO.pass ?_ | ((conv => lhs; cbv); done)))
        | ((with_reducible refine AllO.call (by conv => lhs; cbv) (refAt_c hA _ _) ?_ ?_) <;> (first | refine AllO.pass ?_ | exact rfl | (((try simp only [zn]) <;> (try simp (disch := omega) only [zz hA, zb, zy, reduceCtorEq, Bool.false_eq_true, Int.reduceLT, Int.reduceLE, Int.reduceNeg]) <;> (try simp only [zw])) <;> omega)))
        | ((with_reducible refine AllO.call (by conv => lhs; cbv) (refLay_c hA _ (by simp; omega)) ?_ ?_) <;> (first | refine AllO.pass ?_ | exact rfl | (((try simp only [zn]) <;> (try simp (disch := omega) only [zz hA, zb, zy, reduceCtorEq, Bool.false_eq_true, Int.reduceLT, Int.reduceLE, Int.reduceNeg]) <;> (try simp only [zw])) <;> omega)))
        | ((first | refine AllO.consX (One.elemM hA tabOk rfl rfl rfl rfl ?_ ?_) rfl rfl ?_ | refine AllO.consX (One.cut_hM hA tabOk rfl rfl rfl rfl ?_ ?_) rfl rfl ?_ | refine AllO.consX (One.cut_lM hA tabOk rfl rfl rfl rfl ?_ ?_) rfl rfl ?_ | refine AllO.consX (One.cut_lhM hA tabOk rfl rfl rfl rfl rfl ?_ ?_ ?_) rfl rfl ?_ | refine AllO.consX (One.quoM hA rfl rfl rfl ?_) rfl rfl ?_ | refine AllO.consX (One.remM hA rfl rfl rfl ?_) rfl rfl ?_ | refine AllO.consX (One.byteM hA tabOk rfl rfl rfl rfl rfl ?_ ?_) rfl rfl ?_ | refine AllO.consX (One.concatM hA rfl rfl rfl ?_) rfl rfl ?_ | refine AllO.consX (One.lenOwnM hA tabOk rfl rfl rfl rfl) rfl rfl ?_ | refine AllO.consX (One.elemOwnM hA tabOk rfl rfl rfl rfl rfl ?_ ?_) rfl rfl ?_ | refine AllO.consX (One.loadRatM hA tabOk rfl rfl rfl rfl rfl rfl ?_) rfl rfl ?_) <;> (first | refine AllO.pass ?_ | (((try simp only [zn]) <;> (try simp (disch := omega) only [zz hA, zb, zy, reduceCtorEq, Bool.false_eq_true, Int.reduceLT, Int.reduceLE, Int.reduceNeg]) <;> (try simp only [zw])) <;> omega))))
    | refine Thn.exit ?_
    | refine Blk.here ?_
    | refine Blk.other (by decide) ?_
    | refine ⟨.inl rfl, _, RetOk.ev tabOk (by conv => lhs; cbv), ?_⟩
    | fail)
  · by_cases hm : key ∈ K
    · refine rPV_then (by conv => lhs; cbv) ?_
      simp [putK, hm, atM, hA, real, hid, cN, hS]
    · rw [atM_miss K key hm] at hc; omega
  · refine AWp.freeze 2 2 23 1 true _ rfl ?_
    refine AWp.norm (by conv => lhs; cbv) ?_
    try first | refine AOLg.of [] ?_ | refine QSg.of [] ?_
    repeat' (first
      | (refine AWp.pass ?_; first
          | refine AWp.seq ?_
          | refine AWp.block ?_
          | refine AWp.skip ?_
          | refine AWp.regG [] (by conv => lhs; cbv) ?_
          | refine AWp.cond_t rfl ?_
          | refine AWp.cond_f rfl ?_
          | (refine AWp.cond rfl ?_ ?_ <;> intro hc <;> (try rw [hc]) <;> ((try simp only [zn] at hc) <;> (try simp (disch := omega) only [zz hA, zb, zy, reduceCtorEq, Bool.false_eq_true, Int.reduceLT, Int.reduceLE, Int.reduceNeg] at hc) <;> (try simp only [zw] at hc)) <;> (try (exfalso; omega)))
          | refine AWp.exit ?_
          | refine AWp.ret ⟨.inr rfl, _, RetOk.ev tabOk (by conv => lhs; cbv), ?_⟩
          | refine AWp.drawVG [] rfl (by decide +kernel) (by conv => lhs; cbv) ?_)
      | (refine AOLg.pass ?_; refine AOLg.nx hA tabOk (by conv => lhs; cbv) ?_; first
          | refine NX.done ?_
          | refine NX.gt ?_
          | refine NX.gf ?_
          | (refine NX.gs ?_ ?_ <;> intro hc <;> rw [hc] <;> ((try simp only [zn] at hc) <;> (try simp (disch := omega) only [zz hA, zb, zy, reduceCtorEq, Bool.false_eq_true, Int.reduceLT, Int.reduceLE, Int.reduceNeg] at hc) <;> (try simp only [zw] at hc)) <;> (try (exfalso; omega)))
          | (refine NX.kC ?_; first | (with_reducible refine NX.call (refLay_c hA (K ++ [key]) (by simp; omega)) ?_) | ((first | refine NX.call (refLay_c hA (K ++ [key]) (by simp; omega)) ?_)) | fail)
          | (refine NX.kO ?_; (first | refine NX.callO (refLay_c hA (K ++ [key]) (by simp; omega)) (by simp [allEq]) rfl ?_))
          | ((first | (refine NX.k 1 ?_; first | refine NX.one (One.elemM hA tabOk rfl rfl rfl rfl ?_ ?_) ?_ | refine NX.one (One.elemOwnM hA tabOk rfl rfl rfl rfl rfl ?_ ?_) ?_) | (refine NX.k 2 ?_; first | refine NX.one (One.clipM tabOk rfl rfl rfl rfl rfl ?_ ?_) ?_ | refine NX.one (One.cut_hM hA tabOk rfl rfl rfl rfl ?_ ?_) ?_ | refine NX.one (One.cut_lM hA tabOk rfl rfl rfl rfl ?_ ?_) ?_ | refine NX.one (One.cut_lhM hA tabOk rfl rfl rfl rfl rfl ?_ ?_ ?_) ?_) | (refine NX.k 3 ?_; first | refine NX.one (One.quoM hA rfl rfl rfl ?_) ?_) | (refine NX.k 4 ?_; first | refine NX.one (One.remM hA rfl rfl rfl ?_) ?_) | (refine NX.k 5 ?_; first | refine NX.one (One.shrM hA rfl rfl rfl ?_) ?_) | (refine NX.k 6 ?_; first | refine NX.one (One.bitsM hA rfl rfl rfl rfl) ?_) | (refine NX.k 7 ?_; first | refine NX.one (One.concatM hA rfl rfl rfl ?_) ?_) | (refine NX.k 8 ?_; first | refine NX.one (One.eqBoolM hA tabOk rfl rfl rfl rfl rfl) ?_) | (refine NX.k 9 ?_; first | refine NX.one (One.neBoolM hA tabOk rfl rfl rfl rfl rfl) ?_) | (refine NX.k 10 ?_; first | refine NX.one (One.lenOwnM hA tabOk rfl rfl rfl rfl) ?_) | (refine NX.k 11 ?_; first | refine NX.one (One.appendM hA tabOk _ rfl rfl rfl rfl rfl rfl ?_ ?_) ?_ | refine NX.one (One.appendMM hA tabOk rfl rfl rfl rfl rfl ?_ ?_) ?_ | refine NX.one (One.appendOwnM hA tabOk _ rfl rfl rfl rfl rfl rfl rfl ?_ ?_) ?_ | refine NX.one (One.appendOwnMM hA tabOk rfl rfl rfl rfl rfl rfl ?_ ?_) ?_ | refine NX.one (One.appendOwn0 hA tabOk rfl rfl rfl rfl rfl rfl ?_ ?_) ?_) | (refine NX.k 13 ?_; first | refine NX.one (One.byteM hA tabOk rfl rfl rfl rfl rfl ?_ ?_) ?_) | (refine NX.k 14 ?_; first | refine NX.one (One.loadRatM hA tabOk rfl rfl rfl rfl rfl rfl ?_) ?_) | (refine NX.k 15 ?_; first | refine NX.one (One.storeRatM hA tabOk _ rfl rfl rfl rfl rfl rfl rfl rfl (fun _ => rfl) ?_) ?_) | (refine NX.k 16 ?_; first | refine NX.one (One.makeM hA tabOk encI 0 rfl rfl rfl rfl rfl rfl rfl ?_ ?_ ?_) ?_) | (refine NX.k 17 ?_; first | refine NX.one (One.build0 tabOk rfl rfl) ?_) | (refine NX.k 18 ?_; first | refine NX.one (One.fieldRat tabOk rfl rfl rfl rfl (by decide) rfl rfl) ?_) | (refine NX.k 23 ?_; first | refine NX.one (One.lookupI (q := .i64) hA rfl rfl rfl (by conv => lhs; cbv) (by decide +kernel)) ?_ | refine NX.one (One.lookupI (q := .u8) hA rfl rfl rfl (by conv => lhs; cbv) (by decide +kernel)) ?_ | refine NX.one (One.lookupI1 (q := .i64) hA rfl rfl rfl (by conv => lhs; cbv) (by decide +kernel)) ?_ | refine NX.one (One.lookupI1 (q := .u8) hA rfl rfl rfl (by conv => lhs; cbv) (by decide +kernel)) ?_) | (refine NX.k 26 ?_; first | refine NX.mapLit .i64 (by conv => lhs; cbv) (by decide +kernel) ?_ | refine NX.mapLit .u8 (by conv => lhs; cbv) (by decide +kernel) ?_)) <;> (first | refine AOLg.pass ?_ | (((try simp only [zn]) <;> (try simp (disch := omega) only [zz hA, zb, zy, reduceCtorEq, Bool.false_eq_true, Int.reduceLT, Int.reduceLE, Int.reduceNeg]) <;> (try simp only [zw])) <;> omega)))
          | refine NX.raw ?_)
      | (refine TRg.pass ?_; refine TRg.nx hA tabOk (by conv => lhs; cbv) ?_; first
          | refine TX.done ?_
          | refine TX.gt ?_
          | refine TX.gf ?_
          | (refine TX.gs ?_ ?_ <;> intro hc <;> rw [hc] <;> ((try simp only [zn] at hc) <;> (try simp (disch := omega) only [zz hA, zb, zy, reduceCtorEq, Bool.false_eq_true, Int.reduceLT, Int.reduceLE, Int.reduceNeg] at hc) <;> (try simp only [zw] at hc)) <;> (try (exfalso; omega)))
          | (refine TX.kC ?_; first | (with_reducible refine TX.call (refLay_c hA (K ++ [key]) (by simp; omega)) ?_) | ((first | refine TX.call (refLay_c hA (K ++ [key]) (by simp; omega)) ?_)) | fail)
          | (refine TX.kO ?_; (first | refine TX.callO (refLay_c hA (K ++ [key]) (by simp; omega)) (by simp [allEq]) rfl ?_))
          | ((first | (refine TX.k 1 ?_; first | refine TX.one (One.elemM hA tabOk rfl rfl rfl rfl ?_ ?_) ?_ | refine TX.one (One.elemOwnM hA tabOk rfl rfl rfl rfl rfl ?_ ?_) ?_) | (refine TX.k 2 ?_; first | refine TX.one (One.clipM tabOk rfl rfl rfl rfl rfl ?_ ?_) ?_ | refine TX.one (One.cut_hM hA tabOk rfl rfl rfl rfl ?_ ?_) ?_ | refine TX.one (One.cut_lM hA tabOk rfl rfl rfl rfl ?_ ?_) ?_ | refine TX.one (One.cut_lhM hA tabOk rfl rfl rfl rfl rfl ?_ ?_ ?_) ?_) | (refine TX.k 3 ?_; first | refine TX.one (One.quoM hA rfl rfl rfl ?_) ?_) | (refine TX.k 4 ?_; first | refine TX.one (One.remM hA rfl rfl rfl ?_) ?_) | (refine TX.k 5 ?_; first | refine TX.one (One.shrM hA rfl rfl rfl ?_) ?_) | (refine TX.k 6 ?_; first | refine TX.one (One.bitsM hA rfl rfl rfl rfl) ?_) | (refine TX.k 7 ?_; first | refine TX.one (One.concatM hA rfl rfl rfl ?_) ?_) | (refine TX.k 8 ?_; first | refine TX.one (One.eqBoolM hA tabOk rfl rfl rfl rfl rfl) ?_) | (refine TX.k 9 ?_; first | refine TX.one (One.neBoolM hA tabOk rfl rfl rfl rfl rfl) ?_) | (refine TX.k 10 ?_; first | refine TX.one (One.lenOwnM hA tabOk rfl rfl rfl rfl) ?_) | (refine TX.k 11 ?_; first | refine TX.one (One.appendM hA tabOk _ rfl rfl rfl rfl rfl rfl ?_ ?_) ?_ | refine TX.one (One.appendMM hA tabOk rfl rfl rfl rfl rfl ?_ ?_) ?_ | refine TX.one (One.appendOwnM hA tabOk _ rfl rfl rfl rfl rfl rfl rfl ?_ ?_) ?_ | refine TX.one (One.appendOwnMM hA tabOk rfl rfl rfl rfl rfl rfl ?_ ?_) ?_ | refine TX.one (One.appendOwn0 hA tabOk rfl rfl rfl rfl rfl rfl ?_ ?_) ?_) | (refine TX.k 13 ?_; first | refine TX.one (One.byteM hA tabOk rfl rfl rfl rfl rfl ?_ ?_) ?_) | (refine TX.k 14 ?_; first | refine TX.one (One.loadRatM hA tabOk rfl rfl rfl rfl rfl rfl ?_) ?_) | (refine TX.k 15 ?_; first | refine TX.one (One.storeRatM hA tabOk _ rfl rfl rfl rfl rfl rfl rfl rfl (fun _ => rfl) ?_) ?_) | (refine TX.k 16 ?_; first | refine TX.one (One.makeM hA tabOk encI 0 rfl rfl rfl rfl rfl rfl rfl ?_ ?_ ?_) ?_) | (refine TX.k 17 ?_; first | refine TX.one (One.build0 tabOk rfl rfl) ?_) | (refine TX.k 18 ?_; first | refine TX.one (One.fieldRat tabOk rfl rfl rfl rfl (by decide) rfl rfl) ?_) | (refine TX.k 23 ?_; first | refine TX.one (One.lookupI (q := .i64) hA rfl rfl rfl (by conv => lhs; cbv) (by decide +kernel)) ?_ | refine TX.one (One.lookupI (q := .u8) hA rfl rfl rfl (by conv => lhs; cbv) (by decide +kernel)) ?_ | refine TX.one (One.lookupI1 (q := .i64) hA rfl rfl rfl (by conv => lhs; cbv) (by decide +kernel)) ?_ | refine TX.one (One.lookupI1 (q := .u8) hA rfl rfl rfl (by conv => lhs; cbv) (by decide +kernel)) ?_)) <;> (first | refine TRg.pass ?_ | (((try simp only [zn]) <;> (try simp (disch := omega) only [zz hA, zb, zy, reduceCtorEq, Bool.false_eq_true, Int.reduceLT, Int.reduceLE, Int.reduceNeg]) <;> (try simp only [zw])) <;> omega)))
          | refine TX.raw ?_)
      | refine Fin3.of (by conv => lhs; cbv) (by repeat' (first | exact True.intro | exact rfl | refine And.intro ?_ ?_)) ?_ ?_
      | (refine AllO.pass ?_; first
          | exact AllO.nil
          | (refine AllO.cons (One.ev hA tabOk ?_) ?_ <;> (first | refine AllO.pass ?_ | ((conv => lhs; cbv); done)))
          | (refine AllO.cons (One.skipB ?_) ?_ <;> (first | refine AllO.pass ?_ | ((conv => lhs; cbv); done)))
          | ((with_reducible refine AllO.call (by conv => lhs; cbv) (refLay_c hA (K ++ [key]) (by simp; omega)) ?_ ?_) <;> (first | refine AllO.pass ?_ | exact rfl | (((try simp only [zn]) <;> (try simp (disch := omega) only [zz hA, zb, zy, reduceCtorEq, Bool.false_eq_true, Int.reduceLT, Int.reduceLE, Int.reduceNeg]) <;> (try simp only [zw])) <;> omega)))
          | ((first | refine AllO.consX (One.elemM hA tabOk rfl rfl rfl rfl ?_ ?_) rfl rfl ?_ | refine AllO.consX (One.cut_hM hA tabOk rfl rfl rfl rfl ?_ ?_) rfl rfl ?_ | refine AllO.consX (One.cut_lM hA tabOk rfl rfl rfl rfl ?_ ?_) rfl rfl ?_ | refine AllO.consX (One.cut_lhM hA tabOk rfl rfl rfl rfl rfl ?_ ?_ ?_) rfl rfl ?_ | refine AllO.consX (One.quoM hA rfl rfl rfl ?_) rfl rfl ?_ | refine AllO.consX (One.remM hA rfl rfl rfl ?_) rfl rfl ?_ | refine AllO.consX (One.byteM hA tabOk rfl rfl rfl rfl rfl ?_ ?_) rfl rfl ?_ | refine AllO.consX (One.concatM hA rfl rfl rfl ?_) rfl rfl ?_ | refine AllO.consX (One.lenOwnM hA tabOk rfl rfl rfl rfl) rfl rfl ?_ | refine AllO.consX (One.elemOwnM hA tabOk rfl rfl rfl rfl rfl ?_ ?_) rfl rfl ?_ | refine AllO.consX (One.loadRatM hA tabOk rfl rfl rfl rfl rfl rfl ?_) rfl rfl ?_) <;> (first | refine AllO.pass ?_ | (((try simp only [zn]) <;> (try simp (disch := omega) only [zz hA, zb, zy, reduceCtorEq, Bool.false_eq_true, Int.reduceLT, Int.reduceLE, Int.reduceNeg]) <;> (try simp only [zw])) <;> omega))))
      | refine Thn.exit ?_
      | refine Blk.here ?_
      | refine Blk.other (by decide) ?_
      | refine ⟨.inl rfl, _, RetOk.ev tabOk (by conv => lhs; cbv), ?_⟩
      | fail)
    all_goals
      refine rPV_then (by conv => lhs; cbv) ?_
      have hm : key ∉ K := fun h => by
        have := (getD_idx h).1
        simp only [atM, h, if_true] at *
        omega
      simp [putK, hm, hA, real, hid, cN, List.idxOf_eq_length]
end Go.Proofs.Ytpphdaphbkepfaa.Aw

/- Statements of package hash: the example; Puts, Keeps. -/
set_option linter.unusedVariables false
set_option linter.unusedSimpArgs false
namespace Go.Proofs.Ytpphdaphbkepfaa.Aw
open Go Go.RowKit
set_option maxRecDepth 10000
attribute [local irreducible] AWp AOL QS One AOLg QSg NX QX TRg TX AllO Fin3
variable {A : Ar} (hA : A = real)
include hA
set_option maxHeartbeats 4000000 in
theorem shown_c : PureCalls Try.prog 14 [] (BP true) := by
  have e5 : intsP A [5] = .c (.sl 1 false [[.lit (.int .i64 5)]]) := by simp [intsP, slP, hid_eq hA, encI]
  have e6 : intsP A [6] = .c (.sl 1 false [[.lit (.int .i64 6)]]) := by simp [intsP, slP, hid_eq hA, encI]
  have e0 : intsP A [] = .c (.sl 1 false []) := by simp [intsP, slP, hid_eq hA]
  have hp := put_c hA [] [5] (by simp) (by simp) (by simp) (by simp)
  have hp2 := hp.weaken (pvs := [.agg [.sl 0 false [], .sl 1 false (hid A (List.map encI (List.replicate 8 0)))], .c (.sl 1 false [[.lit (.int .i64 5)]])]) (by
    rw [← e5]
    refine .cons (.agg (.cons ?_ (.cons (.refl _) .nil))) (.cons (.refl _) .nil)
    rw [hid_eq hA]
    exact .nil _ _ _)
  clear hp
  generalize hK : putK [] [5] = K at hp2
  have hK2 : K = [[5]] := hK.symm
  have hn : K.Nodup := by rw [hK2]; simp
  have hmem : ∀ x ∈ K, x.length ≤ 1000000 := by rw [hK2]; simp
  have hl : K.length = 1 := by rw [hK2]; rfl
  have hb := sizeM_bound K.length
  have hll := layM_len K
  have hf5 := find_c hA K (layM K) [5] (by omega) (layM_vals K) (by omega) (by simp)
  rw [find_at K hn, e5, show atM K [5] = 0 by rw [hK2]; rfl] at hf5
  have hf6 := find_c hA K (layM K) [6] (by omega) (layM_vals K) (by omega) (by simp)
  rw [find_at K hn, e6, show atM K [6] = -1 by rw [hK2]; rfl] at hf6
  have hr := right_c hA K (layM K) (by omega) hmem (by omega)
  rw [show decide (K.Nodup ∧ layM K = layM K) = true by simp [hn]] at hr
  have hs := size_c hA 7 7 rfl (by omega)
  rw [show sizeM 7 = 16 by rfl] at hs
  have hh := (hash_c hA [] (by simp)).weaken (pvs := [.c (.sl 0 false [])]) (by
    rw [e0]
    exact .cons (.c (.nil _ _ _)) .nil)
  rw [show hashM [] = 2166136261 by rfl] at hh
  simp only [show List.idxOf [5] ([] : List (List Int)) = 0 by rfl, show decide ([5] ∉ ([] : List (List Int))) = true by rfl] at hp2
  refine PureCalls.of Try.func14 rfl (by kernel_rfl) rfl ?_
  try first | refine AOLg.of [] ?_ | refine QSg.of [] ?_
  repeat' (first
    | (refine AWp.pass ?_; first
        | refine AWp.seq ?_
        | refine AWp.block ?_
        | refine AWp.skip ?_
        | refine AWp.regG [] (by conv => lhs; cbv) ?_
        | refine AWp.cond_t rfl ?_
        | refine AWp.cond_f rfl ?_
        | (refine AWp.cond rfl ?_ ?_ <;> intro hc <;> (try rw [hc]) <;> ((try simp only [zn] at hc) <;> (try simp (disch := omega) only [zz hA, zb, zy, reduceCtorEq, Bool.false_eq_true, Int.reduceLT, Int.reduceLE, Int.reduceNeg] at hc) <;> (try simp only [zw] at hc)) <;> (try (exfalso; omega)))
        | refine AWp.exit ?_
        | refine AWp.ret ⟨.inr rfl, _, RetOk.ev tabOk (by conv => lhs; cbv), ?_⟩)
    | (refine AOLg.pass ?_; refine AOLg.nx hA tabOk (by conv => lhs; cbv) ?_; first
        | refine NX.done ?_
        | refine NX.gt ?_
        | refine NX.gf ?_
        | (refine NX.gs ?_ ?_ <;> intro hc <;> rw [hc] <;> ((try simp only [zn] at hc) <;> (try simp (disch := omega) only [zz hA, zb, zy, reduceCtorEq, Bool.false_eq_true, Int.reduceLT, Int.reduceLE, Int.reduceNeg] at hc) <;> (try simp only [zw] at hc)) <;> (try (exfalso; omega)))
        | ((first | (refine NX.k 1 ?_; first | refine NX.one (One.elemM hA tabOk rfl rfl rfl rfl ?_ ?_) ?_ | refine NX.one (One.elemOwnM hA tabOk rfl rfl rfl rfl rfl ?_ ?_) ?_) | (refine NX.k 2 ?_; first | refine NX.one (One.clipM tabOk rfl rfl rfl rfl rfl ?_ ?_) ?_ | refine NX.one (One.cut_hM hA tabOk rfl rfl rfl rfl ?_ ?_) ?_ | refine NX.one (One.cut_lM hA tabOk rfl rfl rfl rfl ?_ ?_) ?_ | refine NX.one (One.cut_lhM hA tabOk rfl rfl rfl rfl rfl ?_ ?_ ?_) ?_) | (refine NX.k 3 ?_; first | refine NX.one (One.quoM hA rfl rfl rfl ?_) ?_) | (refine NX.k 4 ?_; first | refine NX.one (One.remM hA rfl rfl rfl ?_) ?_) | (refine NX.k 5 ?_; first | refine NX.one (One.shrM hA rfl rfl rfl ?_) ?_) | (refine NX.k 6 ?_; first | refine NX.one (One.bitsM hA rfl rfl rfl rfl) ?_) | (refine NX.k 7 ?_; first | refine NX.one (One.concatM hA rfl rfl rfl ?_) ?_) | (refine NX.k 8 ?_; first | refine NX.one (One.eqBoolM hA tabOk rfl rfl rfl rfl rfl) ?_) | (refine NX.k 9 ?_; first | refine NX.one (One.neBoolM hA tabOk rfl rfl rfl rfl rfl) ?_) | (refine NX.k 10 ?_; first | refine NX.one (One.lenOwnM hA tabOk rfl rfl rfl rfl) ?_) | (refine NX.k 11 ?_; first | refine NX.one (One.appendM hA tabOk _ rfl rfl rfl rfl rfl rfl ?_ ?_) ?_ | refine NX.one (One.appendMM hA tabOk rfl rfl rfl rfl rfl ?_ ?_) ?_ | refine NX.one (One.appendOwnM hA tabOk _ rfl rfl rfl rfl rfl rfl rfl ?_ ?_) ?_ | refine NX.one (One.appendOwnMM hA tabOk rfl rfl rfl rfl rfl rfl ?_ ?_) ?_ | refine NX.one (One.appendOwn0 hA tabOk rfl rfl rfl rfl rfl rfl ?_ ?_) ?_) | (refine NX.k 13 ?_; first | refine NX.one (One.byteM hA tabOk rfl rfl rfl rfl rfl ?_ ?_) ?_) | (refine NX.k 14 ?_; first | refine NX.one (One.loadRatM hA tabOk rfl rfl rfl rfl rfl rfl ?_) ?_) | (refine NX.k 15 ?_; first | refine NX.one (One.storeRatM hA tabOk _ rfl rfl rfl rfl rfl rfl rfl rfl (fun _ => rfl) ?_) ?_) | (refine NX.k 16 ?_; first | refine NX.one (One.makeM hA tabOk encI 0 rfl rfl rfl rfl rfl rfl rfl ?_ ?_ ?_) ?_) | (refine NX.k 17 ?_; first | refine NX.one (One.build0 tabOk rfl rfl) ?_) | (refine NX.k 18 ?_; first | refine NX.one (One.fieldRat tabOk rfl rfl rfl rfl (by decide) rfl rfl) ?_) | (refine NX.k 23 ?_; first | refine NX.one (One.lookupI (q := .i64) hA rfl rfl rfl (by conv => lhs; cbv) (by decide +kernel)) ?_ | refine NX.one (One.lookupI (q := .u8) hA rfl rfl rfl (by conv => lhs; cbv) (by decide +kernel)) ?_ | refine NX.one (One.lookupI1 (q := .i64) hA rfl rfl rfl (by conv => lhs; cbv) (by decide +kernel)) ?_ | refine NX.one (One.lookupI1 (q := .u8) hA rfl rfl rfl (by conv => lhs; cbv) (by decide +kernel)) ?_) | (refine NX.k 26 ?_; first | refine NX.mapLit .i64 (by conv => lhs; cbv) (by decide +kernel) ?_ | refine NX.mapLit .u8 (by conv => lhs; cbv) (by decide +kernel) ?_)) <;> (first | refine AOLg.pass ?_ | (((try simp only [zn]) <;> (try simp (disch := omega) only [zz hA, zb, zy, reduceCtorEq, Bool.false_eq_true, Int.reduceLT, Int.reduceLE, Int.reduceNeg]) <;> (try simp only [zw])) <;> omega)))
        | refine NX.raw ?_)
    | refine Thn.exit ?_
    | refine Blk.here ?_
    | refine Blk.other (by decide) ?_
    | refine ⟨.inl rfl, _, RetOk.ev tabOk (by conv => lhs; cbv), ?_⟩
    | fail)
  refine AOL.freeze 0 0 3 1 true _ rfl ?_
  refine AOL.norm (by conv => lhs; cbv) ?_
  try first | refine AOLg.of [] ?_ | refine QSg.of [] ?_
  repeat' (first
    | (refine AWp.pass ?_; first
        | refine AWp.seq ?_
        | refine AWp.block ?_
        | refine AWp.skip ?_
        | refine AWp.regG [] (by conv => lhs; cbv) ?_
        | refine AWp.cond_t rfl ?_
        | refine AWp.cond_f rfl ?_
        | (refine AWp.cond rfl ?_ ?_ <;> intro hc <;> (try rw [hc]) <;> ((try simp only [zn] at hc) <;> (try simp (disch := omega) only [zz hA, zb, zy, reduceCtorEq, Bool.false_eq_true, Int.reduceLT, Int.reduceLE, Int.reduceNeg] at hc) <;> (try simp only [zw] at hc)) <;> (try (exfalso; omega)))
        | refine AWp.exit ?_
        | refine AWp.ret ⟨.inr rfl, _, RetOk.ev tabOk (by conv => lhs; cbv), ?_⟩)
    | (refine AOLg.pass ?_; refine AOLg.nx hA tabOk (by conv => lhs; cbv) ?_; first
        | refine NX.done ?_
        | refine NX.gt ?_
        | refine NX.gf ?_
        | (refine NX.gs ?_ ?_ <;> intro hc <;> rw [hc] <;> ((try simp only [zn] at hc) <;> (try simp (disch := omega) only [zz hA, zb, zy, reduceCtorEq, Bool.false_eq_true, Int.reduceLT, Int.reduceLE, Int.reduceNeg] at hc) <;> (try simp only [zw] at hc)) <;> (try (exfalso; omega)))
        | (refine NX.kC ?_; first | (with_reducible refine NX.call (hp2) ?_) | (with_reducible refine NX.call (hf5) ?_) | (with_reducible refine NX.call (hf6) ?_) | (with_reducible refine NX.call (hr) ?_) | (with_reducible refine NX.call (hs) ?_) | (with_reducible refine NX.call (hh) ?_) | ((first | refine NX.call (hp2) ?_ | refine NX.call (hf5) ?_ | refine NX.call (hf6) ?_ | refine NX.call (hr) ?_ | refine NX.call (hs) ?_ | refine NX.call (hh) ?_)) | fail)
        | (refine NX.kO ?_; (first | refine NX.callO (hp2) (by simp [allEq]) rfl ?_ | refine NX.callO (hf5) (by simp [allEq]) rfl ?_ | refine NX.callO (hf6) (by simp [allEq]) rfl ?_ | refine NX.callO (hr) (by simp [allEq]) rfl ?_ | refine NX.callO (hs) (by simp [allEq]) rfl ?_ | refine NX.callO (hh) (by simp [allEq]) rfl ?_))
        | ((first | (refine NX.k 1 ?_; first | refine NX.one (One.elemM hA tabOk rfl rfl rfl rfl ?_ ?_) ?_ | refine NX.one (One.elemOwnM hA tabOk rfl rfl rfl rfl rfl ?_ ?_) ?_) | (refine NX.k 2 ?_; first | refine NX.one (One.clipM tabOk rfl rfl rfl rfl rfl ?_ ?_) ?_ | refine NX.one (One.cut_hM hA tabOk rfl rfl rfl rfl ?_ ?_) ?_ | refine NX.one (One.cut_lM hA tabOk rfl rfl rfl rfl ?_ ?_) ?_ | refine NX.one (One.cut_lhM hA tabOk rfl rfl rfl rfl rfl ?_ ?_ ?_) ?_) | (refine NX.k 3 ?_; first | refine NX.one (One.quoM hA rfl rfl rfl ?_) ?_) | (refine NX.k 4 ?_; first | refine NX.one (One.remM hA rfl rfl rfl ?_) ?_) | (refine NX.k 5 ?_; first | refine NX.one (One.shrM hA rfl rfl rfl ?_) ?_) | (refine NX.k 6 ?_; first | refine NX.one (One.bitsM hA rfl rfl rfl rfl) ?_) | (refine NX.k 7 ?_; first | refine NX.one (One.concatM hA rfl rfl rfl ?_) ?_) | (refine NX.k 8 ?_; first | refine NX.one (One.eqBoolM hA tabOk rfl rfl rfl rfl rfl) ?_) | (refine NX.k 9 ?_; first | refine NX.one (One.neBoolM hA tabOk rfl rfl rfl rfl rfl) ?_) | (refine NX.k 10 ?_; first | refine NX.one (One.lenOwnM hA tabOk rfl rfl rfl rfl) ?_) | (refine NX.k 11 ?_; first | refine NX.one (One.appendM hA tabOk _ rfl rfl rfl rfl rfl rfl ?_ ?_) ?_ | refine NX.one (One.appendMM hA tabOk rfl rfl rfl rfl rfl ?_ ?_) ?_ | refine NX.one (One.appendOwnM hA tabOk _ rfl rfl rfl rfl rfl rfl rfl ?_ ?_) ?_ | refine NX.one (One.appendOwnMM hA tabOk rfl rfl rfl rfl rfl rfl ?_ ?_) ?_ | refine NX.one (One.appendOwn0 hA tabOk rfl rfl rfl rfl rfl rfl ?_ ?_) ?_) | (refine NX.k 13 ?_; first | refine NX.one (One.byteM hA tabOk rfl rfl rfl rfl rfl ?_ ?_) ?_) | (refine NX.k 14 ?_; first | refine NX.one (One.loadRatM hA tabOk rfl rfl rfl rfl rfl rfl ?_) ?_) | (refine NX.k 15 ?_; first | refine NX.one (One.storeRatM hA tabOk _ rfl rfl rfl rfl rfl rfl rfl rfl (fun _ => rfl) ?_) ?_) | (refine NX.k 16 ?_; first | refine NX.one (One.makeM hA tabOk encI 0 rfl rfl rfl rfl rfl rfl rfl ?_ ?_ ?_) ?_) | (refine NX.k 17 ?_; first | refine NX.one (One.build0 tabOk rfl rfl) ?_) | (refine NX.k 18 ?_; first | refine NX.one (One.fieldRat tabOk rfl rfl rfl rfl (by decide) rfl rfl) ?_) | (refine NX.k 23 ?_; first | refine NX.one (One.lookupI (q := .i64) hA rfl rfl rfl (by conv => lhs; cbv) (by decide +kernel)) ?_ | refine NX.one (One.lookupI (q := .u8) hA rfl rfl rfl (by conv => lhs; cbv) (by decide +kernel)) ?_ | refine NX.one (One.lookupI1 (q := .i64) hA rfl rfl rfl (by conv => lhs; cbv) (by decide +kernel)) ?_ | refine NX.one (One.lookupI1 (q := .u8) hA rfl rfl rfl (by conv => lhs; cbv) (by decide +kernel)) ?_) | (refine NX.k 26 ?_; first | refine NX.mapLit .i64 (by conv => lhs; cbv) (by decide +kernel) ?_ | refine NX.mapLit .u8 (by conv => lhs; cbv) (by decide +kernel) ?_)) <;> (first | refine AOLg.pass ?_ | (((try simp only [zn]) <;> (try simp (disch := omega) only [zz hA, zb, zy, reduceCtorEq, Bool.false_eq_true, Int.reduceLT, Int.reduceLE, Int.reduceNeg]) <;> (try simp only [zw])) <;> omega)))
        | refine NX.raw ?_)
    | refine Thn.exit ?_
    | refine Blk.here ?_
    | refine Blk.other (by decide) ?_
    | refine ⟨.inl rfl, _, RetOk.ev tabOk (by conv => lhs; cbv), ?_⟩
    | fail)
  all_goals
    refine rPV_then (by conv => lhs; cbv) ?_
    simp [hA, real, hid]
end Go.Proofs.Ytpphdaphbkepfaa.Aw

/- The plain law of tables, part 2: what is put. -/
set_option linter.unusedVariables false
set_option linter.unusedSimpArgs false
namespace Go.Proofs.Ytpphdaphbkepfaa.Aw
open Go Go.RowKit
abbrev tabPV (A : Ar) (K : List (List Int)) : PV := keyedPV A K (layM K)
theorem few_bounds {K : List (List Int)} {S : List Int} (h : fewM K S = true) : S.length ≤ 2000 ∧ K.length ≤ 2000 ∧ ∀ x ∈ K, x.length ≤ 2000 := by
  have h1 : totM K S K.length ≤ 2000 := by simpa [fewM] using h
  have h2 : ∀ l : List (List Int), l.length ≤ (l.map fun x => 1 + x.length).sum ∧ ∀ x ∈ l, x.length ≤ (l.map fun x => 1 + x.length).sum := by
    intro l
    induction l with
    | nil => simp
    | cons y r ih =>
      simp only [List.map_cons, List.sum_cons, List.length_cons, List.mem_cons]
      refine ⟨by omega, ?_⟩
      rintro x (rfl | hx)
      · omega
      · have := ih.2 x hx; omega
  unfold totM at h1
  rw [List.take_length] at h1
  obtain ⟨h3, h4⟩ := h2 K
  exact ⟨by omega, by omega, fun x hx => by have := h4 x hx; omega⟩
theorem nodup_put {K : List (List Int)} (h : K.Nodup) (key : List Int) : (putK K key).Nodup := by
  unfold putK
  split
  · exact h
  · rename_i hm
    rw [List.nodup_append]
    exact ⟨h, by simp, fun a ha b hb => by rw [List.mem_singleton.1 hb]; rintro rfl; exact hm ha⟩
theorem mem_put (K : List (List Int)) (key : List Int) : key ∈ putK K key := by
  unfold putK
  split <;> simp_all
theorem put_put (K : List (List Int)) (key : List Int) : putK (putK K key) key = putK K key := by
  rw [putK, if_pos (mem_put K key)]
theorem put_len (K : List (List Int)) (key : List Int) : (putK K key).length ≤ K.length + 1 := by
  unfold putK
  split <;> simp
theorem put_idx (K : List (List Int)) (key : List Int) : (putK K key).idxOf key = K.idxOf key := by
  unfold putK
  split
  · rfl
  · rename_i hm
    rw [List.idxOf_append, if_neg hm, List.idxOf_eq_length hm]
    simp
theorem at_put (K : List (List Int)) (key : List Int) : atM (putK K key) key = (K.idxOf key : Nat) := by
  simp [atM, mem_put, put_idx]
theorem put_bound {K : List (List Int)} {key : List Int} {n : Nat} (h : ∀ x ∈ K, x.length ≤ n) (hk : key.length ≤ n) : ∀ x ∈ putK K key, x.length ≤ n := by
  intro x hx
  unfold putK at hx
  split at hx
  · exact h x hx
  · rcases List.mem_append.1 hx with hx | hx
    · exact h x hx
    · rw [List.mem_singleton.1 hx]; exact hk
theorem at_put_old (K : List (List Int)) (key x : List Int) (hx : x ∈ K) : atM (putK K key) x = atM K x := by
  unfold putK
  split
  · rfl
  · simp [atM, hx, List.idxOf_append]
end Go.Proofs.Ytpphdaphbkepfaa.Aw

/- Tables and rows out of the row's data. -/
set_option linter.unusedVariables false
namespace Go.Proofs.Ytpphdaphbkepfaa.Aw
open Go Go.RowKit
def FitsK (K : List (List Int)) (S : List Int) : Prop := S.length ≤ 2000000000000000000 ∧ K.length ≤ 2000000000000000000 ∧ ∀ x ∈ K, x.length ≤ 2000000000000000000
theorem FitsK.nil {K : List (List Int)} {S : List Int} (h : FitsK K S) : FitsK K [] := ⟨by simp, h.2.1, h.2.2⟩
def shKeyed : List Sh := [.sl 24 (.sl 8 (.int .i64)), .sl 8 (.int .i64)]
theorem decInts2 {rows : List (List IC)} (h : ∀ r ∈ rows, Dec (.int .i64) r) : ∃ l : List Int, rows = hid real (List.map encI l) := by
  obtain ⟨l, rfl, _⟩ := decInts h
  exact ⟨l, rfl⟩
theorem decKeys {rows : List (List IC)} (h : ∀ r ∈ rows, Dec (.sl 8 (.int .i64)) r) : ∃ K : List (List Int), rows = hid real (List.map (encK real) K) ∧ ∀ x ∈ K, x.length ≤ 2000000000000000000 := by
  induction rows with
  | nil => exact ⟨[], rfl, by simp⟩
  | cons r rs ih =>
    obtain ⟨K, hK, hb⟩ := ih fun x hx => h x (List.mem_cons_of_mem _ hx)
    obtain ⟨q, rfl, hq, hl⟩ := h r List.mem_cons_self
    obtain ⟨l, rfl⟩ := decInts2 hq
    refine ⟨l :: K, by rw [hK]; rfl, fun x hx => ?_⟩
    rcases List.mem_cons.1 hx with rfl | hx
    · have : (List.map encI x).length * 8 ≤ 140737488351232 := hl
      rw [List.length_map] at this
      omega
    · exact hb x hx
theorem decKeyed {ics : List IC} (h : Decs shKeyed ics) : ∃ (K : List (List Int)) (S : List Int), ics = [.sl 1 false (hid real (List.map (encK real) K)), .sl 1 false (hid real (List.map encI S))] ∧ FitsK K S := by
  obtain ⟨a1, b1, rfl, ⟨r1, rfl, h1, l1⟩, a2, b2, rfl, ⟨r2, rfl, h2, l2⟩, rfl⟩ := h
  obtain ⟨K, rfl, hK⟩ := decKeys h1
  obtain ⟨S, rfl⟩ := decInts2 h2
  have e1 : (List.map (encK real) K).length * 24 ≤ 140737488351232 := l1
  have e2 : (List.map encI S).length * 8 ≤ 140737488351232 := l2
  rw [List.length_map] at e1 e2
  exact ⟨K, S, rfl, by omega, by omega, hK⟩
theorem decRow {x : IC} (h : Dec (.sl 8 (.int .i64)) [x]) : ∃ l : List Int, x = .sl 1 false (hid real (List.map encI l)) := by
  obtain ⟨r, e, h1, h2⟩ := h
  obtain ⟨l, rfl⟩ := decInts2 h1
  simp only [List.cons.injEq, and_true] at e
  exact ⟨l, e⟩
theorem decRows {x : IC} (h : Dec (.sl 24 (.sl 8 (.int .i64))) [x]) : ∃ K : List (List Int), x = .sl 1 false (hid real (List.map (encK real) K)) ∧ FitsK K [] := by
  obtain ⟨r, e, h1, h2⟩ := h
  obtain ⟨K, rfl, hK⟩ := decKeys h1
  simp only [List.cons.injEq, and_true] at e
  have e1 : (List.map (encK real) K).length * 24 ≤ 140737488351232 := h2
  rw [List.length_map] at e1
  exact ⟨K, e, by simp, by omega, hK⟩
end Go.Proofs.Ytpphdaphbkepfaa.Aw

/- The statement Keeps, walked. -/
set_option linter.unusedVariables false
set_option linter.unusedSimpArgs false
namespace Go.Proofs.Ytpphdaphbkepfaa.Aw
open Go Go.RowKit
set_option maxRecDepth 10000
attribute [local irreducible] AWp AOL QS One AOLg QSg NX QX TRg TX AllO Fin3
variable {A : Ar} (hA : A = real)
include hA
set_option maxHeartbeats 4000000 in
theorem keeps_law (K : List (List Int)) (S : List Int) (hfit : FitsK K S) (key : List Int) : PureCalls Try.prog 4 [keyedPV A K S, intsP A key] (BP true) := by
  obtain ⟨h1, h2, h3⟩ := hfit
  by_cases hg : fewM K S = true ∧ (K.Nodup ∧ S = layM K) ∧ key.length ≤ 500
  · obtain ⟨hf, ⟨hn, rfl⟩, hk⟩ := hg
    obtain ⟨hb1, hb2, hb3⟩ := few_bounds hf
    have hfew := refFew_c hA K (layM K) h1 h2 h3
    rw [hf] at hfew
    have hright := refRight_c hA K (layM K) (by omega)
    rw [show decide (K.Nodup ∧ layM K = layM K) = true by simp [hn]] at hright
    have hput := put_c hA K key hn (by omega) (fun x hx => by have := hb3 x hx; omega) (by omega)
    have hn' := nodup_put hn key
    have hl' := put_len K key
    have hb' := sizeM_bound (putK K key).length
    have hll := layM_len (putK K key)
    have hput2 := put_c hA (putK K key) key hn' (by omega) (put_bound (fun x hx => by have := hb3 x hx; omega) (by omega)) (by omega)
    rw [put_put, put_idx, show decide (key ∉ putK K key) = false by simp [mem_put]] at hput2
    have hright2 := refRight_c hA (putK K key) (layM (putK K key)) (by omega)
    rw [show decide ((putK K key).Nodup ∧ layM (putK K key) = layM (putK K key)) = true by simp [hn']] at hright2
    have hfind2 := find_c hA (putK K key) (layM (putK K key)) key (by omega) (layM_vals _) (by omega) (by omega)
    rw [find_at _ hn', at_put] at hfind2
    have hsame := refSame_c hA (putK K key) (putK K key) (layM (putK K key)) (layM (putK K key))
    rw [show decide (putK K key = putK K key ∧ layM (putK K key) = layM (putK K key)) = true by simp] at hsame
    have hsame2 := refSame_c hA (putK K key) K (layM (putK K key)) (layM K)
    have hfind := find_c hA K (layM K) key (by omega) (layM_vals K) (by omega) (by omega)
    rw [find_at K hn] at hfind
    by_cases hm : key ∈ K
    · have e1 : decide (key ∉ K) = false := by simp [hm]
      have e2 : atM K key = cN (K.idxOf key) := by simp [atM, hm, cN]
      have e3 : putK K key = K := by simp [putK, hm]
      rw [e1] at hput
      rw [e2] at hfind
      rw [e3] at hput hput2 hright2 hfind2 hsame hsame2 hn' hl' hb' hll
      rw [show decide (K = K ∧ layM K = layM K) = true by simp] at hsame2
      refine PureCalls.of Try.func4 rfl (by kernel_rfl) rfl ?_
      try first | refine AOLg.of [] ?_ | refine QSg.of [] ?_
      repeat' (first
        | (refine AWp.pass ?_; first
            | refine AWp.seq ?_
            | refine AWp.block ?_
            | refine AWp.skip ?_
            | refine AWp.regG [] (by conv => lhs; cbv) ?_
            | refine AWp.cond_t rfl ?_
            | refine AWp.cond_f rfl ?_
            | (refine AWp.cond rfl ?_ ?_ <;> intro hc <;> (try rw [hc]) <;> ((try simp only [zn] at hc) <;> (try simp (disch := omega) only [zz hA, zb, zy, reduceCtorEq, Bool.false_eq_true, Int.reduceLT, Int.reduceLE, Int.reduceNeg] at hc) <;> (try simp only [zw] at hc)) <;> (try (exfalso; omega)))
            | refine AWp.exit ?_
            | refine AWp.ret ⟨.inr rfl, _, RetOk.ev tabOk (by conv => lhs; cbv), ?_⟩
            | refine AWp.drawVG [] rfl (by decide +kernel) (by conv => lhs; cbv) ?_)
        | (refine AOLg.pass ?_; refine AOLg.nx hA tabOk (by conv => lhs; cbv) ?_; first
            | refine NX.done ?_
            | refine NX.gt ?_
            | refine NX.gf ?_
            | (refine NX.gs ?_ ?_ <;> intro hc <;> rw [hc] <;> ((try simp only [zn] at hc) <;> (try simp (disch := omega) only [zz hA, zb, zy, reduceCtorEq, Bool.false_eq_true, Int.reduceLT, Int.reduceLE, Int.reduceNeg] at hc) <;> (try simp only [zw] at hc)) <;> (try (exfalso; omega)))
            | (refine NX.kC ?_; first | (with_reducible refine NX.call (shown_c hA) ?_) | (with_reducible refine NX.call (hfew) ?_) | (with_reducible refine NX.call (hright) ?_) | (with_reducible refine NX.call (hput) ?_) | (with_reducible refine NX.call (hfind) ?_) | (with_reducible refine NX.call (hsame) ?_) | ((first | refine NX.call (shown_c hA) ?_ | refine NX.call (hfew) ?_ | refine NX.call (hright) ?_ | refine NX.call (hput) ?_ | refine NX.call (hfind) ?_ | refine NX.call (hsame) ?_)) | fail)
            | (refine NX.kO ?_; (first | refine NX.callO (shown_c hA) (by simp [allEq]) rfl ?_ | refine NX.callO (hfew) (by simp [allEq]) rfl ?_ | refine NX.callO (hright) (by simp [allEq]) rfl ?_ | refine NX.callO (hput) (by simp [allEq]) rfl ?_ | refine NX.callO (hfind) (by simp [allEq]) rfl ?_ | refine NX.callO (hsame) (by simp [allEq]) rfl ?_))
            | ((first | (refine NX.k 1 ?_; first | refine NX.one (One.elemM hA tabOk rfl rfl rfl rfl ?_ ?_) ?_ | refine NX.one (One.elemOwnM hA tabOk rfl rfl rfl rfl rfl ?_ ?_) ?_) | (refine NX.k 2 ?_; first | refine NX.one (One.clipM tabOk rfl rfl rfl rfl rfl ?_ ?_) ?_ | refine NX.one (One.cut_hM hA tabOk rfl rfl rfl rfl ?_ ?_) ?_ | refine NX.one (One.cut_lM hA tabOk rfl rfl rfl rfl ?_ ?_) ?_ | refine NX.one (One.cut_lhM hA tabOk rfl rfl rfl rfl rfl ?_ ?_ ?_) ?_) | (refine NX.k 3 ?_; first | refine NX.one (One.quoM hA rfl rfl rfl ?_) ?_) | (refine NX.k 4 ?_; first | refine NX.one (One.remM hA rfl rfl rfl ?_) ?_) | (refine NX.k 5 ?_; first | refine NX.one (One.shrM hA rfl rfl rfl ?_) ?_) | (refine NX.k 6 ?_; first | refine NX.one (One.bitsM hA rfl rfl rfl rfl) ?_) | (refine NX.k 7 ?_; first | refine NX.one (One.concatM hA rfl rfl rfl ?_) ?_) | (refine NX.k 8 ?_; first | refine NX.one (One.eqBoolM hA tabOk rfl rfl rfl rfl rfl) ?_) | (refine NX.k 9 ?_; first | refine NX.one (One.neBoolM hA tabOk rfl rfl rfl rfl rfl) ?_) | (refine NX.k 10 ?_; first | refine NX.one (One.lenOwnM hA tabOk rfl rfl rfl rfl) ?_) | (refine NX.k 11 ?_; first | refine NX.one (One.appendM hA tabOk _ rfl rfl rfl rfl rfl rfl ?_ ?_) ?_ | refine NX.one (One.appendMM hA tabOk rfl rfl rfl rfl rfl ?_ ?_) ?_ | refine NX.one (One.appendOwnM hA tabOk _ rfl rfl rfl rfl rfl rfl rfl ?_ ?_) ?_ | refine NX.one (One.appendOwnMM hA tabOk rfl rfl rfl rfl rfl rfl ?_ ?_) ?_ | refine NX.one (One.appendOwn0 hA tabOk rfl rfl rfl rfl rfl rfl ?_ ?_) ?_) | (refine NX.k 13 ?_; first | refine NX.one (One.byteM hA tabOk rfl rfl rfl rfl rfl ?_ ?_) ?_) | (refine NX.k 14 ?_; first | refine NX.one (One.loadRatM hA tabOk rfl rfl rfl rfl rfl rfl ?_) ?_) | (refine NX.k 15 ?_; first | refine NX.one (One.storeRatM hA tabOk _ rfl rfl rfl rfl rfl rfl rfl rfl (fun _ => rfl) ?_) ?_) | (refine NX.k 16 ?_; first | refine NX.one (One.makeM hA tabOk encI 0 rfl rfl rfl rfl rfl rfl rfl ?_ ?_ ?_) ?_) | (refine NX.k 17 ?_; first | refine NX.one (One.build0 tabOk rfl rfl) ?_) | (refine NX.k 18 ?_; first | refine NX.one (One.fieldRat tabOk rfl rfl rfl rfl (by decide) rfl rfl) ?_) | (refine NX.k 23 ?_; first | refine NX.one (One.lookupI (q := .i64) hA rfl rfl rfl (by conv => lhs; cbv) (by decide +kernel)) ?_ | refine NX.one (One.lookupI (q := .u8) hA rfl rfl rfl (by conv => lhs; cbv) (by decide +kernel)) ?_ | refine NX.one (One.lookupI1 (q := .i64) hA rfl rfl rfl (by conv => lhs; cbv) (by decide +kernel)) ?_ | refine NX.one (One.lookupI1 (q := .u8) hA rfl rfl rfl (by conv => lhs; cbv) (by decide +kernel)) ?_) | (refine NX.k 26 ?_; first | refine NX.mapLit .i64 (by conv => lhs; cbv) (by decide +kernel) ?_ | refine NX.mapLit .u8 (by conv => lhs; cbv) (by decide +kernel) ?_)) <;> (first | refine AOLg.pass ?_ | (((try simp only [zn]) <;> (try simp (disch := omega) only [zz hA, zb, zy, reduceCtorEq, Bool.false_eq_true, Int.reduceLT, Int.reduceLE, Int.reduceNeg]) <;> (try simp only [zw])) <;> omega)))
            | refine NX.raw ?_)
        | (refine TRg.pass ?_; refine TRg.nx hA tabOk (by conv => lhs; cbv) ?_; first
            | refine TX.done ?_
            | refine TX.gt ?_
            | refine TX.gf ?_
            | (refine TX.gs ?_ ?_ <;> intro hc <;> rw [hc] <;> ((try simp only [zn] at hc) <;> (try simp (disch := omega) only [zz hA, zb, zy, reduceCtorEq, Bool.false_eq_true, Int.reduceLT, Int.reduceLE, Int.reduceNeg] at hc) <;> (try simp only [zw] at hc)) <;> (try (exfalso; omega)))
            | (refine TX.kC ?_; first | (with_reducible refine TX.call (shown_c hA) ?_) | (with_reducible refine TX.call (hfew) ?_) | (with_reducible refine TX.call (hright) ?_) | (with_reducible refine TX.call (hput) ?_) | (with_reducible refine TX.call (hfind) ?_) | (with_reducible refine TX.call (hsame) ?_) | ((first | refine TX.call (shown_c hA) ?_ | refine TX.call (hfew) ?_ | refine TX.call (hright) ?_ | refine TX.call (hput) ?_ | refine TX.call (hfind) ?_ | refine TX.call (hsame) ?_)) | fail)
            | (refine TX.kO ?_; (first | refine TX.callO (shown_c hA) (by simp [allEq]) rfl ?_ | refine TX.callO (hfew) (by simp [allEq]) rfl ?_ | refine TX.callO (hright) (by simp [allEq]) rfl ?_ | refine TX.callO (hput) (by simp [allEq]) rfl ?_ | refine TX.callO (hfind) (by simp [allEq]) rfl ?_ | refine TX.callO (hsame) (by simp [allEq]) rfl ?_))
            | ((first | (refine TX.k 1 ?_; first | refine TX.one (One.elemM hA tabOk rfl rfl rfl rfl ?_ ?_) ?_ | refine TX.one (One.elemOwnM hA tabOk rfl rfl rfl rfl rfl ?_ ?_) ?_) | (refine TX.k 2 ?_; first | refine TX.one (One.clipM tabOk rfl rfl rfl rfl rfl ?_ ?_) ?_ | refine TX.one (One.cut_hM hA tabOk rfl rfl rfl rfl ?_ ?_) ?_ | refine TX.one (One.cut_lM hA tabOk rfl rfl rfl rfl ?_ ?_) ?_ | refine TX.one (One.cut_lhM hA tabOk rfl rfl rfl rfl rfl ?_ ?_ ?_) ?_) | (refine TX.k 3 ?_; first | refine TX.one (One.quoM hA rfl rfl rfl ?_) ?_) | (refine TX.k 4 ?_; first | refine TX.one (One.remM hA rfl rfl rfl ?_) ?_) | (refine TX.k 5 ?_; first | refine TX.one (One.shrM hA rfl rfl rfl ?_) ?_) | (refine TX.k 6 ?_; first | refine TX.one (One.bitsM hA rfl rfl rfl rfl) ?_) | (refine TX.k 7 ?_; first | refine TX.one (One.concatM hA rfl rfl rfl ?_) ?_) | (refine TX.k 8 ?_; first | refine TX.one (One.eqBoolM hA tabOk rfl rfl rfl rfl rfl) ?_) | (refine TX.k 9 ?_; first | refine TX.one (One.neBoolM hA tabOk rfl rfl rfl rfl rfl) ?_) | (refine TX.k 10 ?_; first | refine TX.one (One.lenOwnM hA tabOk rfl rfl rfl rfl) ?_) | (refine TX.k 11 ?_; first | refine TX.one (One.appendM hA tabOk _ rfl rfl rfl rfl rfl rfl ?_ ?_) ?_ | refine TX.one (One.appendMM hA tabOk rfl rfl rfl rfl rfl ?_ ?_) ?_ | refine TX.one (One.appendOwnM hA tabOk _ rfl rfl rfl rfl rfl rfl rfl ?_ ?_) ?_ | refine TX.one (One.appendOwnMM hA tabOk rfl rfl rfl rfl rfl rfl ?_ ?_) ?_ | refine TX.one (One.appendOwn0 hA tabOk rfl rfl rfl rfl rfl rfl ?_ ?_) ?_) | (refine TX.k 13 ?_; first | refine TX.one (One.byteM hA tabOk rfl rfl rfl rfl rfl ?_ ?_) ?_) | (refine TX.k 14 ?_; first | refine TX.one (One.loadRatM hA tabOk rfl rfl rfl rfl rfl rfl ?_) ?_) | (refine TX.k 15 ?_; first | refine TX.one (One.storeRatM hA tabOk _ rfl rfl rfl rfl rfl rfl rfl rfl (fun _ => rfl) ?_) ?_) | (refine TX.k 16 ?_; first | refine TX.one (One.makeM hA tabOk encI 0 rfl rfl rfl rfl rfl rfl rfl ?_ ?_ ?_) ?_) | (refine TX.k 17 ?_; first | refine TX.one (One.build0 tabOk rfl rfl) ?_) | (refine TX.k 18 ?_; first | refine TX.one (One.fieldRat tabOk rfl rfl rfl rfl (by decide) rfl rfl) ?_) | (refine TX.k 23 ?_; first | refine TX.one (One.lookupI (q := .i64) hA rfl rfl rfl (by conv => lhs; cbv) (by decide +kernel)) ?_ | refine TX.one (One.lookupI (q := .u8) hA rfl rfl rfl (by conv => lhs; cbv) (by decide +kernel)) ?_ | refine TX.one (One.lookupI1 (q := .i64) hA rfl rfl rfl (by conv => lhs; cbv) (by decide +kernel)) ?_ | refine TX.one (One.lookupI1 (q := .u8) hA rfl rfl rfl (by conv => lhs; cbv) (by decide +kernel)) ?_)) <;> (first | refine TRg.pass ?_ | (((try simp only [zn]) <;> (try simp (disch := omega) only [zz hA, zb, zy, reduceCtorEq, Bool.false_eq_true, Int.reduceLT, Int.reduceLE, Int.reduceNeg]) <;> (try simp only [zw])) <;> omega)))
            | refine TX.raw ?_)
        | refine Fin3.of (by conv => lhs; cbv) (by repeat' (first | exact True.intro | exact rfl | refine And.intro ?_ ?_)) ?_ ?_
        | (refine AllO.pass ?_; first
            | exact AllO.nil
            | (refine AllO.cons (One.ev hA tabOk ?_) ?_ <;> (first | refine AllO.pass ?_ | ((conv => lhs; cbv); done)))
            | (refine AllO.cons (One.skipB ?_) ?_ <;> (first | refine AllO.pass ?_ | ((conv => lhs; cbv); done)))
            | ((with_reducible refine AllO.call (by conv => lhs; cbv) (shown_c hA) ?_ ?_) <;> (first | refine AllO.pass ?_ | exact rfl | (((try simp only [zn]) <;> (try simp (disch := omega) only [zz hA, zb, zy, reduceCtorEq, Bool.false_eq_true, Int.reduceLT, Int.reduceLE, Int.reduceNeg]) <;> (try simp only [zw])) <;> omega)))
            | ((with_reducible refine AllO.call (by conv => lhs; cbv) (hfew) ?_ ?_) <;> (first | refine AllO.pass ?_ | exact rfl | (((try simp only [zn]) <;> (try simp (disch := omega) only [zz hA, zb, zy, reduceCtorEq, Bool.false_eq_true, Int.reduceLT, Int.reduceLE, Int.reduceNeg]) <;> (try simp only [zw])) <;> omega)))
            | ((with_reducible refine AllO.call (by conv => lhs; cbv) (hright) ?_ ?_) <;> (first | refine AllO.pass ?_ | exact rfl | (((try simp only [zn]) <;> (try simp (disch := omega) only [zz hA, zb, zy, reduceCtorEq, Bool.false_eq_true, Int.reduceLT, Int.reduceLE, Int.reduceNeg]) <;> (try simp only [zw])) <;> omega)))
            | ((with_reducible refine AllO.call (by conv => lhs; cbv) (hput) ?_ ?_) <;> (first | refine AllO.pass ?_ | exact rfl | (((try simp only [zn]) <;> (try simp (disch := omega) only [zz hA, zb, zy, reduceCtorEq, Bool.false_eq_true, Int.reduceLT, Int.reduceLE, Int.reduceNeg]) <;> (try simp only [zw])) <;> omega)))
            | ((with_reducible refine AllO.call (by conv => lhs; cbv) (hfind) ?_ ?_) <;> (first | refine AllO.pass ?_ | exact rfl | (((try simp only [zn]) <;> (try simp (disch := omega) only [zz hA, zb, zy, reduceCtorEq, Bool.false_eq_true, Int.reduceLT, Int.reduceLE, Int.reduceNeg]) <;> (try simp only [zw])) <;> omega)))
            | ((with_reducible refine AllO.call (by conv => lhs; cbv) (hsame) ?_ ?_) <;> (first | refine AllO.pass ?_ | exact rfl | (((try simp only [zn]) <;> (try simp (disch := omega) only [zz hA, zb, zy, reduceCtorEq, Bool.false_eq_true, Int.reduceLT, Int.reduceLE, Int.reduceNeg]) <;> (try simp only [zw])) <;> omega)))
            | ((first | refine AllO.consX (One.elemM hA tabOk rfl rfl rfl rfl ?_ ?_) rfl rfl ?_ | refine AllO.consX (One.cut_hM hA tabOk rfl rfl rfl rfl ?_ ?_) rfl rfl ?_ | refine AllO.consX (One.cut_lM hA tabOk rfl rfl rfl rfl ?_ ?_) rfl rfl ?_ | refine AllO.consX (One.cut_lhM hA tabOk rfl rfl rfl rfl rfl ?_ ?_ ?_) rfl rfl ?_ | refine AllO.consX (One.quoM hA rfl rfl rfl ?_) rfl rfl ?_ | refine AllO.consX (One.remM hA rfl rfl rfl ?_) rfl rfl ?_ | refine AllO.consX (One.byteM hA tabOk rfl rfl rfl rfl rfl ?_ ?_) rfl rfl ?_ | refine AllO.consX (One.concatM hA rfl rfl rfl ?_) rfl rfl ?_ | refine AllO.consX (One.lenOwnM hA tabOk rfl rfl rfl rfl) rfl rfl ?_ | refine AllO.consX (One.elemOwnM hA tabOk rfl rfl rfl rfl rfl ?_ ?_) rfl rfl ?_ | refine AllO.consX (One.loadRatM hA tabOk rfl rfl rfl rfl rfl rfl ?_) rfl rfl ?_) <;> (first | refine AllO.pass ?_ | (((try simp only [zn]) <;> (try simp (disch := omega) only [zz hA, zb, zy, reduceCtorEq, Bool.false_eq_true, Int.reduceLT, Int.reduceLE, Int.reduceNeg]) <;> (try simp only [zw])) <;> omega))))
        | refine Thn.exit ?_
        | refine Blk.here ?_
        | refine Blk.other (by decide) ?_
        | refine ⟨.inl rfl, _, RetOk.ev tabOk (by conv => lhs; cbv), ?_⟩
        | fail)
      all_goals first | (exfalso; omega) | (exfalso; simp_all; done) | skip
      refine AWp.loopU (fun k : Nat => [(12, .ic (.lit (.int .i64 (hid A (cN k)))))]) (fun _ => [.var true 25 [.ic (.sl 1 false (hid A (List.map (encK A) K))), .ic (.sl 1 false (hid A (List.map encI (layM K))))], .var true 25 [.ic (.sl 1 false (hid A (List.map (encK A) K))), .ic (.sl 1 false (hid A (List.map encI (layM K))))], .var true 25 [.ic (.sl 1 false (hid A (List.map (encK A) K))), .ic (.sl 1 false (hid A (List.map encI (layM K))))]]) (fun k => K.length - k) (fun k => k ≤ K.length) 0 (by conv => lhs; cbv) (by omega) (by (repeat' (first | exact subE.nil | refine subE.cons rfl ?_ | refine subE.int rfl ?_ ?_ | refine subE.bool rfl ?_ ?_ | refine subE.str rfl ?_ ?_ | refine subE.sl rfl ?_ ?_)) <;> simp [hA, real, hid, cN]) rfl ?_
      intro k hk2
      have hfk : k < K.length → PureCalls Try.prog 20 [tabPV A K, intsP A (hid A (K.getD (hid A (cN k)).toNat default))] (IP (hid A (cN k))) := fun h => by
        have e : hid A (K.getD (hid A (cN k)).toNat default) = K.getD k default := by ((try simp only [zn]) <;> (try simp (disch := omega) only [zz hA, zb, zy, reduceCtorEq, Bool.false_eq_true, Int.reduceLT, Int.reduceLE, Int.reduceNeg]) <;> (try simp only [zw]))
        have hmk : K.getD k default ∈ K := by
          rw [List.getD_eq_getElem?_getD, List.getElem?_eq_getElem h]
          exact List.getElem_mem _
        rw [e]
        have := find_c hA K (layM K) (K.getD k default) (by omega) (layM_vals K) (by omega) (by have := hb3 _ hmk; omega)
        rw [find_at K hn, (nodup_at K).1 hn k h] at this
        exact this
      try first | refine AOLg.of [] ?_ | refine QSg.of [] ?_
      repeat' (first
        | (refine AWp.pass ?_; first
            | refine AWp.seq ?_
            | refine AWp.block ?_
            | refine AWp.skip ?_
            | refine AWp.regG [] (by conv => lhs; cbv) ?_
            | refine AWp.cond_t rfl ?_
            | refine AWp.cond_f rfl ?_
            | (refine AWp.cond rfl ?_ ?_ <;> intro hc <;> (try rw [hc]) <;> ((try simp only [zn] at hc) <;> (try simp (disch := omega) only [zz hA, zb, zy, reduceCtorEq, Bool.false_eq_true, Int.reduceLT, Int.reduceLE, Int.reduceNeg] at hc) <;> (try simp only [zw] at hc)) <;> (try (exfalso; omega)))
            | refine AWp.exit ?_
            | refine AWp.ret ⟨.inr rfl, _, RetOk.ev tabOk (by conv => lhs; cbv), ?_⟩
            | refine AWp.drawVG [] rfl (by decide +kernel) (by conv => lhs; cbv) ?_)
        | (refine AOLg.pass ?_; refine AOLg.nx hA tabOk (by conv => lhs; cbv) ?_; first
            | refine NX.done ?_
            | refine NX.gt ?_
            | refine NX.gf ?_
            | (refine NX.gs ?_ ?_ <;> intro hc <;> rw [hc] <;> ((try simp only [zn] at hc) <;> (try simp (disch := omega) only [zz hA, zb, zy, reduceCtorEq, Bool.false_eq_true, Int.reduceLT, Int.reduceLE, Int.reduceNeg] at hc) <;> (try simp only [zw] at hc)) <;> (try (exfalso; omega)))
            | (refine NX.kC ?_; first | (with_reducible refine NX.call (hfk (by omega)) ?_) | (with_reducible refine NX.call (hsame) ?_) | (with_reducible refine NX.call (hsame2) ?_) | ((first | refine NX.call (hfk (by omega)) ?_ | refine NX.call (hsame) ?_ | refine NX.call (hsame2) ?_)) | fail)
            | (refine NX.kO ?_; (first | refine NX.callO (hfk (by omega)) (by simp [allEq]) rfl ?_ | refine NX.callO (hsame) (by simp [allEq]) rfl ?_ | refine NX.callO (hsame2) (by simp [allEq]) rfl ?_))
            | ((first | (refine NX.k 1 ?_; first | refine NX.one (One.elemM hA tabOk rfl rfl rfl rfl ?_ ?_) ?_ | refine NX.one (One.elemOwnM hA tabOk rfl rfl rfl rfl rfl ?_ ?_) ?_) | (refine NX.k 2 ?_; first | refine NX.one (One.clipM tabOk rfl rfl rfl rfl rfl ?_ ?_) ?_ | refine NX.one (One.cut_hM hA tabOk rfl rfl rfl rfl ?_ ?_) ?_ | refine NX.one (One.cut_lM hA tabOk rfl rfl rfl rfl ?_ ?_) ?_ | refine NX.one (One.cut_lhM hA tabOk rfl rfl rfl rfl rfl ?_ ?_ ?_) ?_) | (refine NX.k 3 ?_; first | refine NX.one (One.quoM hA rfl rfl rfl ?_) ?_) | (refine NX.k 4 ?_; first | refine NX.one (One.remM hA rfl rfl rfl ?_) ?_) | (refine NX.k 5 ?_; first | refine NX.one (One.shrM hA rfl rfl rfl ?_) ?_) | (refine NX.k 6 ?_; first | refine NX.one (One.bitsM hA rfl rfl rfl rfl) ?_) | (refine NX.k 7 ?_; first | refine NX.one (One.concatM hA rfl rfl rfl ?_) ?_) | (refine NX.k 8 ?_; first | refine NX.one (One.eqBoolM hA tabOk rfl rfl rfl rfl rfl) ?_) | (refine NX.k 9 ?_; first | refine NX.one (One.neBoolM hA tabOk rfl rfl rfl rfl rfl) ?_) | (refine NX.k 10 ?_; first | refine NX.one (One.lenOwnM hA tabOk rfl rfl rfl rfl) ?_) | (refine NX.k 11 ?_; first | refine NX.one (One.appendM hA tabOk _ rfl rfl rfl rfl rfl rfl ?_ ?_) ?_ | refine NX.one (One.appendMM hA tabOk rfl rfl rfl rfl rfl ?_ ?_) ?_ | refine NX.one (One.appendOwnM hA tabOk _ rfl rfl rfl rfl rfl rfl rfl ?_ ?_) ?_ | refine NX.one (One.appendOwnMM hA tabOk rfl rfl rfl rfl rfl rfl ?_ ?_) ?_ | refine NX.one (One.appendOwn0 hA tabOk rfl rfl rfl rfl rfl rfl ?_ ?_) ?_) | (refine NX.k 13 ?_; first | refine NX.one (One.byteM hA tabOk rfl rfl rfl rfl rfl ?_ ?_) ?_) | (refine NX.k 14 ?_; first | refine NX.one (One.loadRatM hA tabOk rfl rfl rfl rfl rfl rfl ?_) ?_) | (refine NX.k 15 ?_; first | refine NX.one (One.storeRatM hA tabOk _ rfl rfl rfl rfl rfl rfl rfl rfl (fun _ => rfl) ?_) ?_) | (refine NX.k 16 ?_; first | refine NX.one (One.makeM hA tabOk encI 0 rfl rfl rfl rfl rfl rfl rfl ?_ ?_ ?_) ?_) | (refine NX.k 17 ?_; first | refine NX.one (One.build0 tabOk rfl rfl) ?_) | (refine NX.k 18 ?_; first | refine NX.one (One.fieldRat tabOk rfl rfl rfl rfl (by decide) rfl rfl) ?_) | (refine NX.k 23 ?_; first | refine NX.one (One.lookupI (q := .i64) hA rfl rfl rfl (by conv => lhs; cbv) (by decide +kernel)) ?_ | refine NX.one (One.lookupI (q := .u8) hA rfl rfl rfl (by conv => lhs; cbv) (by decide +kernel)) ?_ | refine NX.one (One.lookupI1 (q := .i64) hA rfl rfl rfl (by conv => lhs; cbv) (by decide +kernel)) ?_ | refine NX.one (One.lookupI1 (q := .u8) hA rfl rfl rfl (by conv => lhs; cbv) (by decide +kernel)) ?_) | (refine NX.k 26 ?_; first | refine NX.mapLit .i64 (by conv => lhs; cbv) (by decide +kernel) ?_ | refine NX.mapLit .u8 (by conv => lhs; cbv) (by decide +kernel) ?_)) <;> (first | refine AOLg.pass ?_ | (((try simp only [zn]) <;> (try simp (disch := omega) only [zz hA, zb, zy, reduceCtorEq, Bool.false_eq_true, Int.reduceLT, Int.reduceLE, Int.reduceNeg]) <;> (try simp only [zw])) <;> omega)))
            | refine NX.raw ?_)
        | (refine TRg.pass ?_; refine TRg.nx hA tabOk (by conv => lhs; cbv) ?_; first
            | refine TX.done ?_
            | refine TX.gt ?_
            | refine TX.gf ?_
            | (refine TX.gs ?_ ?_ <;> intro hc <;> rw [hc] <;> ((try simp only [zn] at hc) <;> (try simp (disch := omega) only [zz hA, zb, zy, reduceCtorEq, Bool.false_eq_true, Int.reduceLT, Int.reduceLE, Int.reduceNeg] at hc) <;> (try simp only [zw] at hc)) <;> (try (exfalso; omega)))
            | (refine TX.kC ?_; first | (with_reducible refine TX.call (hfk (by omega)) ?_) | (with_reducible refine TX.call (hsame) ?_) | (with_reducible refine TX.call (hsame2) ?_) | ((first | refine TX.call (hfk (by omega)) ?_ | refine TX.call (hsame) ?_ | refine TX.call (hsame2) ?_)) | fail)
            | (refine TX.kO ?_; (first | refine TX.callO (hfk (by omega)) (by simp [allEq]) rfl ?_ | refine TX.callO (hsame) (by simp [allEq]) rfl ?_ | refine TX.callO (hsame2) (by simp [allEq]) rfl ?_))
            | ((first | (refine TX.k 1 ?_; first | refine TX.one (One.elemM hA tabOk rfl rfl rfl rfl ?_ ?_) ?_ | refine TX.one (One.elemOwnM hA tabOk rfl rfl rfl rfl rfl ?_ ?_) ?_) | (refine TX.k 2 ?_; first | refine TX.one (One.clipM tabOk rfl rfl rfl rfl rfl ?_ ?_) ?_ | refine TX.one (One.cut_hM hA tabOk rfl rfl rfl rfl ?_ ?_) ?_ | refine TX.one (One.cut_lM hA tabOk rfl rfl rfl rfl ?_ ?_) ?_ | refine TX.one (One.cut_lhM hA tabOk rfl rfl rfl rfl rfl ?_ ?_ ?_) ?_) | (refine TX.k 3 ?_; first | refine TX.one (One.quoM hA rfl rfl rfl ?_) ?_) | (refine TX.k 4 ?_; first | refine TX.one (One.remM hA rfl rfl rfl ?_) ?_) | (refine TX.k 5 ?_; first | refine TX.one (One.shrM hA rfl rfl rfl ?_) ?_) | (refine TX.k 6 ?_; first | refine TX.one (One.bitsM hA rfl rfl rfl rfl) ?_) | (refine TX.k 7 ?_; first | refine TX.one (One.concatM hA rfl rfl rfl ?_) ?_) | (refine TX.k 8 ?_; first | refine TX.one (One.eqBoolM hA tabOk rfl rfl rfl rfl rfl) ?_) | (refine TX.k 9 ?_; first | refine TX.one (One.neBoolM hA tabOk rfl rfl rfl rfl rfl) ?_) | (refine TX.k 10 ?_; first | refine TX.one (One.lenOwnM hA tabOk rfl rfl rfl rfl) ?_) | (refine TX.k 11 ?_; first | refine TX.one (One.appendM hA tabOk _ rfl rfl rfl rfl rfl rfl ?_ ?_) ?_ | refine TX.one (One.appendMM hA tabOk rfl rfl rfl rfl rfl ?_ ?_) ?_ | refine TX.one (One.appendOwnM hA tabOk _ rfl rfl rfl rfl rfl rfl rfl ?_ ?_) ?_ | refine TX.one (One.appendOwnMM hA tabOk rfl rfl rfl rfl rfl rfl ?_ ?_) ?_ | refine TX.one (One.appendOwn0 hA tabOk rfl rfl rfl rfl rfl rfl ?_ ?_) ?_) | (refine TX.k 13 ?_; first | refine TX.one (One.byteM hA tabOk rfl rfl rfl rfl rfl ?_ ?_) ?_) | (refine TX.k 14 ?_; first | refine TX.one (One.loadRatM hA tabOk rfl rfl rfl rfl rfl rfl ?_) ?_) | (refine TX.k 15 ?_; first | refine TX.one (One.storeRatM hA tabOk _ rfl rfl rfl rfl rfl rfl rfl rfl (fun _ => rfl) ?_) ?_) | (refine TX.k 16 ?_; first | refine TX.one (One.makeM hA tabOk encI 0 rfl rfl rfl rfl rfl rfl rfl ?_ ?_ ?_) ?_) | (refine TX.k 17 ?_; first | refine TX.one (One.build0 tabOk rfl rfl) ?_) | (refine TX.k 18 ?_; first | refine TX.one (One.fieldRat tabOk rfl rfl rfl rfl (by decide) rfl rfl) ?_) | (refine TX.k 23 ?_; first | refine TX.one (One.lookupI (q := .i64) hA rfl rfl rfl (by conv => lhs; cbv) (by decide +kernel)) ?_ | refine TX.one (One.lookupI (q := .u8) hA rfl rfl rfl (by conv => lhs; cbv) (by decide +kernel)) ?_ | refine TX.one (One.lookupI1 (q := .i64) hA rfl rfl rfl (by conv => lhs; cbv) (by decide +kernel)) ?_ | refine TX.one (One.lookupI1 (q := .u8) hA rfl rfl rfl (by conv => lhs; cbv) (by decide +kernel)) ?_)) <;> (first | refine TRg.pass ?_ | (((try simp only [zn]) <;> (try simp (disch := omega) only [zz hA, zb, zy, reduceCtorEq, Bool.false_eq_true, Int.reduceLT, Int.reduceLE, Int.reduceNeg]) <;> (try simp only [zw])) <;> omega)))
            | refine TX.raw ?_)
        | refine Fin3.of (by conv => lhs; cbv) (by repeat' (first | exact True.intro | exact rfl | refine And.intro ?_ ?_)) ?_ ?_
        | (refine AllO.pass ?_; first
            | exact AllO.nil
            | (refine AllO.cons (One.ev hA tabOk ?_) ?_ <;> (first | refine AllO.pass ?_ | ((conv => lhs; cbv); done)))
            | (refine AllO.cons (One.skipB ?_) ?_ <;> (first | refine AllO.pass ?_ | ((conv => lhs; cbv); done)))
            | ((with_reducible refine AllO.call (by conv => lhs; cbv) (hfk (by omega)) ?_ ?_) <;> (first | refine AllO.pass ?_ | exact rfl | (((try simp only [zn]) <;> (try simp (disch := omega) only [zz hA, zb, zy, reduceCtorEq, Bool.false_eq_true, Int.reduceLT, Int.reduceLE, Int.reduceNeg]) <;> (try simp only [zw])) <;> omega)))
            | ((with_reducible refine AllO.call (by conv => lhs; cbv) (hsame) ?_ ?_) <;> (first | refine AllO.pass ?_ | exact rfl | (((try simp only [zn]) <;> (try simp (disch := omega) only [zz hA, zb, zy, reduceCtorEq, Bool.false_eq_true, Int.reduceLT, Int.reduceLE, Int.reduceNeg]) <;> (try simp only [zw])) <;> omega)))
            | ((with_reducible refine AllO.call (by conv => lhs; cbv) (hsame2) ?_ ?_) <;> (first | refine AllO.pass ?_ | exact rfl | (((try simp only [zn]) <;> (try simp (disch := omega) only [zz hA, zb, zy, reduceCtorEq, Bool.false_eq_true, Int.reduceLT, Int.reduceLE, Int.reduceNeg]) <;> (try simp only [zw])) <;> omega)))
            | ((first | refine AllO.consX (One.elemM hA tabOk rfl rfl rfl rfl ?_ ?_) rfl rfl ?_ | refine AllO.consX (One.cut_hM hA tabOk rfl rfl rfl rfl ?_ ?_) rfl rfl ?_ | refine AllO.consX (One.cut_lM hA tabOk rfl rfl rfl rfl ?_ ?_) rfl rfl ?_ | refine AllO.consX (One.cut_lhM hA tabOk rfl rfl rfl rfl rfl ?_ ?_ ?_) rfl rfl ?_ | refine AllO.consX (One.quoM hA rfl rfl rfl ?_) rfl rfl ?_ | refine AllO.consX (One.remM hA rfl rfl rfl ?_) rfl rfl ?_ | refine AllO.consX (One.byteM hA tabOk rfl rfl rfl rfl rfl ?_ ?_) rfl rfl ?_ | refine AllO.consX (One.concatM hA rfl rfl rfl ?_) rfl rfl ?_ | refine AllO.consX (One.lenOwnM hA tabOk rfl rfl rfl rfl) rfl rfl ?_ | refine AllO.consX (One.elemOwnM hA tabOk rfl rfl rfl rfl rfl ?_ ?_) rfl rfl ?_ | refine AllO.consX (One.loadRatM hA tabOk rfl rfl rfl rfl rfl rfl ?_) rfl rfl ?_) <;> (first | refine AllO.pass ?_ | (((try simp only [zn]) <;> (try simp (disch := omega) only [zz hA, zb, zy, reduceCtorEq, Bool.false_eq_true, Int.reduceLT, Int.reduceLE, Int.reduceNeg]) <;> (try simp only [zw])) <;> omega))))
        | refine Thn.exit ?_
        | refine Blk.here ?_
        | refine Blk.other (by decide) ?_
        | refine ⟨.inl rfl, _, RetOk.ev tabOk (by conv => lhs; cbv), ?_⟩
        | fail)
      all_goals first
        | (exfalso; omega)
        | skip
      · refine ⟨k + 1, ?_, ?_, rfl, rfl, ?_, (by repeat' (first | exact subE.nil | refine subE.cons rfl ?_))⟩ <;> (try omega)
        repeat' (first | exact subE.nil | refine subE.cons rfl ?_ | refine subE.int rfl ?_ ?_ | refine subE.bool rfl ?_ ?_ | refine subE.str rfl ?_ ?_ | refine subE.sl rfl ?_ ?_)
        (((try simp only [zn]) <;> (try simp (disch := omega) only [zz hA, zb, zy, reduceCtorEq, Bool.false_eq_true, Int.reduceLT, Int.reduceLE, Int.reduceNeg]) <;> (try simp only [zw])) <;> omega)
      · refine rPV_then (by conv => lhs; cbv) ?_
        simp [hA, real, hid]
    · have e1 : decide (key ∉ K) = true := by simp [hm]
      have e2 : atM K key = -1 := atM_miss K key hm
      have e4 : K.idxOf key = K.length := List.idxOf_eq_length hm
      rw [e1, e4] at hput
      rw [e4] at hput2 hfind2
      rw [e2] at hfind
      refine PureCalls.of Try.func4 rfl (by kernel_rfl) rfl ?_
      try first | refine AOLg.of [] ?_ | refine QSg.of [] ?_
      repeat' (first
        | (refine AWp.pass ?_; first
            | refine AWp.seq ?_
            | refine AWp.block ?_
            | refine AWp.skip ?_
            | refine AWp.regG [] (by conv => lhs; cbv) ?_
            | refine AWp.cond_t rfl ?_
            | refine AWp.cond_f rfl ?_
            | (refine AWp.cond rfl ?_ ?_ <;> intro hc <;> (try rw [hc]) <;> ((try simp only [zn] at hc) <;> (try simp (disch := omega) only [zz hA, zb, zy, reduceCtorEq, Bool.false_eq_true, Int.reduceLT, Int.reduceLE, Int.reduceNeg] at hc) <;> (try simp only [zw] at hc)) <;> (try (exfalso; omega)))
            | refine AWp.exit ?_
            | refine AWp.ret ⟨.inr rfl, _, RetOk.ev tabOk (by conv => lhs; cbv), ?_⟩
            | refine AWp.drawVG [] rfl (by decide +kernel) (by conv => lhs; cbv) ?_)
        | (refine AOLg.pass ?_; refine AOLg.nx hA tabOk (by conv => lhs; cbv) ?_; first
            | refine NX.done ?_
            | refine NX.gt ?_
            | refine NX.gf ?_
            | (refine NX.gs ?_ ?_ <;> intro hc <;> rw [hc] <;> ((try simp only [zn] at hc) <;> (try simp (disch := omega) only [zz hA, zb, zy, reduceCtorEq, Bool.false_eq_true, Int.reduceLT, Int.reduceLE, Int.reduceNeg] at hc) <;> (try simp only [zw] at hc)) <;> (try (exfalso; omega)))
            | (refine NX.kC ?_; first | (with_reducible refine NX.call (shown_c hA) ?_) | (with_reducible refine NX.call (hfew) ?_) | (with_reducible refine NX.call (hright) ?_) | (with_reducible refine NX.call (hput) ?_) | (with_reducible refine NX.call (hput2) ?_) | (with_reducible refine NX.call (hright2) ?_) | (with_reducible refine NX.call (hfind2) ?_) | (with_reducible refine NX.call (hfind) ?_) | (with_reducible refine NX.call (hsame) ?_) | ((first | refine NX.call (shown_c hA) ?_ | refine NX.call (hfew) ?_ | refine NX.call (hright) ?_ | refine NX.call (hput) ?_ | refine NX.call (hput2) ?_ | refine NX.call (hright2) ?_ | refine NX.call (hfind2) ?_ | refine NX.call (hfind) ?_ | refine NX.call (hsame) ?_)) | fail)
            | (refine NX.kO ?_; (first | refine NX.callO (shown_c hA) (by simp [allEq]) rfl ?_ | refine NX.callO (hfew) (by simp [allEq]) rfl ?_ | refine NX.callO (hright) (by simp [allEq]) rfl ?_ | refine NX.callO (hput) (by simp [allEq]) rfl ?_ | refine NX.callO (hput2) (by simp [allEq]) rfl ?_ | refine NX.callO (hright2) (by simp [allEq]) rfl ?_ | refine NX.callO (hfind2) (by simp [allEq]) rfl ?_ | refine NX.callO (hfind) (by simp [allEq]) rfl ?_ | refine NX.callO (hsame) (by simp [allEq]) rfl ?_))
            | ((first | (refine NX.k 1 ?_; first | refine NX.one (One.elemM hA tabOk rfl rfl rfl rfl ?_ ?_) ?_ | refine NX.one (One.elemOwnM hA tabOk rfl rfl rfl rfl rfl ?_ ?_) ?_) | (refine NX.k 2 ?_; first | refine NX.one (One.clipM tabOk rfl rfl rfl rfl rfl ?_ ?_) ?_ | refine NX.one (One.cut_hM hA tabOk rfl rfl rfl rfl ?_ ?_) ?_ | refine NX.one (One.cut_lM hA tabOk rfl rfl rfl rfl ?_ ?_) ?_ | refine NX.one (One.cut_lhM hA tabOk rfl rfl rfl rfl rfl ?_ ?_ ?_) ?_) | (refine NX.k 3 ?_; first | refine NX.one (One.quoM hA rfl rfl rfl ?_) ?_) | (refine NX.k 4 ?_; first | refine NX.one (One.remM hA rfl rfl rfl ?_) ?_) | (refine NX.k 5 ?_; first | refine NX.one (One.shrM hA rfl rfl rfl ?_) ?_) | (refine NX.k 6 ?_; first | refine NX.one (One.bitsM hA rfl rfl rfl rfl) ?_) | (refine NX.k 7 ?_; first | refine NX.one (One.concatM hA rfl rfl rfl ?_) ?_) | (refine NX.k 8 ?_; first | refine NX.one (One.eqBoolM hA tabOk rfl rfl rfl rfl rfl) ?_) | (refine NX.k 9 ?_; first | refine NX.one (One.neBoolM hA tabOk rfl rfl rfl rfl rfl) ?_) | (refine NX.k 10 ?_; first | refine NX.one (One.lenOwnM hA tabOk rfl rfl rfl rfl) ?_) | (refine NX.k 11 ?_; first | refine NX.one (One.appendM hA tabOk _ rfl rfl rfl rfl rfl rfl ?_ ?_) ?_ | refine NX.one (One.appendMM hA tabOk rfl rfl rfl rfl rfl ?_ ?_) ?_ | refine NX.one (One.appendOwnM hA tabOk _ rfl rfl rfl rfl rfl rfl rfl ?_ ?_) ?_ | refine NX.one (One.appendOwnMM hA tabOk rfl rfl rfl rfl rfl rfl ?_ ?_) ?_ | refine NX.one (One.appendOwn0 hA tabOk rfl rfl rfl rfl rfl rfl ?_ ?_) ?_) | (refine NX.k 13 ?_; first | refine NX.one (One.byteM hA tabOk rfl rfl rfl rfl rfl ?_ ?_) ?_) | (refine NX.k 14 ?_; first | refine NX.one (One.loadRatM hA tabOk rfl rfl rfl rfl rfl rfl ?_) ?_) | (refine NX.k 15 ?_; first | refine NX.one (One.storeRatM hA tabOk _ rfl rfl rfl rfl rfl rfl rfl rfl (fun _ => rfl) ?_) ?_) | (refine NX.k 16 ?_; first | refine NX.one (One.makeM hA tabOk encI 0 rfl rfl rfl rfl rfl rfl rfl ?_ ?_ ?_) ?_) | (refine NX.k 17 ?_; first | refine NX.one (One.build0 tabOk rfl rfl) ?_) | (refine NX.k 18 ?_; first | refine NX.one (One.fieldRat tabOk rfl rfl rfl rfl (by decide) rfl rfl) ?_) | (refine NX.k 23 ?_; first | refine NX.one (One.lookupI (q := .i64) hA rfl rfl rfl (by conv => lhs; cbv) (by decide +kernel)) ?_ | refine NX.one (One.lookupI (q := .u8) hA rfl rfl rfl (by conv => lhs; cbv) (by decide +kernel)) ?_ | refine NX.one (One.lookupI1 (q := .i64) hA rfl rfl rfl (by conv => lhs; cbv) (by decide +kernel)) ?_ | refine NX.one (One.lookupI1 (q := .u8) hA rfl rfl rfl (by conv => lhs; cbv) (by decide +kernel)) ?_) | (refine NX.k 26 ?_; first | refine NX.mapLit .i64 (by conv => lhs; cbv) (by decide +kernel) ?_ | refine NX.mapLit .u8 (by conv => lhs; cbv) (by decide +kernel) ?_)) <;> (first | refine AOLg.pass ?_ | (((try simp only [zn]) <;> (try simp (disch := omega) only [zz hA, zb, zy, reduceCtorEq, Bool.false_eq_true, Int.reduceLT, Int.reduceLE, Int.reduceNeg]) <;> (try simp only [zw])) <;> omega)))
            | refine NX.raw ?_)
        | (refine TRg.pass ?_; refine TRg.nx hA tabOk (by conv => lhs; cbv) ?_; first
            | refine TX.done ?_
            | refine TX.gt ?_
            | refine TX.gf ?_
            | (refine TX.gs ?_ ?_ <;> intro hc <;> rw [hc] <;> ((try simp only [zn] at hc) <;> (try simp (disch := omega) only [zz hA, zb, zy, reduceCtorEq, Bool.false_eq_true, Int.reduceLT, Int.reduceLE, Int.reduceNeg] at hc) <;> (try simp only [zw] at hc)) <;> (try (exfalso; omega)))
            | (refine TX.kC ?_; first | (with_reducible refine TX.call (shown_c hA) ?_) | (with_reducible refine TX.call (hfew) ?_) | (with_reducible refine TX.call (hright) ?_) | (with_reducible refine TX.call (hput) ?_) | (with_reducible refine TX.call (hput2) ?_) | (with_reducible refine TX.call (hright2) ?_) | (with_reducible refine TX.call (hfind2) ?_) | (with_reducible refine TX.call (hfind) ?_) | (with_reducible refine TX.call (hsame) ?_) | ((first | refine TX.call (shown_c hA) ?_ | refine TX.call (hfew) ?_ | refine TX.call (hright) ?_ | refine TX.call (hput) ?_ | refine TX.call (hput2) ?_ | refine TX.call (hright2) ?_ | refine TX.call (hfind2) ?_ | refine TX.call (hfind) ?_ | refine TX.call (hsame) ?_)) | fail)
            | (refine TX.kO ?_; (first | refine TX.callO (shown_c hA) (by simp [allEq]) rfl ?_ | refine TX.callO (hfew) (by simp [allEq]) rfl ?_ | refine TX.callO (hright) (by simp [allEq]) rfl ?_ | refine TX.callO (hput) (by simp [allEq]) rfl ?_ | refine TX.callO (hput2) (by simp [allEq]) rfl ?_ | refine TX.callO (hright2) (by simp [allEq]) rfl ?_ | refine TX.callO (hfind2) (by simp [allEq]) rfl ?_ | refine TX.callO (hfind) (by simp [allEq]) rfl ?_ | refine TX.callO (hsame) (by simp [allEq]) rfl ?_))
            | ((first | (refine TX.k 1 ?_; first | refine TX.one (One.elemM hA tabOk rfl rfl rfl rfl ?_ ?_) ?_ | refine TX.one (One.elemOwnM hA tabOk rfl rfl rfl rfl rfl ?_ ?_) ?_) | (refine TX.k 2 ?_; first | refine TX.one (One.clipM tabOk rfl rfl rfl rfl rfl ?_ ?_) ?_ | refine TX.one (One.cut_hM hA tabOk rfl rfl rfl rfl ?_ ?_) ?_ | refine TX.one (One.cut_lM hA tabOk rfl rfl rfl rfl ?_ ?_) ?_ | refine TX.one (One.cut_lhM hA tabOk rfl rfl rfl rfl rfl ?_ ?_ ?_) ?_) | (refine TX.k 3 ?_; first | refine TX.one (One.quoM hA rfl rfl rfl ?_) ?_) | (refine TX.k 4 ?_; first | refine TX.one (One.remM hA rfl rfl rfl ?_) ?_) | (refine TX.k 5 ?_; first | refine TX.one (One.shrM hA rfl rfl rfl ?_) ?_) | (refine TX.k 6 ?_; first | refine TX.one (One.bitsM hA rfl rfl rfl rfl) ?_) | (refine TX.k 7 ?_; first | refine TX.one (One.concatM hA rfl rfl rfl ?_) ?_) | (refine TX.k 8 ?_; first | refine TX.one (One.eqBoolM hA tabOk rfl rfl rfl rfl rfl) ?_) | (refine TX.k 9 ?_; first | refine TX.one (One.neBoolM hA tabOk rfl rfl rfl rfl rfl) ?_) | (refine TX.k 10 ?_; first | refine TX.one (One.lenOwnM hA tabOk rfl rfl rfl rfl) ?_) | (refine TX.k 11 ?_; first | refine TX.one (One.appendM hA tabOk _ rfl rfl rfl rfl rfl rfl ?_ ?_) ?_ | refine TX.one (One.appendMM hA tabOk rfl rfl rfl rfl rfl ?_ ?_) ?_ | refine TX.one (One.appendOwnM hA tabOk _ rfl rfl rfl rfl rfl rfl rfl ?_ ?_) ?_ | refine TX.one (One.appendOwnMM hA tabOk rfl rfl rfl rfl rfl rfl ?_ ?_) ?_ | refine TX.one (One.appendOwn0 hA tabOk rfl rfl rfl rfl rfl rfl ?_ ?_) ?_) | (refine TX.k 13 ?_; first | refine TX.one (One.byteM hA tabOk rfl rfl rfl rfl rfl ?_ ?_) ?_) | (refine TX.k 14 ?_; first | refine TX.one (One.loadRatM hA tabOk rfl rfl rfl rfl rfl rfl ?_) ?_) | (refine TX.k 15 ?_; first | refine TX.one (One.storeRatM hA tabOk _ rfl rfl rfl rfl rfl rfl rfl rfl (fun _ => rfl) ?_) ?_) | (refine TX.k 16 ?_; first | refine TX.one (One.makeM hA tabOk encI 0 rfl rfl rfl rfl rfl rfl rfl ?_ ?_ ?_) ?_) | (refine TX.k 17 ?_; first | refine TX.one (One.build0 tabOk rfl rfl) ?_) | (refine TX.k 18 ?_; first | refine TX.one (One.fieldRat tabOk rfl rfl rfl rfl (by decide) rfl rfl) ?_) | (refine TX.k 23 ?_; first | refine TX.one (One.lookupI (q := .i64) hA rfl rfl rfl (by conv => lhs; cbv) (by decide +kernel)) ?_ | refine TX.one (One.lookupI (q := .u8) hA rfl rfl rfl (by conv => lhs; cbv) (by decide +kernel)) ?_ | refine TX.one (One.lookupI1 (q := .i64) hA rfl rfl rfl (by conv => lhs; cbv) (by decide +kernel)) ?_ | refine TX.one (One.lookupI1 (q := .u8) hA rfl rfl rfl (by conv => lhs; cbv) (by decide +kernel)) ?_)) <;> (first | refine TRg.pass ?_ | (((try simp only [zn]) <;> (try simp (disch := omega) only [zz hA, zb, zy, reduceCtorEq, Bool.false_eq_true, Int.reduceLT, Int.reduceLE, Int.reduceNeg]) <;> (try simp only [zw])) <;> omega)))
            | refine TX.raw ?_)
        | refine Fin3.of (by conv => lhs; cbv) (by repeat' (first | exact True.intro | exact rfl | refine And.intro ?_ ?_)) ?_ ?_
        | (refine AllO.pass ?_; first
            | exact AllO.nil
            | (refine AllO.cons (One.ev hA tabOk ?_) ?_ <;> (first | refine AllO.pass ?_ | ((conv => lhs; cbv); done)))
            | (refine AllO.cons (One.skipB ?_) ?_ <;> (first | refine AllO.pass ?_ | ((conv => lhs; cbv); done)))
            | ((with_reducible refine AllO.call (by conv => lhs; cbv) (shown_c hA) ?_ ?_) <;> (first | refine AllO.pass ?_ | exact rfl | (((try simp only [zn]) <;> (try simp (disch := omega) only [zz hA, zb, zy, reduceCtorEq, Bool.false_eq_true, Int.reduceLT, Int.reduceLE, Int.reduceNeg]) <;> (try simp only [zw])) <;> omega)))
            | ((with_reducible refine AllO.call (by conv => lhs; cbv) (hfew) ?_ ?_) <;> (first | refine AllO.pass ?_ | exact rfl | (((try simp only [zn]) <;> (try simp (disch := omega) only [zz hA, zb, zy, reduceCtorEq, Bool.false_eq_true, Int.reduceLT, Int.reduceLE, Int.reduceNeg]) <;> (try simp only [zw])) <;> omega)))
            | ((with_reducible refine AllO.call (by conv => lhs; cbv) (hright) ?_ ?_) <;> (first | refine AllO.pass ?_ | exact rfl | (((try simp only [zn]) <;> (try simp (disch := omega) only [zz hA, zb, zy, reduceCtorEq, Bool.false_eq_true, Int.reduceLT, Int.reduceLE, Int.reduceNeg]) <;> (try simp only [zw])) <;> omega)))
            | ((with_reducible refine AllO.call (by conv => lhs; cbv) (hput) ?_ ?_) <;> (first | refine AllO.pass ?_ | exact rfl | (((try simp only [zn]) <;> (try simp (disch := omega) only [zz hA, zb, zy, reduceCtorEq, Bool.false_eq_true, Int.reduceLT, Int.reduceLE, Int.reduceNeg]) <;> (try simp only [zw])) <;> omega)))
            | ((with_reducible refine AllO.call (by conv => lhs; cbv) (hput2) ?_ ?_) <;> (first | refine AllO.pass ?_ | exact rfl | (((try simp only [zn]) <;> (try simp (disch := omega) only [zz hA, zb, zy, reduceCtorEq, Bool.false_eq_true, Int.reduceLT, Int.reduceLE, Int.reduceNeg]) <;> (try simp only [zw])) <;> omega)))
            | ((with_reducible refine AllO.call (by conv => lhs; cbv) (hright2) ?_ ?_) <;> (first | refine AllO.pass ?_ | exact rfl | (((try simp only [zn]) <;> (try simp (disch := omega) only [zz hA, zb, zy, reduceCtorEq, Bool.false_eq_true, Int.reduceLT, Int.reduceLE, Int.reduceNeg]) <;> (try simp only [zw])) <;> omega)))
            | ((with_reducible refine AllO.call (by conv => lhs; cbv) (hfind2) ?_ ?_) <;> (first | refine AllO.pass ?_ | exact rfl | (((try simp only [zn]) <;> (try simp (disch := omega) only [zz hA, zb, zy, reduceCtorEq, Bool.false_eq_true, Int.reduceLT, Int.reduceLE, Int.reduceNeg]) <;> (try simp only [zw])) <;> omega)))
            | ((with_reducible refine AllO.call (by conv => lhs; cbv) (hfind) ?_ ?_) <;> (first | refine AllO.pass ?_ | exact rfl | (((try simp only [zn]) <;> (try simp (disch := omega) only [zz hA, zb, zy, reduceCtorEq, Bool.false_eq_true, Int.reduceLT, Int.reduceLE, Int.reduceNeg]) <;> (try simp only [zw])) <;> omega)))
            | ((with_reducible refine AllO.call (by conv => lhs; cbv) (hsame) ?_ ?_) <;> (first | refine AllO.pass ?_ | exact rfl | (((try simp only [zn]) <;> (try simp (disch := omega) only [zz hA, zb, zy, reduceCtorEq, Bool.false_eq_true, Int.reduceLT, Int.reduceLE, Int.reduceNeg]) <;> (try simp only [zw])) <;> omega)))
            | ((first | refine AllO.consX (One.elemM hA tabOk rfl rfl rfl rfl ?_ ?_) rfl rfl ?_ | refine AllO.consX (One.cut_hM hA tabOk rfl rfl rfl rfl ?_ ?_) rfl rfl ?_ | refine AllO.consX (One.cut_lM hA tabOk rfl rfl rfl rfl ?_ ?_) rfl rfl ?_ | refine AllO.consX (One.cut_lhM hA tabOk rfl rfl rfl rfl rfl ?_ ?_ ?_) rfl rfl ?_ | refine AllO.consX (One.quoM hA rfl rfl rfl ?_) rfl rfl ?_ | refine AllO.consX (One.remM hA rfl rfl rfl ?_) rfl rfl ?_ | refine AllO.consX (One.byteM hA tabOk rfl rfl rfl rfl rfl ?_ ?_) rfl rfl ?_ | refine AllO.consX (One.concatM hA rfl rfl rfl ?_) rfl rfl ?_ | refine AllO.consX (One.lenOwnM hA tabOk rfl rfl rfl rfl) rfl rfl ?_ | refine AllO.consX (One.elemOwnM hA tabOk rfl rfl rfl rfl rfl ?_ ?_) rfl rfl ?_ | refine AllO.consX (One.loadRatM hA tabOk rfl rfl rfl rfl rfl rfl ?_) rfl rfl ?_) <;> (first | refine AllO.pass ?_ | (((try simp only [zn]) <;> (try simp (disch := omega) only [zz hA, zb, zy, reduceCtorEq, Bool.false_eq_true, Int.reduceLT, Int.reduceLE, Int.reduceNeg]) <;> (try simp only [zw])) <;> omega))))
        | refine Thn.exit ?_
        | refine Blk.here ?_
        | refine Blk.other (by decide) ?_
        | refine ⟨.inl rfl, _, RetOk.ev tabOk (by conv => lhs; cbv), ?_⟩
        | fail)
      all_goals first | (exfalso; omega) | (exfalso; simp_all; done) | skip
      refine AWp.loopU (fun k : Nat => [(12, .ic (.lit (.int .i64 (hid A (cN k)))))]) (fun _ => [.var true 25 [.ic (.sl 1 false (hid A (List.map (encK A) K))), .ic (.sl 1 false (hid A (List.map encI (layM K))))], .var true 25 [.ic (.sl 1 false (hid A (List.map (encK A) (putK K key)))), .ic (.sl 1 false (hid A (List.map encI (layM (putK K key)))))], .var true 25 [.ic (.sl 1 false (hid A (List.map (encK A) (putK K key)))), .ic (.sl 1 false (hid A (List.map encI (layM (putK K key)))))]]) (fun k => K.length - k) (fun k => k ≤ K.length) 0 (by conv => lhs; cbv) (by omega) (by (repeat' (first | exact subE.nil | refine subE.cons rfl ?_ | refine subE.int rfl ?_ ?_ | refine subE.bool rfl ?_ ?_ | refine subE.str rfl ?_ ?_ | refine subE.sl rfl ?_ ?_)) <;> simp [hA, real, hid, cN]) rfl ?_
      intro k hk2
      have hfk : k < K.length → PureCalls Try.prog 20 [tabPV A (putK K key), intsP A (hid A (K.getD (hid A (cN k)).toNat default))] (IP (hid A (cN k))) := fun h => by
        have e : hid A (K.getD (hid A (cN k)).toNat default) = K.getD k default := by ((try simp only [zn]) <;> (try simp (disch := omega) only [zz hA, zb, zy, reduceCtorEq, Bool.false_eq_true, Int.reduceLT, Int.reduceLE, Int.reduceNeg]) <;> (try simp only [zw]))
        have hmk : K.getD k default ∈ K := by
          rw [List.getD_eq_getElem?_getD, List.getElem?_eq_getElem h]
          exact List.getElem_mem _
        rw [e]
        have := find_c hA (putK K key) (layM (putK K key)) (K.getD k default) (by omega) (layM_vals (putK K key)) (by omega) (by have := hb3 _ hmk; omega)
        rw [find_at (putK K key) hn', at_put_old K key _ hmk, (nodup_at K).1 hn k h] at this
        exact this
      try first | refine AOLg.of [] ?_ | refine QSg.of [] ?_
      repeat' (first
        | (refine AWp.pass ?_; first
            | refine AWp.seq ?_
            | refine AWp.block ?_
            | refine AWp.skip ?_
            | refine AWp.regG [] (by conv => lhs; cbv) ?_
            | refine AWp.cond_t rfl ?_
            | refine AWp.cond_f rfl ?_
            | (refine AWp.cond rfl ?_ ?_ <;> intro hc <;> (try rw [hc]) <;> ((try simp only [zn] at hc) <;> (try simp (disch := omega) only [zz hA, zb, zy, reduceCtorEq, Bool.false_eq_true, Int.reduceLT, Int.reduceLE, Int.reduceNeg] at hc) <;> (try simp only [zw] at hc)) <;> (try (exfalso; omega)))
            | refine AWp.exit ?_
            | refine AWp.ret ⟨.inr rfl, _, RetOk.ev tabOk (by conv => lhs; cbv), ?_⟩
            | refine AWp.drawVG [] rfl (by decide +kernel) (by conv => lhs; cbv) ?_)
        | (refine AOLg.pass ?_; refine AOLg.nx hA tabOk (by conv => lhs; cbv) ?_; first
            | refine NX.done ?_
            | refine NX.gt ?_
            | refine NX.gf ?_
            | (refine NX.gs ?_ ?_ <;> intro hc <;> rw [hc] <;> ((try simp only [zn] at hc) <;> (try simp (disch := omega) only [zz hA, zb, zy, reduceCtorEq, Bool.false_eq_true, Int.reduceLT, Int.reduceLE, Int.reduceNeg] at hc) <;> (try simp only [zw] at hc)) <;> (try (exfalso; omega)))
            | (refine NX.kC ?_; first | (with_reducible refine NX.call (hfk (by omega)) ?_) | (with_reducible refine NX.call (hsame) ?_) | (with_reducible refine NX.call (hsame2) ?_) | ((first | refine NX.call (hfk (by omega)) ?_ | refine NX.call (hsame) ?_ | refine NX.call (hsame2) ?_)) | fail)
            | (refine NX.kO ?_; (first | refine NX.callO (hfk (by omega)) (by simp [allEq]) rfl ?_ | refine NX.callO (hsame) (by simp [allEq]) rfl ?_ | refine NX.callO (hsame2) (by simp [allEq]) rfl ?_))
            | ((first | (refine NX.k 1 ?_; first | refine NX.one (One.elemM hA tabOk rfl rfl rfl rfl ?_ ?_) ?_ | refine NX.one (One.elemOwnM hA tabOk rfl rfl rfl rfl rfl ?_ ?_) ?_) | (refine NX.k 2 ?_; first | refine NX.one (One.clipM tabOk rfl rfl rfl rfl rfl ?_ ?_) ?_ | refine NX.one (One.cut_hM hA tabOk rfl rfl rfl rfl ?_ ?_) ?_ | refine NX.one (One.cut_lM hA tabOk rfl rfl rfl rfl ?_ ?_) ?_ | refine NX.one (One.cut_lhM hA tabOk rfl rfl rfl rfl rfl ?_ ?_ ?_) ?_) | (refine NX.k 3 ?_; first | refine NX.one (One.quoM hA rfl rfl rfl ?_) ?_) | (refine NX.k 4 ?_; first | refine NX.one (One.remM hA rfl rfl rfl ?_) ?_) | (refine NX.k 5 ?_; first | refine NX.one (One.shrM hA rfl rfl rfl ?_) ?_) | (refine NX.k 6 ?_; first | refine NX.one (One.bitsM hA rfl rfl rfl rfl) ?_) | (refine NX.k 7 ?_; first | refine NX.one (One.concatM hA rfl rfl rfl ?_) ?_) | (refine NX.k 8 ?_; first | refine NX.one (One.eqBoolM hA tabOk rfl rfl rfl rfl rfl) ?_) | (refine NX.k 9 ?_; first | refine NX.one (One.neBoolM hA tabOk rfl rfl rfl rfl rfl) ?_) | (refine NX.k 10 ?_; first | refine NX.one (One.lenOwnM hA tabOk rfl rfl rfl rfl) ?_) | (refine NX.k 11 ?_; first | refine NX.one (One.appendM hA tabOk _ rfl rfl rfl rfl rfl rfl ?_ ?_) ?_ | refine NX.one (One.appendMM hA tabOk rfl rfl rfl rfl rfl ?_ ?_) ?_ | refine NX.one (One.appendOwnM hA tabOk _ rfl rfl rfl rfl rfl rfl rfl ?_ ?_) ?_ | refine NX.one (One.appendOwnMM hA tabOk rfl rfl rfl rfl rfl rfl ?_ ?_) ?_ | refine NX.one (One.appendOwn0 hA tabOk rfl rfl rfl rfl rfl rfl ?_ ?_) ?_) | (refine NX.k 13 ?_; first | refine NX.one (One.byteM hA tabOk rfl rfl rfl rfl rfl ?_ ?_) ?_) | (refine NX.k 14 ?_; first | refine NX.one (One.loadRatM hA tabOk rfl rfl rfl rfl rfl rfl ?_) ?_) | (refine NX.k 15 ?_; first | refine NX.one (One.storeRatM hA tabOk _ rfl rfl rfl rfl rfl rfl rfl rfl (fun _ => rfl) ?_) ?_) | (refine NX.k 16 ?_; first | refine NX.one (One.makeM hA tabOk encI 0 rfl rfl rfl rfl rfl rfl rfl ?_ ?_ ?_) ?_) | (refine NX.k 17 ?_; first | refine NX.one (One.build0 tabOk rfl rfl) ?_) | (refine NX.k 18 ?_; first | refine NX.one (One.fieldRat tabOk rfl rfl rfl rfl (by decide) rfl rfl) ?_) | (refine NX.k 23 ?_; first | refine NX.one (One.lookupI (q := .i64) hA rfl rfl rfl (by conv => lhs; cbv) (by decide +kernel)) ?_ | refine NX.one (One.lookupI (q := .u8) hA rfl rfl rfl (by conv => lhs; cbv) (by decide +kernel)) ?_ | refine NX.one (One.lookupI1 (q := .i64) hA rfl rfl rfl (by conv => lhs; cbv) (by decide +kernel)) ?_ | refine NX.one (One.lookupI1 (q := .u8) hA rfl rfl rfl (by conv => lhs; cbv) (by decide +kernel)) ?_) | (refine NX.k 26 ?_; first | refine NX.mapLit .i64 (by conv => lhs; cbv) (by decide +kernel) ?_ | refine NX.mapLit .u8 (by conv => lhs; cbv) (by decide +kernel) ?_)) <;> (first | refine AOLg.pass ?_ | (((try simp only [zn]) <;> (try simp (disch := omega) only [zz hA, zb, zy, reduceCtorEq, Bool.false_eq_true, Int.reduceLT, Int.reduceLE, Int.reduceNeg]) <;> (try simp only [zw])) <;> omega)))
            | refine NX.raw ?_)
        | (refine TRg.pass ?_; refine TRg.nx hA tabOk (by conv => lhs; cbv) ?_; first
            | refine TX.done ?_
            | refine TX.gt ?_
            | refine TX.gf ?_
            | (refine TX.gs ?_ ?_ <;> intro hc <;> rw [hc] <;> ((try simp only [zn] at hc) <;> (try simp (disch := omega) only [zz hA, zb, zy, reduceCtorEq, Bool.false_eq_true, Int.reduceLT, Int.reduceLE, Int.reduceNeg] at hc) <;> (try simp only [zw] at hc)) <;> (try (exfalso; omega)))
            | (refine TX.kC ?_; first | (with_reducible refine TX.call (hfk (by omega)) ?_) | (with_reducible refine TX.call (hsame) ?_) | (with_reducible refine TX.call (hsame2) ?_) | ((first | refine TX.call (hfk (by omega)) ?_ | refine TX.call (hsame) ?_ | refine TX.call (hsame2) ?_)) | fail)
            | (refine TX.kO ?_; (first | refine TX.callO (hfk (by omega)) (by simp [allEq]) rfl ?_ | refine TX.callO (hsame) (by simp [allEq]) rfl ?_ | refine TX.callO (hsame2) (by simp [allEq]) rfl ?_))
            | ((first | (refine TX.k 1 ?_; first | refine TX.one (One.elemM hA tabOk rfl rfl rfl rfl ?_ ?_) ?_ | refine TX.one (One.elemOwnM hA tabOk rfl rfl rfl rfl rfl ?_ ?_) ?_) | (refine TX.k 2 ?_; first | refine TX.one (One.clipM tabOk rfl rfl rfl rfl rfl ?_ ?_) ?_ | refine TX.one (One.cut_hM hA tabOk rfl rfl rfl rfl ?_ ?_) ?_ | refine TX.one (One.cut_lM hA tabOk rfl rfl rfl rfl ?_ ?_) ?_ | refine TX.one (One.cut_lhM hA tabOk rfl rfl rfl rfl rfl ?_ ?_ ?_) ?_) | (refine TX.k 3 ?_; first | refine TX.one (One.quoM hA rfl rfl rfl ?_) ?_) | (refine TX.k 4 ?_; first | refine TX.one (One.remM hA rfl rfl rfl ?_) ?_) | (refine TX.k 5 ?_; first | refine TX.one (One.shrM hA rfl rfl rfl ?_) ?_) | (refine TX.k 6 ?_; first | refine TX.one (One.bitsM hA rfl rfl rfl rfl) ?_) | (refine TX.k 7 ?_; first | refine TX.one (One.concatM hA rfl rfl rfl ?_) ?_) | (refine TX.k 8 ?_; first | refine TX.one (One.eqBoolM hA tabOk rfl rfl rfl rfl rfl) ?_) | (refine TX.k 9 ?_; first | refine TX.one (One.neBoolM hA tabOk rfl rfl rfl rfl rfl) ?_) | (refine TX.k 10 ?_; first | refine TX.one (One.lenOwnM hA tabOk rfl rfl rfl rfl) ?_) | (refine TX.k 11 ?_; first | refine TX.one (One.appendM hA tabOk _ rfl rfl rfl rfl rfl rfl ?_ ?_) ?_ | refine TX.one (One.appendMM hA tabOk rfl rfl rfl rfl rfl ?_ ?_) ?_ | refine TX.one (One.appendOwnM hA tabOk _ rfl rfl rfl rfl rfl rfl rfl ?_ ?_) ?_ | refine TX.one (One.appendOwnMM hA tabOk rfl rfl rfl rfl rfl rfl ?_ ?_) ?_ | refine TX.one (One.appendOwn0 hA tabOk rfl rfl rfl rfl rfl rfl ?_ ?_) ?_) | (refine TX.k 13 ?_; first | refine TX.one (One.byteM hA tabOk rfl rfl rfl rfl rfl ?_ ?_) ?_) | (refine TX.k 14 ?_; first | refine TX.one (One.loadRatM hA tabOk rfl rfl rfl rfl rfl rfl ?_) ?_) | (refine TX.k 15 ?_; first | refine TX.one (One.storeRatM hA tabOk _ rfl rfl rfl rfl rfl rfl rfl rfl (fun _ => rfl) ?_) ?_) | (refine TX.k 16 ?_; first | refine TX.one (One.makeM hA tabOk encI 0 rfl rfl rfl rfl rfl rfl rfl ?_ ?_ ?_) ?_) | (refine TX.k 17 ?_; first | refine TX.one (One.build0 tabOk rfl rfl) ?_) | (refine TX.k 18 ?_; first | refine TX.one (One.fieldRat tabOk rfl rfl rfl rfl (by decide) rfl rfl) ?_) | (refine TX.k 23 ?_; first | refine TX.one (One.lookupI (q := .i64) hA rfl rfl rfl (by conv => lhs; cbv) (by decide +kernel)) ?_ | refine TX.one (One.lookupI (q := .u8) hA rfl rfl rfl (by conv => lhs; cbv) (by decide +kernel)) ?_ | refine TX.one (One.lookupI1 (q := .i64) hA rfl rfl rfl (by conv => lhs; cbv) (by decide +kernel)) ?_ | refine TX.one (One.lookupI1 (q := .u8) hA rfl rfl rfl (by conv => lhs; cbv) (by decide +kernel)) ?_)) <;> (first | refine TRg.pass ?_ | (((try simp only [zn]) <;> (try simp (disch := omega) only [zz hA, zb, zy, reduceCtorEq, Bool.false_eq_true, Int.reduceLT, Int.reduceLE, Int.reduceNeg]) <;> (try simp only [zw])) <;> omega)))
            | refine TX.raw ?_)
        | refine Fin3.of (by conv => lhs; cbv) (by repeat' (first | exact True.intro | exact rfl | refine And.intro ?_ ?_)) ?_ ?_
        | (refine AllO.pass ?_; first
            | exact AllO.nil
            | (refine AllO.cons (One.ev hA tabOk ?_) ?_ <;> (first | refine AllO.pass ?_ | ((conv => lhs; cbv); done)))
            | (refine AllO.cons (One.skipB ?_) ?_ <;> (first | refine AllO.pass ?_ | ((conv => lhs; cbv); done)))
            | ((with_reducible refine AllO.call (by conv => lhs; cbv) (hfk (by omega)) ?_ ?_) <;> (first | refine AllO.pass ?_ | exact rfl | (((try simp only [zn]) <;> (try simp (disch := omega) only [zz hA, zb, zy, reduceCtorEq, Bool.false_eq_true, Int.reduceLT, Int.reduceLE, Int.reduceNeg]) <;> (try simp only [zw])) <;> omega)))
            | ((with_reducible refine AllO.call (by conv => lhs; cbv) (hsame) ?_ ?_) <;> (first | refine AllO.pass ?_ | exact rfl | (((try simp only [zn]) <;> (try simp (disch := omega) only [zz hA, zb, zy, reduceCtorEq, Bool.false_eq_true, Int.reduceLT, Int.reduceLE, Int.reduceNeg]) <;> (try simp only [zw])) <;> omega)))
            | ((with_reducible refine AllO.call (by conv => lhs; cbv) (hsame2) ?_ ?_) <;> (first | refine AllO.pass ?_ | exact rfl | (((try simp only [zn]) <;> (try simp (disch := omega) only [zz hA, zb, zy, reduceCtorEq, Bool.false_eq_true, Int.reduceLT, Int.reduceLE, Int.reduceNeg]) <;> (try simp only [zw])) <;> omega)))
            | ((first | refine AllO.consX (One.elemM hA tabOk rfl rfl rfl rfl ?_ ?_) rfl rfl ?_ | refine AllO.consX (One.cut_hM hA tabOk rfl rfl rfl rfl ?_ ?_) rfl rfl ?_ | refine AllO.consX (One.cut_lM hA tabOk rfl rfl rfl rfl ?_ ?_) rfl rfl ?_ | refine AllO.consX (One.cut_lhM hA tabOk rfl rfl rfl rfl rfl ?_ ?_ ?_) rfl rfl ?_ | refine AllO.consX (One.quoM hA rfl rfl rfl ?_) rfl rfl ?_ | refine AllO.consX (One.remM hA rfl rfl rfl ?_) rfl rfl ?_ | refine AllO.consX (One.byteM hA tabOk rfl rfl rfl rfl rfl ?_ ?_) rfl rfl ?_ | refine AllO.consX (One.concatM hA rfl rfl rfl ?_) rfl rfl ?_ | refine AllO.consX (One.lenOwnM hA tabOk rfl rfl rfl rfl) rfl rfl ?_ | refine AllO.consX (One.elemOwnM hA tabOk rfl rfl rfl rfl rfl ?_ ?_) rfl rfl ?_ | refine AllO.consX (One.loadRatM hA tabOk rfl rfl rfl rfl rfl rfl ?_) rfl rfl ?_) <;> (first | refine AllO.pass ?_ | (((try simp only [zn]) <;> (try simp (disch := omega) only [zz hA, zb, zy, reduceCtorEq, Bool.false_eq_true, Int.reduceLT, Int.reduceLE, Int.reduceNeg]) <;> (try simp only [zw])) <;> omega))))
        | refine Thn.exit ?_
        | refine Blk.here ?_
        | refine Blk.other (by decide) ?_
        | refine ⟨.inl rfl, _, RetOk.ev tabOk (by conv => lhs; cbv), ?_⟩
        | fail)
      all_goals first
        | (exfalso; omega)
        | skip
      · refine ⟨k + 1, ?_, ?_, rfl, rfl, ?_, (by repeat' (first | exact subE.nil | refine subE.cons rfl ?_))⟩ <;> (try omega)
        repeat' (first | exact subE.nil | refine subE.cons rfl ?_ | refine subE.int rfl ?_ ?_ | refine subE.bool rfl ?_ ?_ | refine subE.str rfl ?_ ?_ | refine subE.sl rfl ?_ ?_)
        (((try simp only [zn]) <;> (try simp (disch := omega) only [zz hA, zb, zy, reduceCtorEq, Bool.false_eq_true, Int.reduceLT, Int.reduceLE, Int.reduceNeg]) <;> (try simp only [zw])) <;> omega)
      · refine rPV_then (by conv => lhs; cbv) ?_
        simp [hA, real, hid]
  · have hfew := refFew_c hA K S h1 h2 h3
    refine PureCalls.of Try.func4 rfl (by kernel_rfl) rfl ?_
    try first | refine AOLg.of [] ?_ | refine QSg.of [] ?_
    repeat' (first
      | (refine AWp.pass ?_; first
          | refine AWp.seq ?_
          | refine AWp.block ?_
          | refine AWp.skip ?_
          | refine AWp.regG [] (by conv => lhs; cbv) ?_
          | refine AWp.cond_t rfl ?_
          | refine AWp.cond_f rfl ?_
          | (refine AWp.cond rfl ?_ ?_ <;> intro hc <;> (try rw [hc]) <;> ((try simp only [zn] at hc) <;> (try simp (disch := omega) only [zz hA, zb, zy, reduceCtorEq, Bool.false_eq_true, Int.reduceLT, Int.reduceLE, Int.reduceNeg] at hc) <;> (try simp only [zw] at hc)) <;> (try (exfalso; omega)))
          | refine AWp.exit ?_
          | refine AWp.ret ⟨.inr rfl, _, RetOk.ev tabOk (by conv => lhs; cbv), ?_⟩
          | refine AWp.drawVG [] rfl (by decide +kernel) (by conv => lhs; cbv) ?_)
      | (refine AOLg.pass ?_; refine AOLg.nx hA tabOk (by conv => lhs; cbv) ?_; first
          | refine NX.done ?_
          | refine NX.gt ?_
          | refine NX.gf ?_
          | (refine NX.gs ?_ ?_ <;> intro hc <;> rw [hc] <;> ((try simp only [zn] at hc) <;> (try simp (disch := omega) only [zz hA, zb, zy, reduceCtorEq, Bool.false_eq_true, Int.reduceLT, Int.reduceLE, Int.reduceNeg] at hc) <;> (try simp only [zw] at hc)) <;> (try (exfalso; omega)))
          | (refine NX.kC ?_; first | (with_reducible refine NX.call (shown_c hA) ?_) | (with_reducible refine NX.call (hfew) ?_) | ((first | refine NX.call (shown_c hA) ?_ | refine NX.call (hfew) ?_)) | fail)
          | (refine NX.kO ?_; (first | refine NX.callO (shown_c hA) (by simp [allEq]) rfl ?_ | refine NX.callO (hfew) (by simp [allEq]) rfl ?_))
          | ((first | (refine NX.k 1 ?_; first | refine NX.one (One.elemM hA tabOk rfl rfl rfl rfl ?_ ?_) ?_ | refine NX.one (One.elemOwnM hA tabOk rfl rfl rfl rfl rfl ?_ ?_) ?_) | (refine NX.k 2 ?_; first | refine NX.one (One.clipM tabOk rfl rfl rfl rfl rfl ?_ ?_) ?_ | refine NX.one (One.cut_hM hA tabOk rfl rfl rfl rfl ?_ ?_) ?_ | refine NX.one (One.cut_lM hA tabOk rfl rfl rfl rfl ?_ ?_) ?_ | refine NX.one (One.cut_lhM hA tabOk rfl rfl rfl rfl rfl ?_ ?_ ?_) ?_) | (refine NX.k 3 ?_; first | refine NX.one (One.quoM hA rfl rfl rfl ?_) ?_) | (refine NX.k 4 ?_; first | refine NX.one (One.remM hA rfl rfl rfl ?_) ?_) | (refine NX.k 5 ?_; first | refine NX.one (One.shrM hA rfl rfl rfl ?_) ?_) | (refine NX.k 6 ?_; first | refine NX.one (One.bitsM hA rfl rfl rfl rfl) ?_) | (refine NX.k 7 ?_; first | refine NX.one (One.concatM hA rfl rfl rfl ?_) ?_) | (refine NX.k 8 ?_; first | refine NX.one (One.eqBoolM hA tabOk rfl rfl rfl rfl rfl) ?_) | (refine NX.k 9 ?_; first | refine NX.one (One.neBoolM hA tabOk rfl rfl rfl rfl rfl) ?_) | (refine NX.k 10 ?_; first | refine NX.one (One.lenOwnM hA tabOk rfl rfl rfl rfl) ?_) | (refine NX.k 11 ?_; first | refine NX.one (One.appendM hA tabOk _ rfl rfl rfl rfl rfl rfl ?_ ?_) ?_ | refine NX.one (One.appendMM hA tabOk rfl rfl rfl rfl rfl ?_ ?_) ?_ | refine NX.one (One.appendOwnM hA tabOk _ rfl rfl rfl rfl rfl rfl rfl ?_ ?_) ?_ | refine NX.one (One.appendOwnMM hA tabOk rfl rfl rfl rfl rfl rfl ?_ ?_) ?_ | refine NX.one (One.appendOwn0 hA tabOk rfl rfl rfl rfl rfl rfl ?_ ?_) ?_) | (refine NX.k 13 ?_; first | refine NX.one (One.byteM hA tabOk rfl rfl rfl rfl rfl ?_ ?_) ?_) | (refine NX.k 14 ?_; first | refine NX.one (One.loadRatM hA tabOk rfl rfl rfl rfl rfl rfl ?_) ?_) | (refine NX.k 15 ?_; first | refine NX.one (One.storeRatM hA tabOk _ rfl rfl rfl rfl rfl rfl rfl rfl (fun _ => rfl) ?_) ?_) | (refine NX.k 16 ?_; first | refine NX.one (One.makeM hA tabOk encI 0 rfl rfl rfl rfl rfl rfl rfl ?_ ?_ ?_) ?_) | (refine NX.k 17 ?_; first | refine NX.one (One.build0 tabOk rfl rfl) ?_) | (refine NX.k 18 ?_; first | refine NX.one (One.fieldRat tabOk rfl rfl rfl rfl (by decide) rfl rfl) ?_) | (refine NX.k 23 ?_; first | refine NX.one (One.lookupI (q := .i64) hA rfl rfl rfl (by conv => lhs; cbv) (by decide +kernel)) ?_ | refine NX.one (One.lookupI (q := .u8) hA rfl rfl rfl (by conv => lhs; cbv) (by decide +kernel)) ?_ | refine NX.one (One.lookupI1 (q := .i64) hA rfl rfl rfl (by conv => lhs; cbv) (by decide +kernel)) ?_ | refine NX.one (One.lookupI1 (q := .u8) hA rfl rfl rfl (by conv => lhs; cbv) (by decide +kernel)) ?_) | (refine NX.k 26 ?_; first | refine NX.mapLit .i64 (by conv => lhs; cbv) (by decide +kernel) ?_ | refine NX.mapLit .u8 (by conv => lhs; cbv) (by decide +kernel) ?_)) <;> (first | refine AOLg.pass ?_ | (((try simp only [zn]) <;> (try simp (disch := omega) only [zz hA, zb, zy, reduceCtorEq, Bool.false_eq_true, Int.reduceLT, Int.reduceLE, Int.reduceNeg]) <;> (try simp only [zw])) <;> omega)))
          | refine NX.raw ?_)
      | (refine TRg.pass ?_; refine TRg.nx hA tabOk (by conv => lhs; cbv) ?_; first
          | refine TX.done ?_
          | refine TX.gt ?_
          | refine TX.gf ?_
          | (refine TX.gs ?_ ?_ <;> intro hc <;> rw [hc] <;> ((try simp only [zn] at hc) <;> (try simp (disch := omega) only [zz hA, zb, zy, reduceCtorEq, Bool.false_eq_true, Int.reduceLT, Int.reduceLE, Int.reduceNeg] at hc) <;> (try simp only [zw] at hc)) <;> (try (exfalso; omega)))
          | (refine TX.kC ?_; first | (with_reducible refine TX.call (shown_c hA) ?_) | (with_reducible refine TX.call (hfew) ?_) | ((first | refine TX.call (shown_c hA) ?_ | refine TX.call (hfew) ?_)) | fail)
          | (refine TX.kO ?_; (first | refine TX.callO (shown_c hA) (by simp [allEq]) rfl ?_ | refine TX.callO (hfew) (by simp [allEq]) rfl ?_))
          | ((first | (refine TX.k 1 ?_; first | refine TX.one (One.elemM hA tabOk rfl rfl rfl rfl ?_ ?_) ?_ | refine TX.one (One.elemOwnM hA tabOk rfl rfl rfl rfl rfl ?_ ?_) ?_) | (refine TX.k 2 ?_; first | refine TX.one (One.clipM tabOk rfl rfl rfl rfl rfl ?_ ?_) ?_ | refine TX.one (One.cut_hM hA tabOk rfl rfl rfl rfl ?_ ?_) ?_ | refine TX.one (One.cut_lM hA tabOk rfl rfl rfl rfl ?_ ?_) ?_ | refine TX.one (One.cut_lhM hA tabOk rfl rfl rfl rfl rfl ?_ ?_ ?_) ?_) | (refine TX.k 3 ?_; first | refine TX.one (One.quoM hA rfl rfl rfl ?_) ?_) | (refine TX.k 4 ?_; first | refine TX.one (One.remM hA rfl rfl rfl ?_) ?_) | (refine TX.k 5 ?_; first | refine TX.one (One.shrM hA rfl rfl rfl ?_) ?_) | (refine TX.k 6 ?_; first | refine TX.one (One.bitsM hA rfl rfl rfl rfl) ?_) | (refine TX.k 7 ?_; first | refine TX.one (One.concatM hA rfl rfl rfl ?_) ?_) | (refine TX.k 8 ?_; first | refine TX.one (One.eqBoolM hA tabOk rfl rfl rfl rfl rfl) ?_) | (refine TX.k 9 ?_; first | refine TX.one (One.neBoolM hA tabOk rfl rfl rfl rfl rfl) ?_) | (refine TX.k 10 ?_; first | refine TX.one (One.lenOwnM hA tabOk rfl rfl rfl rfl) ?_) | (refine TX.k 11 ?_; first | refine TX.one (One.appendM hA tabOk _ rfl rfl rfl rfl rfl rfl ?_ ?_) ?_ | refine TX.one (One.appendMM hA tabOk rfl rfl rfl rfl rfl ?_ ?_) ?_ | refine TX.one (One.appendOwnM hA tabOk _ rfl rfl rfl rfl rfl rfl rfl ?_ ?_) ?_ | refine TX.one (One.appendOwnMM hA tabOk rfl rfl rfl rfl rfl rfl ?_ ?_) ?_ | refine TX.one (One.appendOwn0 hA tabOk rfl rfl rfl rfl rfl rfl ?_ ?_) ?_) | (refine TX.k 13 ?_; first | refine TX.one (One.byteM hA tabOk rfl rfl rfl rfl rfl ?_ ?_) ?_) | (refine TX.k 14 ?_; first | refine TX.one (One.loadRatM hA tabOk rfl rfl rfl rfl rfl rfl ?_) ?_) | (refine TX.k 15 ?_; first | refine TX.one (One.storeRatM hA tabOk _ rfl rfl rfl rfl rfl rfl rfl rfl (fun _ => rfl) ?_) ?_) | (refine TX.k 16 ?_; first | refine TX.one (One.makeM hA tabOk encI 0 rfl rfl rfl rfl rfl rfl rfl ?_ ?_ ?_) ?_) | (refine TX.k 17 ?_; first | refine TX.one (One.build0 tabOk rfl rfl) ?_) | (refine TX.k 18 ?_; first | refine TX.one (One.fieldRat tabOk rfl rfl rfl rfl (by decide) rfl rfl) ?_) | (refine TX.k 23 ?_; first | refine TX.one (One.lookupI (q := .i64) hA rfl rfl rfl (by conv => lhs; cbv) (by decide +kernel)) ?_ | refine TX.one (One.lookupI (q := .u8) hA rfl rfl rfl (by conv => lhs; cbv) (by decide +kernel)) ?_ | refine TX.one (One.lookupI1 (q := .i64) hA rfl rfl rfl (by conv => lhs; cbv) (by decide +kernel)) ?_ | refine TX.one (One.lookupI1 (q := .u8) hA rfl rfl rfl (by conv => lhs; cbv) (by decide +kernel)) ?_)) <;> (first | refine TRg.pass ?_ | (((try simp only [zn]) <;> (try simp (disch := omega) only [zz hA, zb, zy, reduceCtorEq, Bool.false_eq_true, Int.reduceLT, Int.reduceLE, Int.reduceNeg]) <;> (try simp only [zw])) <;> omega)))
          | refine TX.raw ?_)
      | refine Fin3.of (by conv => lhs; cbv) (by repeat' (first | exact True.intro | exact rfl | refine And.intro ?_ ?_)) ?_ ?_
      | (refine AllO.pass ?_; first
          | exact AllO.nil
          | (refine AllO.cons (One.ev hA tabOk ?_) ?_ <;> (first | refine AllO.pass ?_ | ((conv => lhs; cbv); done)))
          | (refine AllO.cons (One.skipB ?_) ?_ <;> (first | refine AllO.pass ?_ | ((conv => lhs; cbv); done)))
          | ((with_reducible refine AllO.call (by conv => lhs; cbv) (shown_c hA) ?_ ?_) <;> (first | refine AllO.pass ?_ | exact rfl | (((try simp only [zn]) <;> (try simp (disch := omega) only [zz hA, zb, zy, reduceCtorEq, Bool.false_eq_true, Int.reduceLT, Int.reduceLE, Int.reduceNeg]) <;> (try simp only [zw])) <;> omega)))
          | ((with_reducible refine AllO.call (by conv => lhs; cbv) (hfew) ?_ ?_) <;> (first | refine AllO.pass ?_ | exact rfl | (((try simp only [zn]) <;> (try simp (disch := omega) only [zz hA, zb, zy, reduceCtorEq, Bool.false_eq_true, Int.reduceLT, Int.reduceLE, Int.reduceNeg]) <;> (try simp only [zw])) <;> omega)))
          | ((first | refine AllO.consX (One.elemM hA tabOk rfl rfl rfl rfl ?_ ?_) rfl rfl ?_ | refine AllO.consX (One.cut_hM hA tabOk rfl rfl rfl rfl ?_ ?_) rfl rfl ?_ | refine AllO.consX (One.cut_lM hA tabOk rfl rfl rfl rfl ?_ ?_) rfl rfl ?_ | refine AllO.consX (One.cut_lhM hA tabOk rfl rfl rfl rfl rfl ?_ ?_ ?_) rfl rfl ?_ | refine AllO.consX (One.quoM hA rfl rfl rfl ?_) rfl rfl ?_ | refine AllO.consX (One.remM hA rfl rfl rfl ?_) rfl rfl ?_ | refine AllO.consX (One.byteM hA tabOk rfl rfl rfl rfl rfl ?_ ?_) rfl rfl ?_ | refine AllO.consX (One.concatM hA rfl rfl rfl ?_) rfl rfl ?_ | refine AllO.consX (One.lenOwnM hA tabOk rfl rfl rfl rfl) rfl rfl ?_ | refine AllO.consX (One.elemOwnM hA tabOk rfl rfl rfl rfl rfl ?_ ?_) rfl rfl ?_ | refine AllO.consX (One.loadRatM hA tabOk rfl rfl rfl rfl rfl rfl ?_) rfl rfl ?_) <;> (first | refine AllO.pass ?_ | (((try simp only [zn]) <;> (try simp (disch := omega) only [zz hA, zb, zy, reduceCtorEq, Bool.false_eq_true, Int.reduceLT, Int.reduceLE, Int.reduceNeg]) <;> (try simp only [zw])) <;> omega))))
      | refine Thn.exit ?_
      | refine Blk.here ?_
      | refine Blk.other (by decide) ?_
      | refine ⟨.inl rfl, _, RetOk.ev tabOk (by conv => lhs; cbv), ?_⟩
      | fail)
    · refine rPV_then (by conv => lhs; cbv) ?_
      rfl
    · have hK : K.length ≤ 2000 := (few_bounds hc).2.1
      have hright := refRight_c hA K S (by omega)
      try first | refine AOLg.of [] ?_ | refine QSg.of [] ?_
      repeat' (first
        | (refine AWp.pass ?_; first
            | refine AWp.seq ?_
            | refine AWp.block ?_
            | refine AWp.skip ?_
            | refine AWp.regG [] (by conv => lhs; cbv) ?_
            | refine AWp.cond_t rfl ?_
            | refine AWp.cond_f rfl ?_
            | (refine AWp.cond rfl ?_ ?_ <;> intro hc <;> (try rw [hc]) <;> ((try simp only [zn] at hc) <;> (try simp (disch := omega) only [zz hA, zb, zy, reduceCtorEq, Bool.false_eq_true, Int.reduceLT, Int.reduceLE, Int.reduceNeg] at hc) <;> (try simp only [zw] at hc)) <;> (try (exfalso; omega)))
            | refine AWp.exit ?_
            | refine AWp.ret ⟨.inr rfl, _, RetOk.ev tabOk (by conv => lhs; cbv), ?_⟩
            | refine AWp.drawVG [] rfl (by decide +kernel) (by conv => lhs; cbv) ?_)
        | (refine AOLg.pass ?_; refine AOLg.nx hA tabOk (by conv => lhs; cbv) ?_; first
            | refine NX.done ?_
            | refine NX.gt ?_
            | refine NX.gf ?_
            | (refine NX.gs ?_ ?_ <;> intro hc <;> rw [hc] <;> ((try simp only [zn] at hc) <;> (try simp (disch := omega) only [zz hA, zb, zy, reduceCtorEq, Bool.false_eq_true, Int.reduceLT, Int.reduceLE, Int.reduceNeg] at hc) <;> (try simp only [zw] at hc)) <;> (try (exfalso; omega)))
            | (refine NX.kC ?_; first | (with_reducible refine NX.call (hright) ?_) | ((first | refine NX.call (hright) ?_)) | fail)
            | (refine NX.kO ?_; (first | refine NX.callO (hright) (by simp [allEq]) rfl ?_))
            | ((first | (refine NX.k 1 ?_; first | refine NX.one (One.elemM hA tabOk rfl rfl rfl rfl ?_ ?_) ?_ | refine NX.one (One.elemOwnM hA tabOk rfl rfl rfl rfl rfl ?_ ?_) ?_) | (refine NX.k 2 ?_; first | refine NX.one (One.clipM tabOk rfl rfl rfl rfl rfl ?_ ?_) ?_ | refine NX.one (One.cut_hM hA tabOk rfl rfl rfl rfl ?_ ?_) ?_ | refine NX.one (One.cut_lM hA tabOk rfl rfl rfl rfl ?_ ?_) ?_ | refine NX.one (One.cut_lhM hA tabOk rfl rfl rfl rfl rfl ?_ ?_ ?_) ?_) | (refine NX.k 3 ?_; first | refine NX.one (One.quoM hA rfl rfl rfl ?_) ?_) | (refine NX.k 4 ?_; first | refine NX.one (One.remM hA rfl rfl rfl ?_) ?_) | (refine NX.k 5 ?_; first | refine NX.one (One.shrM hA rfl rfl rfl ?_) ?_) | (refine NX.k 6 ?_; first | refine NX.one (One.bitsM hA rfl rfl rfl rfl) ?_) | (refine NX.k 7 ?_; first | refine NX.one (One.concatM hA rfl rfl rfl ?_) ?_) | (refine NX.k 8 ?_; first | refine NX.one (One.eqBoolM hA tabOk rfl rfl rfl rfl rfl) ?_) | (refine NX.k 9 ?_; first | refine NX.one (One.neBoolM hA tabOk rfl rfl rfl rfl rfl) ?_) | (refine NX.k 10 ?_; first | refine NX.one (One.lenOwnM hA tabOk rfl rfl rfl rfl) ?_) | (refine NX.k 11 ?_; first | refine NX.one (One.appendM hA tabOk _ rfl rfl rfl rfl rfl rfl ?_ ?_) ?_ | refine NX.one (One.appendMM hA tabOk rfl rfl rfl rfl rfl ?_ ?_) ?_ | refine NX.one (One.appendOwnM hA tabOk _ rfl rfl rfl rfl rfl rfl rfl ?_ ?_) ?_ | refine NX.one (One.appendOwnMM hA tabOk rfl rfl rfl rfl rfl rfl ?_ ?_) ?_ | refine NX.one (One.appendOwn0 hA tabOk rfl rfl rfl rfl rfl rfl ?_ ?_) ?_) | (refine NX.k 13 ?_; first | refine NX.one (One.byteM hA tabOk rfl rfl rfl rfl rfl ?_ ?_) ?_) | (refine NX.k 14 ?_; first | refine NX.one (One.loadRatM hA tabOk rfl rfl rfl rfl rfl rfl ?_) ?_) | (refine NX.k 15 ?_; first | refine NX.one (One.storeRatM hA tabOk _ rfl rfl rfl rfl rfl rfl rfl rfl (fun _ => rfl) ?_) ?_) | (refine NX.k 16 ?_; first | refine NX.one (One.makeM hA tabOk encI 0 rfl rfl rfl rfl rfl rfl rfl ?_ ?_ ?_) ?_) | (refine NX.k 17 ?_; first | refine NX.one (One.build0 tabOk rfl rfl) ?_) | (refine NX.k 18 ?_; first | refine NX.one (One.fieldRat tabOk rfl rfl rfl rfl (by decide) rfl rfl) ?_) | (refine NX.k 23 ?_; first | refine NX.one (One.lookupI (q := .i64) hA rfl rfl rfl (by conv => lhs; cbv) (by decide +kernel)) ?_ | refine NX.one (One.lookupI (q := .u8) hA rfl rfl rfl (by conv => lhs; cbv) (by decide +kernel)) ?_ | refine NX.one (One.lookupI1 (q := .i64) hA rfl rfl rfl (by conv => lhs; cbv) (by decide +kernel)) ?_ | refine NX.one (One.lookupI1 (q := .u8) hA rfl rfl rfl (by conv => lhs; cbv) (by decide +kernel)) ?_) | (refine NX.k 26 ?_; first | refine NX.mapLit .i64 (by conv => lhs; cbv) (by decide +kernel) ?_ | refine NX.mapLit .u8 (by conv => lhs; cbv) (by decide +kernel) ?_)) <;> (first | refine AOLg.pass ?_ | (((try simp only [zn]) <;> (try simp (disch := omega) only [zz hA, zb, zy, reduceCtorEq, Bool.false_eq_true, Int.reduceLT, Int.reduceLE, Int.reduceNeg]) <;> (try simp only [zw])) <;> omega)))
            | refine NX.raw ?_)
        | (refine TRg.pass ?_; refine TRg.nx hA tabOk (by conv => lhs; cbv) ?_; first
            | refine TX.done ?_
            | refine TX.gt ?_
            | refine TX.gf ?_
            | (refine TX.gs ?_ ?_ <;> intro hc <;> rw [hc] <;> ((try simp only [zn] at hc) <;> (try simp (disch := omega) only [zz hA, zb, zy, reduceCtorEq, Bool.false_eq_true, Int.reduceLT, Int.reduceLE, Int.reduceNeg] at hc) <;> (try simp only [zw] at hc)) <;> (try (exfalso; omega)))
            | (refine TX.kC ?_; first | (with_reducible refine TX.call (hright) ?_) | ((first | refine TX.call (hright) ?_)) | fail)
            | (refine TX.kO ?_; (first | refine TX.callO (hright) (by simp [allEq]) rfl ?_))
            | ((first | (refine TX.k 1 ?_; first | refine TX.one (One.elemM hA tabOk rfl rfl rfl rfl ?_ ?_) ?_ | refine TX.one (One.elemOwnM hA tabOk rfl rfl rfl rfl rfl ?_ ?_) ?_) | (refine TX.k 2 ?_; first | refine TX.one (One.clipM tabOk rfl rfl rfl rfl rfl ?_ ?_) ?_ | refine TX.one (One.cut_hM hA tabOk rfl rfl rfl rfl ?_ ?_) ?_ | refine TX.one (One.cut_lM hA tabOk rfl rfl rfl rfl ?_ ?_) ?_ | refine TX.one (One.cut_lhM hA tabOk rfl rfl rfl rfl rfl ?_ ?_ ?_) ?_) | (refine TX.k 3 ?_; first | refine TX.one (One.quoM hA rfl rfl rfl ?_) ?_) | (refine TX.k 4 ?_; first | refine TX.one (One.remM hA rfl rfl rfl ?_) ?_) | (refine TX.k 5 ?_; first | refine TX.one (One.shrM hA rfl rfl rfl ?_) ?_) | (refine TX.k 6 ?_; first | refine TX.one (One.bitsM hA rfl rfl rfl rfl) ?_) | (refine TX.k 7 ?_; first | refine TX.one (One.concatM hA rfl rfl rfl ?_) ?_) | (refine TX.k 8 ?_; first | refine TX.one (One.eqBoolM hA tabOk rfl rfl rfl rfl rfl) ?_) | (refine TX.k 9 ?_; first | refine TX.one (One.neBoolM hA tabOk rfl rfl rfl rfl rfl) ?_) | (refine TX.k 10 ?_; first | refine TX.one (One.lenOwnM hA tabOk rfl rfl rfl rfl) ?_) | (refine TX.k 11 ?_; first | refine TX.one (One.appendM hA tabOk _ rfl rfl rfl rfl rfl rfl ?_ ?_) ?_ | refine TX.one (One.appendMM hA tabOk rfl rfl rfl rfl rfl ?_ ?_) ?_ | refine TX.one (One.appendOwnM hA tabOk _ rfl rfl rfl rfl rfl rfl rfl ?_ ?_) ?_ | refine TX.one (One.appendOwnMM hA tabOk rfl rfl rfl rfl rfl rfl ?_ ?_) ?_ | refine TX.one (One.appendOwn0 hA tabOk rfl rfl rfl rfl rfl rfl ?_ ?_) ?_) | (refine TX.k 13 ?_; first | refine TX.one (One.byteM hA tabOk rfl rfl rfl rfl rfl ?_ ?_) ?_) | (refine TX.k 14 ?_; first | refine TX.one (One.loadRatM hA tabOk rfl rfl rfl rfl rfl rfl ?_) ?_) | (refine TX.k 15 ?_; first | refine TX.one (One.storeRatM hA tabOk _ rfl rfl rfl rfl rfl rfl rfl rfl (fun _ => rfl) ?_) ?_) | (refine TX.k 16 ?_; first | refine TX.one (One.makeM hA tabOk encI 0 rfl rfl rfl rfl rfl rfl rfl ?_ ?_ ?_) ?_) | (refine TX.k 17 ?_; first | refine TX.one (One.build0 tabOk rfl rfl) ?_) | (refine TX.k 18 ?_; first | refine TX.one (One.fieldRat tabOk rfl rfl rfl rfl (by decide) rfl rfl) ?_) | (refine TX.k 23 ?_; first | refine TX.one (One.lookupI (q := .i64) hA rfl rfl rfl (by conv => lhs; cbv) (by decide +kernel)) ?_ | refine TX.one (One.lookupI (q := .u8) hA rfl rfl rfl (by conv => lhs; cbv) (by decide +kernel)) ?_ | refine TX.one (One.lookupI1 (q := .i64) hA rfl rfl rfl (by conv => lhs; cbv) (by decide +kernel)) ?_ | refine TX.one (One.lookupI1 (q := .u8) hA rfl rfl rfl (by conv => lhs; cbv) (by decide +kernel)) ?_)) <;> (first | refine TRg.pass ?_ | (((try simp only [zn]) <;> (try simp (disch := omega) only [zz hA, zb, zy, reduceCtorEq, Bool.false_eq_true, Int.reduceLT, Int.reduceLE, Int.reduceNeg]) <;> (try simp only [zw])) <;> omega)))
            | refine TX.raw ?_)
        | refine Fin3.of (by conv => lhs; cbv) (by repeat' (first | exact True.intro | exact rfl | refine And.intro ?_ ?_)) ?_ ?_
        | (refine AllO.pass ?_; first
            | exact AllO.nil
            | (refine AllO.cons (One.ev hA tabOk ?_) ?_ <;> (first | refine AllO.pass ?_ | ((conv => lhs; cbv); done)))
            | (refine AllO.cons (One.skipB ?_) ?_ <;> (first | refine AllO.pass ?_ | ((conv => lhs; cbv); done)))
            | ((with_reducible refine AllO.call (by conv => lhs; cbv) (hright) ?_ ?_) <;> (first | refine AllO.pass ?_ | exact rfl | (((try simp only [zn]) <;> (try simp (disch := omega) only [zz hA, zb, zy, reduceCtorEq, Bool.false_eq_true, Int.reduceLT, Int.reduceLE, Int.reduceNeg]) <;> (try simp only [zw])) <;> omega)))
            | ((first | refine AllO.consX (One.elemM hA tabOk rfl rfl rfl rfl ?_ ?_) rfl rfl ?_ | refine AllO.consX (One.cut_hM hA tabOk rfl rfl rfl rfl ?_ ?_) rfl rfl ?_ | refine AllO.consX (One.cut_lM hA tabOk rfl rfl rfl rfl ?_ ?_) rfl rfl ?_ | refine AllO.consX (One.cut_lhM hA tabOk rfl rfl rfl rfl rfl ?_ ?_ ?_) rfl rfl ?_ | refine AllO.consX (One.quoM hA rfl rfl rfl ?_) rfl rfl ?_ | refine AllO.consX (One.remM hA rfl rfl rfl ?_) rfl rfl ?_ | refine AllO.consX (One.byteM hA tabOk rfl rfl rfl rfl rfl ?_ ?_) rfl rfl ?_ | refine AllO.consX (One.concatM hA rfl rfl rfl ?_) rfl rfl ?_ | refine AllO.consX (One.lenOwnM hA tabOk rfl rfl rfl rfl) rfl rfl ?_ | refine AllO.consX (One.elemOwnM hA tabOk rfl rfl rfl rfl rfl ?_ ?_) rfl rfl ?_ | refine AllO.consX (One.loadRatM hA tabOk rfl rfl rfl rfl rfl rfl ?_) rfl rfl ?_) <;> (first | refine AllO.pass ?_ | (((try simp only [zn]) <;> (try simp (disch := omega) only [zz hA, zb, zy, reduceCtorEq, Bool.false_eq_true, Int.reduceLT, Int.reduceLE, Int.reduceNeg]) <;> (try simp only [zw])) <;> omega))))
        | refine Thn.exit ?_
        | refine Blk.here ?_
        | refine Blk.other (by decide) ?_
        | refine ⟨.inl rfl, _, RetOk.ev tabOk (by conv => lhs; cbv), ?_⟩
        | fail)
      · refine rPV_then (by conv => lhs; cbv) ?_
        rfl
      · refine rPV_then (by conv => lhs; cbv) ?_
        rfl
      · exact absurd ⟨by assumption, by assumption, by omega⟩ hg
end Go.Proofs.Ytpphdaphbkepfaa.Aw
