/- Contracts of package hash, part 1: hashes, sizes. -/
import Derived.Test.YtpphdaphbkepfaaTab
set_option linter.unusedVariables false
set_option linter.unusedSimpArgs false
namespace Go.Proofs.Ytpphdaphbkepfaa.Aw
open Go Go.RowKit
set_option maxRecDepth 10000
attribute [local irreducible] AWp AOL QS One
/-- One byte of a hash. -/
def hstep (h b : Int) : Int := bitsV .xor .u32 h b * 16777619 % 4294967296
/-- Byte k of a number. -/
def hbyte (n : Int) (k : Nat) : Int := n % 18446744073709551616 / 256 ^ k % 256
def hnum (h n : Int) (k : Nat) : Int := (List.range k).foldl (fun h k => hstep h (hbyte n k)) h
def hashM (key : List Int) : Int := key.foldl (fun h n => hnum h n 8) 2166136261
theorem hnum_succ (h n : Int) (k : Nat) : hnum h n (k + 1) = hstep (hnum h n k) (hbyte n k) := by simp [hnum, List.range_succ]
theorem hashM_snoc (l : List Int) (n : Int) : hashM (l ++ [n]) = hnum (hashM l) n 8 := by simp [hashM]
theorem take_snoc {α : Type} [Inhabited α] (l : List α) (k : Nat) (h : k < l.length) : l.take (k + 1) = l.take k ++ [l.getD k default] := by
  rw [List.take_add_one]; simp [h]
theorem hbyte_of (n : Int) (j : Nat) (hj : j < 8) : IntKind.u32.wrap (IntKind.u8.wrap ((IntKind.u64.wrap n).fdiv (2 ^ min ((8 * j : Nat) : Int).toNat 64))) = hbyte n j := by
  rw [IntKind.wrap_u32, IntKind.wrap_u8, IntKind.wrap_u64, Int.toNat_natCast, Nat.min_eq_left (by omega), Int.fdiv_eq_ediv_of_nonneg _ (by exact Int.le_of_lt (Int.pow_pos (by decide)))]
  unfold hbyte
  rw [show (256 : Int) ^ j = 2 ^ (8 * j) by rw [Int.pow_mul]; rfl]
  omega
variable {A : Ar} (hA : A = real)
include hA
theorem hash_c (key : List Int) (hl : key.length ≤ 1000000) : PureCalls Try.prog 38 [intsP A key] (.c (.lit (.int .u32 (hid A (hashM key))))) := by
  refine PureCalls.of Try.func38 rfl (by kernel_rfl) rfl ?_
  repeat' (first
    | (refine AWp.pass ?_; first
        | refine AWp.seq ?_
        | refine AWp.block ?_
        | refine AWp.skip ?_
        | refine AWp.reg (by conv => lhs; cbv) ?_
        | refine AWp.cond_t rfl ?_
        | refine AWp.cond_f rfl ?_
        | (refine AWp.cond rfl ?_ ?_ <;> intro hc <;> (try rw [hc]) <;> ((try simp (disch := omega) only [zz hA, zb, reduceCtorEq, Bool.false_eq_true, Int.reduceLT, Int.reduceLE, Int.reduceNeg] at hc) <;> (try simp only [zw] at hc)) <;> (try (exfalso; omega)))
        | refine AWp.exit ?_
        | refine AWp.ret ⟨.inr rfl, _, RetOk.ev tabOk (by conv => lhs; cbv), ?_⟩
        | refine AWp.drawK 0 rfl (by decide +kernel) (by conv => lhs; cbv) (by conv => lhs; cbv) ?_
        | refine AWp.drawK 1 rfl (by decide +kernel) (by conv => lhs; cbv) (by conv => lhs; cbv) ?_
        | refine AWp.drawK 2 rfl (by decide +kernel) (by conv => lhs; cbv) (by conv => lhs; cbv) ?_
        | refine AWp.drawK 3 rfl (by decide +kernel) (by conv => lhs; cbv) (by conv => lhs; cbv) ?_
        | refine AWp.drawK 4 rfl (by decide +kernel) (by conv => lhs; cbv) (by conv => lhs; cbv) ?_
        | refine AWp.drawK 5 rfl (by decide +kernel) (by conv => lhs; cbv) (by conv => lhs; cbv) ?_
        | refine AWp.drawK 6 rfl (by decide +kernel) (by conv => lhs; cbv) (by conv => lhs; cbv) ?_
        | refine AWp.drawK 8 rfl (by decide +kernel) (by conv => lhs; cbv) (by conv => lhs; cbv) ?_)
    | (refine AOL.pass ?_; first
        | refine AOL.nil ?_
        | refine AOL.go hA tabOk (by conv => lhs; cbv) ?_
        | ((first | refine AOL.one (One.elemM hA tabOk rfl rfl rfl rfl ?_ ?_) ?_ | refine AOL.one (One.clipM tabOk rfl rfl rfl rfl rfl ?_ ?_) ?_ | refine AOL.one (One.cut_hM hA tabOk rfl rfl rfl rfl ?_ ?_) ?_ | refine AOL.one (One.cut_lM hA tabOk rfl rfl rfl rfl ?_ ?_) ?_ | refine AOL.one (One.cut_lhM hA tabOk rfl rfl rfl rfl rfl ?_ ?_ ?_) ?_ | refine AOL.one (One.quoM hA rfl rfl rfl ?_) ?_ | refine AOL.one (One.remM hA rfl rfl rfl ?_) ?_ | refine AOL.one (One.bitsM hA rfl rfl rfl rfl) ?_ | refine AOL.one (One.shrM hA rfl rfl rfl ?_) ?_ | refine AOL.one (One.byteM hA tabOk rfl rfl rfl rfl rfl ?_ ?_) ?_ | refine AOL.one (One.concatM hA rfl rfl rfl ?_) ?_ | refine AOL.one (One.eqBoolM hA tabOk rfl rfl rfl rfl rfl) ?_ | refine AOL.one (One.neBoolM hA tabOk rfl rfl rfl rfl rfl) ?_ | refine AOL.one (One.lenOwnM hA tabOk rfl rfl rfl rfl) ?_ | refine AOL.one (One.elemOwnM hA tabOk rfl rfl rfl rfl rfl ?_ ?_) ?_ | refine AOL.one (One.loadRatM hA tabOk rfl rfl rfl rfl rfl rfl ?_) ?_ | refine AOL.one (One.appendM hA tabOk _ rfl rfl rfl rfl rfl rfl ?_ ?_) ?_ | refine AOL.one (One.appendMM hA tabOk rfl rfl rfl rfl rfl ?_ ?_) ?_ | refine AOL.one (One.appendOwnM hA tabOk _ rfl rfl rfl rfl rfl rfl rfl ?_ ?_) ?_ | refine AOL.one (One.appendOwnMM hA tabOk rfl rfl rfl rfl rfl rfl ?_ ?_) ?_ | refine AOL.one (One.appendOwn0 hA tabOk rfl rfl rfl rfl rfl rfl ?_ ?_) ?_ | refine AOL.one (One.storeRatM hA tabOk _ rfl rfl rfl rfl rfl rfl rfl rfl (fun _ => rfl) ?_) ?_ | refine AOL.one (One.makeM hA tabOk encI 0 rfl rfl rfl rfl rfl rfl rfl ?_ ?_ ?_) ?_ | refine AOL.one (One.build0 tabOk rfl rfl) ?_ | refine AOL.one (One.fieldRat tabOk rfl rfl rfl rfl (by decide) rfl rfl) ?_) <;> (first | refine AOL.pass ?_ | (((try simp (disch := omega) only [zz hA, zb, reduceCtorEq, Bool.false_eq_true, Int.reduceLT, Int.reduceLE, Int.reduceNeg]) <;> (try simp only [zw])) <;> omega)))
        | refine AOL.goG hA tabOk (by conv => lhs; cbv) ?_
        | refine AOL.go1 hA tabOk (by conv => lhs; cbv) ?_
        | (refine AOL.gs (by conv => lhs; cbv) ?_ ?_ <;> intro hc <;> (fail_if_success (with_reducible have h0 : true = true := hc)) <;> (fail_if_success (with_reducible have h0 : true = false := hc)) <;> (fail_if_success (with_reducible have h0 : false = true := hc)) <;> (fail_if_success (with_reducible have h0 : false = false := hc)) <;> rw [hc] <;> ((try simp (disch := omega) only [zz hA, zb, reduceCtorEq, Bool.false_eq_true, Int.reduceLT, Int.reduceLE, Int.reduceNeg] at hc) <;> (try simp only [zw] at hc)) <;> (try (exfalso; omega))))
    | (refine QS.pass ?_; first
        | refine QS.nil ?_
        | refine QS.go hA tabOk (by conv => lhs; cbv) ?_
        | ((first | refine QS.one rfl (One.elemM hA tabOk rfl rfl rfl rfl ?_ ?_) ?_ | refine QS.one rfl (One.clipM tabOk rfl rfl rfl rfl rfl ?_ ?_) ?_ | refine QS.one rfl (One.cut_hM hA tabOk rfl rfl rfl rfl ?_ ?_) ?_ | refine QS.one rfl (One.cut_lM hA tabOk rfl rfl rfl rfl ?_ ?_) ?_ | refine QS.one rfl (One.cut_lhM hA tabOk rfl rfl rfl rfl rfl ?_ ?_ ?_) ?_ | refine QS.one rfl (One.quoM hA rfl rfl rfl ?_) ?_ | refine QS.one rfl (One.remM hA rfl rfl rfl ?_) ?_ | refine QS.one rfl (One.bitsM hA rfl rfl rfl rfl) ?_ | refine QS.one rfl (One.shrM hA rfl rfl rfl ?_) ?_ | refine QS.one rfl (One.byteM hA tabOk rfl rfl rfl rfl rfl ?_ ?_) ?_ | refine QS.one rfl (One.concatM hA rfl rfl rfl ?_) ?_ | refine QS.one rfl (One.eqBoolM hA tabOk rfl rfl rfl rfl rfl) ?_ | refine QS.one rfl (One.neBoolM hA tabOk rfl rfl rfl rfl rfl) ?_ | refine QS.one rfl (One.lenOwnM hA tabOk rfl rfl rfl rfl) ?_ | refine QS.one rfl (One.elemOwnM hA tabOk rfl rfl rfl rfl rfl ?_ ?_) ?_ | refine QS.one rfl (One.loadRatM hA tabOk rfl rfl rfl rfl rfl rfl ?_) ?_ | refine QS.one rfl (One.appendM hA tabOk _ rfl rfl rfl rfl rfl rfl ?_ ?_) ?_ | refine QS.one rfl (One.appendMM hA tabOk rfl rfl rfl rfl rfl ?_ ?_) ?_ | refine QS.one rfl (One.appendOwnM hA tabOk _ rfl rfl rfl rfl rfl rfl rfl ?_ ?_) ?_ | refine QS.one rfl (One.appendOwnMM hA tabOk rfl rfl rfl rfl rfl rfl ?_ ?_) ?_ | refine QS.one rfl (One.appendOwn0 hA tabOk rfl rfl rfl rfl rfl rfl ?_ ?_) ?_ | refine QS.one rfl (One.storeRatM hA tabOk _ rfl rfl rfl rfl rfl rfl rfl rfl (fun _ => rfl) ?_) ?_ | refine QS.one rfl (One.makeM hA tabOk encI 0 rfl rfl rfl rfl rfl rfl rfl ?_ ?_ ?_) ?_ | refine QS.one rfl (One.build0 tabOk rfl rfl) ?_ | refine QS.one rfl (One.fieldRat tabOk rfl rfl rfl rfl (by decide) rfl rfl) ?_) <;> (first | refine QS.pass ?_ | (((try simp (disch := omega) only [zz hA, zb, reduceCtorEq, Bool.false_eq_true, Int.reduceLT, Int.reduceLE, Int.reduceNeg]) <;> (try simp only [zw])) <;> omega)))
        | refine QS.goG hA tabOk (by conv => lhs; cbv) ?_
        | refine QS.go1 hA tabOk (by conv => lhs; cbv) ?_
        | (refine QS.gs (by conv => lhs; cbv) ?_ ?_ <;> intro hc <;> (fail_if_success (with_reducible have h0 : true = true := hc)) <;> (fail_if_success (with_reducible have h0 : true = false := hc)) <;> (fail_if_success (with_reducible have h0 : false = true := hc)) <;> (fail_if_success (with_reducible have h0 : false = false := hc)) <;> rw [hc] <;> ((try simp (disch := omega) only [zz hA, zb, reduceCtorEq, Bool.false_eq_true, Int.reduceLT, Int.reduceLE, Int.reduceNeg] at hc) <;> (try simp only [zw] at hc)) <;> (try (exfalso; omega))))
    | refine Thn.exit ?_
    | refine Blk.here ?_
    | refine Blk.other (by decide) ?_
    | refine ⟨.inl rfl, _, RetOk.ev tabOk (by conv => lhs; cbv), ?_⟩
    | fail)
  refine AWp.loopU (fun k : Nat => [(3, .ic (.lit (.int .u32 (hid A (hashM (key.take k)))))), (9, .ic (.lit (.int .i64 (hid A (cN k)))))]) (fun _ => []) (fun k => key.length - k) (fun k => k ≤ key.length) 0 (by conv => lhs; cbv) (by omega) (.int rfl (by simp [hid, hA, real, hashM]) (.int rfl (by simp [hid, hA, real, cN]) .nil)) rfl ?_
  intro k hk
  repeat' (first
    | (refine AWp.pass ?_; first
        | refine AWp.seq ?_
        | refine AWp.block ?_
        | refine AWp.skip ?_
        | refine AWp.reg (by conv => lhs; cbv) ?_
        | refine AWp.cond_t rfl ?_
        | refine AWp.cond_f rfl ?_
        | (refine AWp.cond rfl ?_ ?_ <;> intro hc <;> (try rw [hc]) <;> ((try simp (disch := omega) only [zz hA, zb, reduceCtorEq, Bool.false_eq_true, Int.reduceLT, Int.reduceLE, Int.reduceNeg] at hc) <;> (try simp only [zw] at hc)) <;> (try (exfalso; omega)))
        | refine AWp.exit ?_
        | refine AWp.ret ⟨.inr rfl, _, RetOk.ev tabOk (by conv => lhs; cbv), ?_⟩
        | refine AWp.drawK 0 rfl (by decide +kernel) (by conv => lhs; cbv) (by conv => lhs; cbv) ?_
        | refine AWp.drawK 1 rfl (by decide +kernel) (by conv => lhs; cbv) (by conv => lhs; cbv) ?_
        | refine AWp.drawK 2 rfl (by decide +kernel) (by conv => lhs; cbv) (by conv => lhs; cbv) ?_
        | refine AWp.drawK 3 rfl (by decide +kernel) (by conv => lhs; cbv) (by conv => lhs; cbv) ?_
        | refine AWp.drawK 4 rfl (by decide +kernel) (by conv => lhs; cbv) (by conv => lhs; cbv) ?_
        | refine AWp.drawK 5 rfl (by decide +kernel) (by conv => lhs; cbv) (by conv => lhs; cbv) ?_
        | refine AWp.drawK 6 rfl (by decide +kernel) (by conv => lhs; cbv) (by conv => lhs; cbv) ?_
        | refine AWp.drawK 8 rfl (by decide +kernel) (by conv => lhs; cbv) (by conv => lhs; cbv) ?_)
    | (refine AOL.pass ?_; first
        | refine AOL.nil ?_
        | refine AOL.go hA tabOk (by conv => lhs; cbv) ?_
        | ((first | refine AOL.one (One.elemM hA tabOk rfl rfl rfl rfl ?_ ?_) ?_ | refine AOL.one (One.clipM tabOk rfl rfl rfl rfl rfl ?_ ?_) ?_ | refine AOL.one (One.cut_hM hA tabOk rfl rfl rfl rfl ?_ ?_) ?_ | refine AOL.one (One.cut_lM hA tabOk rfl rfl rfl rfl ?_ ?_) ?_ | refine AOL.one (One.cut_lhM hA tabOk rfl rfl rfl rfl rfl ?_ ?_ ?_) ?_ | refine AOL.one (One.quoM hA rfl rfl rfl ?_) ?_ | refine AOL.one (One.remM hA rfl rfl rfl ?_) ?_ | refine AOL.one (One.bitsM hA rfl rfl rfl rfl) ?_ | refine AOL.one (One.shrM hA rfl rfl rfl ?_) ?_ | refine AOL.one (One.byteM hA tabOk rfl rfl rfl rfl rfl ?_ ?_) ?_ | refine AOL.one (One.concatM hA rfl rfl rfl ?_) ?_ | refine AOL.one (One.eqBoolM hA tabOk rfl rfl rfl rfl rfl) ?_ | refine AOL.one (One.neBoolM hA tabOk rfl rfl rfl rfl rfl) ?_ | refine AOL.one (One.lenOwnM hA tabOk rfl rfl rfl rfl) ?_ | refine AOL.one (One.elemOwnM hA tabOk rfl rfl rfl rfl rfl ?_ ?_) ?_ | refine AOL.one (One.loadRatM hA tabOk rfl rfl rfl rfl rfl rfl ?_) ?_ | refine AOL.one (One.appendM hA tabOk _ rfl rfl rfl rfl rfl rfl ?_ ?_) ?_ | refine AOL.one (One.appendMM hA tabOk rfl rfl rfl rfl rfl ?_ ?_) ?_ | refine AOL.one (One.appendOwnM hA tabOk _ rfl rfl rfl rfl rfl rfl rfl ?_ ?_) ?_ | refine AOL.one (One.appendOwnMM hA tabOk rfl rfl rfl rfl rfl rfl ?_ ?_) ?_ | refine AOL.one (One.appendOwn0 hA tabOk rfl rfl rfl rfl rfl rfl ?_ ?_) ?_ | refine AOL.one (One.storeRatM hA tabOk _ rfl rfl rfl rfl rfl rfl rfl rfl (fun _ => rfl) ?_) ?_ | refine AOL.one (One.makeM hA tabOk encI 0 rfl rfl rfl rfl rfl rfl rfl ?_ ?_ ?_) ?_ | refine AOL.one (One.build0 tabOk rfl rfl) ?_ | refine AOL.one (One.fieldRat tabOk rfl rfl rfl rfl (by decide) rfl rfl) ?_) <;> (first | refine AOL.pass ?_ | (((try simp (disch := omega) only [zz hA, zb, reduceCtorEq, Bool.false_eq_true, Int.reduceLT, Int.reduceLE, Int.reduceNeg]) <;> (try simp only [zw])) <;> omega)))
        | refine AOL.goG hA tabOk (by conv => lhs; cbv) ?_
        | refine AOL.go1 hA tabOk (by conv => lhs; cbv) ?_
        | (refine AOL.gs (by conv => lhs; cbv) ?_ ?_ <;> intro hc <;> (fail_if_success (with_reducible have h0 : true = true := hc)) <;> (fail_if_success (with_reducible have h0 : true = false := hc)) <;> (fail_if_success (with_reducible have h0 : false = true := hc)) <;> (fail_if_success (with_reducible have h0 : false = false := hc)) <;> rw [hc] <;> ((try simp (disch := omega) only [zz hA, zb, reduceCtorEq, Bool.false_eq_true, Int.reduceLT, Int.reduceLE, Int.reduceNeg] at hc) <;> (try simp only [zw] at hc)) <;> (try (exfalso; omega))))
    | (refine QS.pass ?_; first
        | refine QS.nil ?_
        | refine QS.go hA tabOk (by conv => lhs; cbv) ?_
        | ((first | refine QS.one rfl (One.elemM hA tabOk rfl rfl rfl rfl ?_ ?_) ?_ | refine QS.one rfl (One.clipM tabOk rfl rfl rfl rfl rfl ?_ ?_) ?_ | refine QS.one rfl (One.cut_hM hA tabOk rfl rfl rfl rfl ?_ ?_) ?_ | refine QS.one rfl (One.cut_lM hA tabOk rfl rfl rfl rfl ?_ ?_) ?_ | refine QS.one rfl (One.cut_lhM hA tabOk rfl rfl rfl rfl rfl ?_ ?_ ?_) ?_ | refine QS.one rfl (One.quoM hA rfl rfl rfl ?_) ?_ | refine QS.one rfl (One.remM hA rfl rfl rfl ?_) ?_ | refine QS.one rfl (One.bitsM hA rfl rfl rfl rfl) ?_ | refine QS.one rfl (One.shrM hA rfl rfl rfl ?_) ?_ | refine QS.one rfl (One.byteM hA tabOk rfl rfl rfl rfl rfl ?_ ?_) ?_ | refine QS.one rfl (One.concatM hA rfl rfl rfl ?_) ?_ | refine QS.one rfl (One.eqBoolM hA tabOk rfl rfl rfl rfl rfl) ?_ | refine QS.one rfl (One.neBoolM hA tabOk rfl rfl rfl rfl rfl) ?_ | refine QS.one rfl (One.lenOwnM hA tabOk rfl rfl rfl rfl) ?_ | refine QS.one rfl (One.elemOwnM hA tabOk rfl rfl rfl rfl rfl ?_ ?_) ?_ | refine QS.one rfl (One.loadRatM hA tabOk rfl rfl rfl rfl rfl rfl ?_) ?_ | refine QS.one rfl (One.appendM hA tabOk _ rfl rfl rfl rfl rfl rfl ?_ ?_) ?_ | refine QS.one rfl (One.appendMM hA tabOk rfl rfl rfl rfl rfl ?_ ?_) ?_ | refine QS.one rfl (One.appendOwnM hA tabOk _ rfl rfl rfl rfl rfl rfl rfl ?_ ?_) ?_ | refine QS.one rfl (One.appendOwnMM hA tabOk rfl rfl rfl rfl rfl rfl ?_ ?_) ?_ | refine QS.one rfl (One.appendOwn0 hA tabOk rfl rfl rfl rfl rfl rfl ?_ ?_) ?_ | refine QS.one rfl (One.storeRatM hA tabOk _ rfl rfl rfl rfl rfl rfl rfl rfl (fun _ => rfl) ?_) ?_ | refine QS.one rfl (One.makeM hA tabOk encI 0 rfl rfl rfl rfl rfl rfl rfl ?_ ?_ ?_) ?_ | refine QS.one rfl (One.build0 tabOk rfl rfl) ?_ | refine QS.one rfl (One.fieldRat tabOk rfl rfl rfl rfl (by decide) rfl rfl) ?_) <;> (first | refine QS.pass ?_ | (((try simp (disch := omega) only [zz hA, zb, reduceCtorEq, Bool.false_eq_true, Int.reduceLT, Int.reduceLE, Int.reduceNeg]) <;> (try simp only [zw])) <;> omega)))
        | refine QS.goG hA tabOk (by conv => lhs; cbv) ?_
        | refine QS.go1 hA tabOk (by conv => lhs; cbv) ?_
        | (refine QS.gs (by conv => lhs; cbv) ?_ ?_ <;> intro hc <;> (fail_if_success (with_reducible have h0 : true = true := hc)) <;> (fail_if_success (with_reducible have h0 : true = false := hc)) <;> (fail_if_success (with_reducible have h0 : false = true := hc)) <;> (fail_if_success (with_reducible have h0 : false = false := hc)) <;> rw [hc] <;> ((try simp (disch := omega) only [zz hA, zb, reduceCtorEq, Bool.false_eq_true, Int.reduceLT, Int.reduceLE, Int.reduceNeg] at hc) <;> (try simp only [zw] at hc)) <;> (try (exfalso; omega))))
    | refine Thn.exit ?_
    | refine Blk.here ?_
    | refine Blk.other (by decide) ?_
    | refine ⟨.inl rfl, _, RetOk.ev tabOk (by conv => lhs; cbv), ?_⟩
    | fail)
  · generalize hn : key.getD (A (.hid Int) fun x => cN k).toNat default = n
    refine AWp.loopU (fun j : Nat => [(3, .ic (.lit (.int .u32 (hid A (hnum (hashM (key.take k)) n j))))), (6, .ic (.lit (.int .i64 (hid A (cN (8 * j))))))]) (fun _ => []) (fun j => 8 - j) (fun j => j ≤ 8) 0 (by conv => lhs; cbv) (by omega) (.int rfl (by simp [hid, hA, real, hnum]) (.int rfl (by simp [hid, hA, real, cN]) .nil)) rfl ?_
    intro j hj
    repeat' (first
      | (refine AWp.pass ?_; first
          | refine AWp.seq ?_
          | refine AWp.block ?_
          | refine AWp.skip ?_
          | refine AWp.reg (by conv => lhs; cbv) ?_
          | refine AWp.cond_t rfl ?_
          | refine AWp.cond_f rfl ?_
          | (refine AWp.cond rfl ?_ ?_ <;> intro hc <;> (try rw [hc]) <;> ((try simp (disch := omega) only [zz hA, zb, reduceCtorEq, Bool.false_eq_true, Int.reduceLT, Int.reduceLE, Int.reduceNeg] at hc) <;> (try simp only [zw] at hc)) <;> (try (exfalso; omega)))
          | refine AWp.exit ?_
          | refine AWp.ret ⟨.inr rfl, _, RetOk.ev tabOk (by conv => lhs; cbv), ?_⟩
          | refine AWp.drawK 0 rfl (by decide +kernel) (by conv => lhs; cbv) (by conv => lhs; cbv) ?_
          | refine AWp.drawK 1 rfl (by decide +kernel) (by conv => lhs; cbv) (by conv => lhs; cbv) ?_
          | refine AWp.drawK 2 rfl (by decide +kernel) (by conv => lhs; cbv) (by conv => lhs; cbv) ?_
          | refine AWp.drawK 3 rfl (by decide +kernel) (by conv => lhs; cbv) (by conv => lhs; cbv) ?_
          | refine AWp.drawK 4 rfl (by decide +kernel) (by conv => lhs; cbv) (by conv => lhs; cbv) ?_
          | refine AWp.drawK 5 rfl (by decide +kernel) (by conv => lhs; cbv) (by conv => lhs; cbv) ?_
          | refine AWp.drawK 6 rfl (by decide +kernel) (by conv => lhs; cbv) (by conv => lhs; cbv) ?_
          | refine AWp.drawK 8 rfl (by decide +kernel) (by conv => lhs; cbv) (by conv => lhs; cbv) ?_)
      | (refine AOL.pass ?_; first
          | refine AOL.nil ?_
          | refine AOL.go hA tabOk (by conv => lhs; cbv) ?_
          | ((first | refine AOL.one (One.elemM hA tabOk rfl rfl rfl rfl ?_ ?_) ?_ | refine AOL.one (One.clipM tabOk rfl rfl rfl rfl rfl ?_ ?_) ?_ | refine AOL.one (One.cut_hM hA tabOk rfl rfl rfl rfl ?_ ?_) ?_ | refine AOL.one (One.cut_lM hA tabOk rfl rfl rfl rfl ?_ ?_) ?_ | refine AOL.one (One.cut_lhM hA tabOk rfl rfl rfl rfl rfl ?_ ?_ ?_) ?_ | refine AOL.one (One.quoM hA rfl rfl rfl ?_) ?_ | refine AOL.one (One.remM hA rfl rfl rfl ?_) ?_ | refine AOL.one (One.bitsM hA rfl rfl rfl rfl) ?_ | refine AOL.one (One.shrM hA rfl rfl rfl ?_) ?_ | refine AOL.one (One.byteM hA tabOk rfl rfl rfl rfl rfl ?_ ?_) ?_ | refine AOL.one (One.concatM hA rfl rfl rfl ?_) ?_ | refine AOL.one (One.eqBoolM hA tabOk rfl rfl rfl rfl rfl) ?_ | refine AOL.one (One.neBoolM hA tabOk rfl rfl rfl rfl rfl) ?_ | refine AOL.one (One.lenOwnM hA tabOk rfl rfl rfl rfl) ?_ | refine AOL.one (One.elemOwnM hA tabOk rfl rfl rfl rfl rfl ?_ ?_) ?_ | refine AOL.one (One.loadRatM hA tabOk rfl rfl rfl rfl rfl rfl ?_) ?_ | refine AOL.one (One.appendM hA tabOk _ rfl rfl rfl rfl rfl rfl ?_ ?_) ?_ | refine AOL.one (One.appendMM hA tabOk rfl rfl rfl rfl rfl ?_ ?_) ?_ | refine AOL.one (One.appendOwnM hA tabOk _ rfl rfl rfl rfl rfl rfl rfl ?_ ?_) ?_ | refine AOL.one (One.appendOwnMM hA tabOk rfl rfl rfl rfl rfl rfl ?_ ?_) ?_ | refine AOL.one (One.appendOwn0 hA tabOk rfl rfl rfl rfl rfl rfl ?_ ?_) ?_ | refine AOL.one (One.storeRatM hA tabOk _ rfl rfl rfl rfl rfl rfl rfl rfl (fun _ => rfl) ?_) ?_ | refine AOL.one (One.makeM hA tabOk encI 0 rfl rfl rfl rfl rfl rfl rfl ?_ ?_ ?_) ?_ | refine AOL.one (One.build0 tabOk rfl rfl) ?_ | refine AOL.one (One.fieldRat tabOk rfl rfl rfl rfl (by decide) rfl rfl) ?_) <;> (first | refine AOL.pass ?_ | (((try simp (disch := omega) only [zz hA, zb, reduceCtorEq, Bool.false_eq_true, Int.reduceLT, Int.reduceLE, Int.reduceNeg]) <;> (try simp only [zw])) <;> omega)))
          | refine AOL.goG hA tabOk (by conv => lhs; cbv) ?_
          | refine AOL.go1 hA tabOk (by conv => lhs; cbv) ?_
          | (refine AOL.gs (by conv => lhs; cbv) ?_ ?_ <;> intro hc <;> (fail_if_success (with_reducible have h0 : true = true := hc)) <;> (fail_if_success (with_reducible have h0 : true = false := hc)) <;> (fail_if_success (with_reducible have h0 : false = true := hc)) <;> (fail_if_success (with_reducible have h0 : false = false := hc)) <;> rw [hc] <;> ((try simp (disch := omega) only [zz hA, zb, reduceCtorEq, Bool.false_eq_true, Int.reduceLT, Int.reduceLE, Int.reduceNeg] at hc) <;> (try simp only [zw] at hc)) <;> (try (exfalso; omega))))
      | (refine QS.pass ?_; first
          | refine QS.nil ?_
          | refine QS.go hA tabOk (by conv => lhs; cbv) ?_
          | ((first | refine QS.one rfl (One.elemM hA tabOk rfl rfl rfl rfl ?_ ?_) ?_ | refine QS.one rfl (One.clipM tabOk rfl rfl rfl rfl rfl ?_ ?_) ?_ | refine QS.one rfl (One.cut_hM hA tabOk rfl rfl rfl rfl ?_ ?_) ?_ | refine QS.one rfl (One.cut_lM hA tabOk rfl rfl rfl rfl ?_ ?_) ?_ | refine QS.one rfl (One.cut_lhM hA tabOk rfl rfl rfl rfl rfl ?_ ?_ ?_) ?_ | refine QS.one rfl (One.quoM hA rfl rfl rfl ?_) ?_ | refine QS.one rfl (One.remM hA rfl rfl rfl ?_) ?_ | refine QS.one rfl (One.bitsM hA rfl rfl rfl rfl) ?_ | refine QS.one rfl (One.shrM hA rfl rfl rfl ?_) ?_ | refine QS.one rfl (One.byteM hA tabOk rfl rfl rfl rfl rfl ?_ ?_) ?_ | refine QS.one rfl (One.concatM hA rfl rfl rfl ?_) ?_ | refine QS.one rfl (One.eqBoolM hA tabOk rfl rfl rfl rfl rfl) ?_ | refine QS.one rfl (One.neBoolM hA tabOk rfl rfl rfl rfl rfl) ?_ | refine QS.one rfl (One.lenOwnM hA tabOk rfl rfl rfl rfl) ?_ | refine QS.one rfl (One.elemOwnM hA tabOk rfl rfl rfl rfl rfl ?_ ?_) ?_ | refine QS.one rfl (One.loadRatM hA tabOk rfl rfl rfl rfl rfl rfl ?_) ?_ | refine QS.one rfl (One.appendM hA tabOk _ rfl rfl rfl rfl rfl rfl ?_ ?_) ?_ | refine QS.one rfl (One.appendMM hA tabOk rfl rfl rfl rfl rfl ?_ ?_) ?_ | refine QS.one rfl (One.appendOwnM hA tabOk _ rfl rfl rfl rfl rfl rfl rfl ?_ ?_) ?_ | refine QS.one rfl (One.appendOwnMM hA tabOk rfl rfl rfl rfl rfl rfl ?_ ?_) ?_ | refine QS.one rfl (One.appendOwn0 hA tabOk rfl rfl rfl rfl rfl rfl ?_ ?_) ?_ | refine QS.one rfl (One.storeRatM hA tabOk _ rfl rfl rfl rfl rfl rfl rfl rfl (fun _ => rfl) ?_) ?_ | refine QS.one rfl (One.makeM hA tabOk encI 0 rfl rfl rfl rfl rfl rfl rfl ?_ ?_ ?_) ?_ | refine QS.one rfl (One.build0 tabOk rfl rfl) ?_ | refine QS.one rfl (One.fieldRat tabOk rfl rfl rfl rfl (by decide) rfl rfl) ?_) <;> (first | refine QS.pass ?_ | (((try simp (disch := omega) only [zz hA, zb, reduceCtorEq, Bool.false_eq_true, Int.reduceLT, Int.reduceLE, Int.reduceNeg]) <;> (try simp only [zw])) <;> omega)))
          | refine QS.goG hA tabOk (by conv => lhs; cbv) ?_
          | refine QS.go1 hA tabOk (by conv => lhs; cbv) ?_
          | (refine QS.gs (by conv => lhs; cbv) ?_ ?_ <;> intro hc <;> (fail_if_success (with_reducible have h0 : true = true := hc)) <;> (fail_if_success (with_reducible have h0 : true = false := hc)) <;> (fail_if_success (with_reducible have h0 : false = true := hc)) <;> (fail_if_success (with_reducible have h0 : false = false := hc)) <;> rw [hc] <;> ((try simp (disch := omega) only [zz hA, zb, reduceCtorEq, Bool.false_eq_true, Int.reduceLT, Int.reduceLE, Int.reduceNeg] at hc) <;> (try simp only [zw] at hc)) <;> (try (exfalso; omega))))
      | refine Thn.exit ?_
      | refine Blk.here ?_
      | refine Blk.other (by decide) ?_
      | refine ⟨.inl rfl, _, RetOk.ev tabOk (by conv => lhs; cbv), ?_⟩
      | fail)
    · skip
      refine ⟨j + 1, ?_, ?_, rfl, rfl, ?_, (by repeat' (first | exact subE.nil | refine subE.cons rfl ?_))⟩ <;> (try omega)
      repeat' (first | exact subE.nil | refine subE.cons rfl ?_ | refine subE.int rfl ?_ ?_ | refine subE.bool rfl ?_ ?_ | refine subE.str rfl ?_ ?_ | refine subE.sl rfl ?_ ?_)
      · ((try simp (disch := omega) only [zz hA, zb, reduceCtorEq, Bool.false_eq_true, Int.reduceLT, Int.reduceLE, Int.reduceNeg]) <;> (try simp only [zw]))
        have := hbyte_of n j (by omega)
        ((try simp (disch := omega) only [zz hA, zb, reduceCtorEq, Bool.false_eq_true, Int.reduceLT, Int.reduceLE, Int.reduceNeg] at this) <;> (try simp only [zw] at this))
        rw [hnum_succ, hstep, ← this]
        rfl
      · (((try simp (disch := omega) only [zz hA, zb, reduceCtorEq, Bool.false_eq_true, Int.reduceLT, Int.reduceLE, Int.reduceNeg]) <;> (try simp only [zw])) <;> omega)
    · skip
      refine ⟨k + 1, ?_, ?_, rfl, rfl, ?_, (by repeat' (first | exact subE.nil | refine subE.cons rfl ?_))⟩ <;> (try omega)
      repeat' (first | exact subE.nil | refine subE.cons rfl ?_ | refine subE.int rfl ?_ ?_ | refine subE.bool rfl ?_ ?_ | refine subE.str rfl ?_ ?_ | refine subE.sl rfl ?_ ?_)
      · ((try simp (disch := omega) only [zz hA, zb, reduceCtorEq, Bool.false_eq_true, Int.reduceLT, Int.reduceLE, Int.reduceNeg]) <;> (try simp only [zw]))
        rw [show j = 8 by omega, take_snoc key k (by omega), hashM_snoc, ← hn]
        ((try simp (disch := omega) only [zz hA, zb, reduceCtorEq, Bool.false_eq_true, Int.reduceLT, Int.reduceLE, Int.reduceNeg]) <;> (try simp only [zw]))
      · (((try simp (disch := omega) only [zz hA, zb, reduceCtorEq, Bool.false_eq_true, Int.reduceLT, Int.reduceLE, Int.reduceNeg]) <;> (try simp only [zw])) <;> omega)
  · refine rPV_then (by conv => lhs; cbv) ?_
    ((try simp (disch := omega) only [zz hA, zb, reduceCtorEq, Bool.false_eq_true, Int.reduceLT, Int.reduceLE, Int.reduceNeg]) <;> (try simp only [zw]))
    rw [List.take_of_length_le (by omega)]
end Go.Proofs.Ytpphdaphbkepfaa.Aw
