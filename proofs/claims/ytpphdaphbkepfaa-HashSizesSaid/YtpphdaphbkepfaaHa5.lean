/- Contracts of package hash, part 5: Lay, Find. -/
import Derived.Test.YtpphdaphbkepfaaHa4
set_option linter.unusedVariables false
set_option linter.unusedSimpArgs false
namespace Go.Proofs.Ytpphdaphbkepfaa.Aw
open Go Go.RowKit
set_option maxRecDepth 10000
attribute [local irreducible] AWp AOL QS One
def layGo (K : List (List Int)) (i : Nat) : List Int := (List.range i).foldl (fun S j => placeM S (K.getD j default) j) (List.replicate (sizeM K.length) 0)
def layM (K : List (List Int)) : List Int := layGo K K.length
theorem layGo_succ (K : List (List Int)) (i : Nat) : layGo K (i + 1) = placeM (layGo K i) (K.getD i default) i := by simp [layGo, List.range_succ]
theorem placeM_len (S key : List Int) (n : Nat) : (placeM S key n).length = S.length := by unfold placeM; split <;> simp
theorem layGo_len (K : List (List Int)) (i : Nat) : (layGo K i).length = sizeM K.length := by
  induction i with
  | zero => simp [layGo]
  | succ i ih => rw [layGo_succ, placeM_len, ih]
theorem sizeGo_bound (f s n : Nat) (h : s ≤ 8 * n + 8) (h8 : 8 ≤ s) : 8 ≤ sizeGo f s n ∧ sizeGo f s n ≤ 8 * n + 8 := by
  induction f generalizing s with
  | zero => exact ⟨h8, h⟩
  | succ f ih =>
    simp only [sizeGo]
    split
    · exact ih _ (by omega) (by omega)
    · exact ⟨h8, h⟩
theorem sizeM_bound (n : Nat) : 8 ≤ sizeM n ∧ sizeM n ≤ 8 * n + 8 := sizeGo_bound _ _ _ (by omega) (by omega)
def probe (K : List (List Int)) (S key : List Int) (k : Nat) : Option Int :=
  if S.getD (slotN key S.length k) default - 1 < 0 ∨ K.getD (S.getD (slotN key S.length k) default - 1).toNat default = key then some (S.getD (slotN key S.length k) default - 1) else none
def findM (K : List (List Int)) (S key : List Int) : Int := match (List.range S.length).find? (fun k => (probe K S key k).isSome) with
  | some k => (probe K S key k).getD (-1)
  | none => -1
theorem findM_hit {K : List (List Int)} {S key : List Int} {k : Nat} {r : Int} (hk : k < S.length) (h : ∀ j, j < k → probe K S key j = none) (hr : probe K S key k = some r) : findM K S key = r := by
  unfold findM
  rw [find_first (k := k) hk (fun j hj => by simp [h j hj]) (by simp [hr])]
  simp [hr]
theorem findM_miss {K : List (List Int)} {S key : List Int} (h : ∀ j, j < S.length → probe K S key j = none) : findM K S key = -1 := by
  unfold findM
  rw [find_none fun j hj => by simp [h j hj]]
variable {A : Ar} (hA : A = real)
include hA
theorem lay_c (K : List (List Int)) (hK : K.length ≤ 1000000) (hk : ∀ x ∈ K, x.length ≤ 1000000) : PureCalls Try.prog 24 [slP A 1 (encK A) K] (intsP A (layM K)) := by
  have hb := sizeM_bound K.length
  refine PureCalls.of Try.func24 rfl (by kernel_rfl) rfl ?_
  repeat' (first
    | (refine AWp.pass ?_; first
        | refine AWp.seq ?_
        | refine AWp.block ?_
        | refine AWp.skip ?_
        | refine AWp.reg (by conv => lhs; cbv) ?_
        | refine AWp.cond_t rfl ?_
        | refine AWp.cond_f rfl ?_
        | (refine AWp.cond rfl ?_ ?_ <;> intro hc <;> (try rw [hc]) <;> ((try simp (disch := omega) only [zz hA, zb, reduceCtorEq, Bool.false_eq_true, Int.reduceLT, Int.reduceLE, Int.reduceNeg] at hc) <;> (try simp only [zw] at hc)) <;> (try (exfalso; omega)))
        | refine AWp.exit ?_
        | refine AWp.ret ⟨.inr rfl, _, RetOk.ev tabOk (by conv => lhs; cbv), ?_⟩
        | refine AWp.drawK 0 rfl (by decide +kernel) (by conv => lhs; cbv) (by conv => lhs; cbv) ?_
        | refine AWp.drawK 1 rfl (by decide +kernel) (by conv => lhs; cbv) (by conv => lhs; cbv) ?_
        | refine AWp.drawK 2 rfl (by decide +kernel) (by conv => lhs; cbv) (by conv => lhs; cbv) ?_
        | refine AWp.drawK 3 rfl (by decide +kernel) (by conv => lhs; cbv) (by conv => lhs; cbv) ?_
        | refine AWp.drawK 4 rfl (by decide +kernel) (by conv => lhs; cbv) (by conv => lhs; cbv) ?_
        | refine AWp.drawK 5 rfl (by decide +kernel) (by conv => lhs; cbv) (by conv => lhs; cbv) ?_
        | refine AWp.drawK 6 rfl (by decide +kernel) (by conv => lhs; cbv) (by conv => lhs; cbv) ?_
        | refine AWp.drawK 8 rfl (by decide +kernel) (by conv => lhs; cbv) (by conv => lhs; cbv) ?_)
    | (refine AOL.pass ?_; first
        | refine AOL.nil ?_
        | refine AOL.go hA tabOk (by conv => lhs; cbv) ?_
        | refine AOL.one (One.call false rfl rfl rfl (size_c hA K.length _ (by (((try simp (disch := omega) only [zz hA, zb, reduceCtorEq, Bool.false_eq_true, Int.reduceLT, Int.reduceLE, Int.reduceNeg]) <;> (try simp only [zw])) <;> omega)) (by omega)) rfl) ?_
        | refine AOL.one (One.call true rfl rfl rfl (size_c hA K.length _ (by (((try simp (disch := omega) only [zz hA, zb, reduceCtorEq, Bool.false_eq_true, Int.reduceLT, Int.reduceLE, Int.reduceNeg]) <;> (try simp only [zw])) <;> omega)) (by omega)) rfl) ?_
        | ((first | refine AOL.one (One.elemM hA tabOk rfl rfl rfl rfl ?_ ?_) ?_ | refine AOL.one (One.clipM tabOk rfl rfl rfl rfl rfl ?_ ?_) ?_ | refine AOL.one (One.cut_hM hA tabOk rfl rfl rfl rfl ?_ ?_) ?_ | refine AOL.one (One.cut_lM hA tabOk rfl rfl rfl rfl ?_ ?_) ?_ | refine AOL.one (One.cut_lhM hA tabOk rfl rfl rfl rfl rfl ?_ ?_ ?_) ?_ | refine AOL.one (One.quoM hA rfl rfl rfl ?_) ?_ | refine AOL.one (One.remM hA rfl rfl rfl ?_) ?_ | refine AOL.one (One.bitsM hA rfl rfl rfl rfl) ?_ | refine AOL.one (One.shrM hA rfl rfl rfl ?_) ?_ | refine AOL.one (One.byteM hA tabOk rfl rfl rfl rfl rfl ?_ ?_) ?_ | refine AOL.one (One.concatM hA rfl rfl rfl ?_) ?_ | refine AOL.one (One.eqBoolM hA tabOk rfl rfl rfl rfl rfl) ?_ | refine AOL.one (One.neBoolM hA tabOk rfl rfl rfl rfl rfl) ?_ | refine AOL.one (One.lenOwnM hA tabOk rfl rfl rfl rfl) ?_ | refine AOL.one (One.elemOwnM hA tabOk rfl rfl rfl rfl rfl ?_ ?_) ?_ | refine AOL.one (One.loadRatM hA tabOk rfl rfl rfl rfl rfl rfl ?_) ?_ | refine AOL.one (One.appendM hA tabOk _ rfl rfl rfl rfl rfl rfl ?_ ?_) ?_ | refine AOL.one (One.appendMM hA tabOk rfl rfl rfl rfl rfl ?_ ?_) ?_ | refine AOL.one (One.appendOwnM hA tabOk _ rfl rfl rfl rfl rfl rfl rfl ?_ ?_) ?_ | refine AOL.one (One.appendOwnMM hA tabOk rfl rfl rfl rfl rfl rfl ?_ ?_) ?_ | refine AOL.one (One.appendOwn0 hA tabOk rfl rfl rfl rfl rfl rfl ?_ ?_) ?_ | refine AOL.one (One.storeRatM hA tabOk _ rfl rfl rfl rfl rfl rfl rfl rfl (fun _ => rfl) ?_) ?_ | refine AOL.one (One.makeM hA tabOk encI 0 rfl rfl rfl rfl rfl rfl rfl ?_ ?_ ?_) ?_ | refine AOL.one (One.build0 tabOk rfl rfl) ?_ | refine AOL.one (One.fieldRat tabOk rfl rfl rfl rfl (by decide) rfl rfl) ?_) <;> (first | refine AOL.pass ?_ | (((try simp (disch := omega) only [zz hA, zb, reduceCtorEq, Bool.false_eq_true, Int.reduceLT, Int.reduceLE, Int.reduceNeg]) <;> (try simp only [zw])) <;> omega)))
        | refine AOL.goG hA tabOk (by conv => lhs; cbv) ?_
        | refine AOL.go1 hA tabOk (by conv => lhs; cbv) ?_
        | (refine AOL.gs (by conv => lhs; cbv) ?_ ?_ <;> intro hc <;> (fail_if_success (with_reducible have h0 : true = true := hc)) <;> (fail_if_success (with_reducible have h0 : true = false := hc)) <;> (fail_if_success (with_reducible have h0 : false = true := hc)) <;> (fail_if_success (with_reducible have h0 : false = false := hc)) <;> rw [hc] <;> ((try simp (disch := omega) only [zz hA, zb, reduceCtorEq, Bool.false_eq_true, Int.reduceLT, Int.reduceLE, Int.reduceNeg] at hc) <;> (try simp only [zw] at hc)) <;> (try (exfalso; omega))))
    | (refine QS.pass ?_; first
        | refine QS.nil ?_
        | refine QS.go hA tabOk (by conv => lhs; cbv) ?_
        | refine QS.one rfl (One.call false rfl rfl rfl (size_c hA K.length _ (by (((try simp (disch := omega) only [zz hA, zb, reduceCtorEq, Bool.false_eq_true, Int.reduceLT, Int.reduceLE, Int.reduceNeg]) <;> (try simp only [zw])) <;> omega)) (by omega)) rfl) ?_
        | ((first | refine QS.one rfl (One.elemM hA tabOk rfl rfl rfl rfl ?_ ?_) ?_ | refine QS.one rfl (One.clipM tabOk rfl rfl rfl rfl rfl ?_ ?_) ?_ | refine QS.one rfl (One.cut_hM hA tabOk rfl rfl rfl rfl ?_ ?_) ?_ | refine QS.one rfl (One.cut_lM hA tabOk rfl rfl rfl rfl ?_ ?_) ?_ | refine QS.one rfl (One.cut_lhM hA tabOk rfl rfl rfl rfl rfl ?_ ?_ ?_) ?_ | refine QS.one rfl (One.quoM hA rfl rfl rfl ?_) ?_ | refine QS.one rfl (One.remM hA rfl rfl rfl ?_) ?_ | refine QS.one rfl (One.bitsM hA rfl rfl rfl rfl) ?_ | refine QS.one rfl (One.shrM hA rfl rfl rfl ?_) ?_ | refine QS.one rfl (One.byteM hA tabOk rfl rfl rfl rfl rfl ?_ ?_) ?_ | refine QS.one rfl (One.concatM hA rfl rfl rfl ?_) ?_ | refine QS.one rfl (One.eqBoolM hA tabOk rfl rfl rfl rfl rfl) ?_ | refine QS.one rfl (One.neBoolM hA tabOk rfl rfl rfl rfl rfl) ?_ | refine QS.one rfl (One.lenOwnM hA tabOk rfl rfl rfl rfl) ?_ | refine QS.one rfl (One.elemOwnM hA tabOk rfl rfl rfl rfl rfl ?_ ?_) ?_ | refine QS.one rfl (One.loadRatM hA tabOk rfl rfl rfl rfl rfl rfl ?_) ?_ | refine QS.one rfl (One.appendM hA tabOk _ rfl rfl rfl rfl rfl rfl ?_ ?_) ?_ | refine QS.one rfl (One.appendMM hA tabOk rfl rfl rfl rfl rfl ?_ ?_) ?_ | refine QS.one rfl (One.appendOwnM hA tabOk _ rfl rfl rfl rfl rfl rfl rfl ?_ ?_) ?_ | refine QS.one rfl (One.appendOwnMM hA tabOk rfl rfl rfl rfl rfl rfl ?_ ?_) ?_ | refine QS.one rfl (One.appendOwn0 hA tabOk rfl rfl rfl rfl rfl rfl ?_ ?_) ?_ | refine QS.one rfl (One.storeRatM hA tabOk _ rfl rfl rfl rfl rfl rfl rfl rfl (fun _ => rfl) ?_) ?_ | refine QS.one rfl (One.makeM hA tabOk encI 0 rfl rfl rfl rfl rfl rfl rfl ?_ ?_ ?_) ?_ | refine QS.one rfl (One.build0 tabOk rfl rfl) ?_ | refine QS.one rfl (One.fieldRat tabOk rfl rfl rfl rfl (by decide) rfl rfl) ?_) <;> (first | refine QS.pass ?_ | (((try simp (disch := omega) only [zz hA, zb, reduceCtorEq, Bool.false_eq_true, Int.reduceLT, Int.reduceLE, Int.reduceNeg]) <;> (try simp only [zw])) <;> omega)))
        | refine QS.goG hA tabOk (by conv => lhs; cbv) ?_
        | refine QS.go1 hA tabOk (by conv => lhs; cbv) ?_
        | (refine QS.gs (by conv => lhs; cbv) ?_ ?_ <;> intro hc <;> (fail_if_success (with_reducible have h0 : true = true := hc)) <;> (fail_if_success (with_reducible have h0 : true = false := hc)) <;> (fail_if_success (with_reducible have h0 : false = true := hc)) <;> (fail_if_success (with_reducible have h0 : false = false := hc)) <;> rw [hc] <;> ((try simp (disch := omega) only [zz hA, zb, reduceCtorEq, Bool.false_eq_true, Int.reduceLT, Int.reduceLE, Int.reduceNeg] at hc) <;> (try simp only [zw] at hc)) <;> (try (exfalso; omega))))
    | refine Thn.exit ?_
    | refine Blk.here ?_
    | refine Blk.other (by decide) ?_
    | refine ⟨.inl rfl, _, RetOk.ev tabOk (by conv => lhs; cbv), ?_⟩
    | fail)
  refine AWp.loopU (fun k : Nat => [(12, .ic (.lit (.int .i64 (hid A (cN k)))))]) (fun k => [.row true 0 3 1 (hid A (List.map encI (layGo K k)))]) (fun k => K.length - k) (fun k => k ≤ K.length) 0 (by conv => lhs; cbv) (by omega) (by (repeat' (first | exact subE.nil | refine subE.cons rfl ?_ | refine subE.int rfl ?_ ?_ | refine subE.bool rfl ?_ ?_ | refine subE.str rfl ?_ ?_ | refine subE.sl rfl ?_ ?_)) <;> simp [hA, real, hid, cN]) (by simp [hA, real, hid, cN, layGo]) ?_
  intro k hk1
  have hlk := layGo_len K k
  repeat' (first
    | (refine AWp.pass ?_; first
        | refine AWp.seq ?_
        | refine AWp.block ?_
        | refine AWp.skip ?_
        | refine AWp.reg (by conv => lhs; cbv) ?_
        | refine AWp.cond_t rfl ?_
        | refine AWp.cond_f rfl ?_
        | (refine AWp.cond rfl ?_ ?_ <;> intro hc <;> (try rw [hc]) <;> ((try simp (disch := omega) only [zz hA, zb, reduceCtorEq, Bool.false_eq_true, Int.reduceLT, Int.reduceLE, Int.reduceNeg] at hc) <;> (try simp only [zw] at hc)) <;> (try (exfalso; omega)))
        | refine AWp.exit ?_
        | refine AWp.ret ⟨.inr rfl, _, RetOk.ev tabOk (by conv => lhs; cbv), ?_⟩
        | refine AWp.drawK 0 rfl (by decide +kernel) (by conv => lhs; cbv) (by conv => lhs; cbv) ?_
        | refine AWp.drawK 1 rfl (by decide +kernel) (by conv => lhs; cbv) (by conv => lhs; cbv) ?_
        | refine AWp.drawK 2 rfl (by decide +kernel) (by conv => lhs; cbv) (by conv => lhs; cbv) ?_
        | refine AWp.drawK 3 rfl (by decide +kernel) (by conv => lhs; cbv) (by conv => lhs; cbv) ?_
        | refine AWp.drawK 4 rfl (by decide +kernel) (by conv => lhs; cbv) (by conv => lhs; cbv) ?_
        | refine AWp.drawK 5 rfl (by decide +kernel) (by conv => lhs; cbv) (by conv => lhs; cbv) ?_
        | refine AWp.drawK 6 rfl (by decide +kernel) (by conv => lhs; cbv) (by conv => lhs; cbv) ?_
        | refine AWp.drawK 8 rfl (by decide +kernel) (by conv => lhs; cbv) (by conv => lhs; cbv) ?_)
    | (refine AOL.pass ?_; first
        | refine AOL.nil ?_
        | refine AOL.go hA tabOk (by conv => lhs; cbv) ?_
        | ((first | refine AOL.one (One.elemM hA tabOk rfl rfl rfl rfl ?_ ?_) ?_ | refine AOL.one (One.clipM tabOk rfl rfl rfl rfl rfl ?_ ?_) ?_ | refine AOL.one (One.cut_hM hA tabOk rfl rfl rfl rfl ?_ ?_) ?_ | refine AOL.one (One.cut_lM hA tabOk rfl rfl rfl rfl ?_ ?_) ?_ | refine AOL.one (One.cut_lhM hA tabOk rfl rfl rfl rfl rfl ?_ ?_ ?_) ?_ | refine AOL.one (One.quoM hA rfl rfl rfl ?_) ?_ | refine AOL.one (One.remM hA rfl rfl rfl ?_) ?_ | refine AOL.one (One.bitsM hA rfl rfl rfl rfl) ?_ | refine AOL.one (One.shrM hA rfl rfl rfl ?_) ?_ | refine AOL.one (One.byteM hA tabOk rfl rfl rfl rfl rfl ?_ ?_) ?_ | refine AOL.one (One.concatM hA rfl rfl rfl ?_) ?_ | refine AOL.one (One.eqBoolM hA tabOk rfl rfl rfl rfl rfl) ?_ | refine AOL.one (One.neBoolM hA tabOk rfl rfl rfl rfl rfl) ?_ | refine AOL.one (One.lenOwnM hA tabOk rfl rfl rfl rfl) ?_ | refine AOL.one (One.elemOwnM hA tabOk rfl rfl rfl rfl rfl ?_ ?_) ?_ | refine AOL.one (One.loadRatM hA tabOk rfl rfl rfl rfl rfl rfl ?_) ?_ | refine AOL.one (One.appendM hA tabOk _ rfl rfl rfl rfl rfl rfl ?_ ?_) ?_ | refine AOL.one (One.appendMM hA tabOk rfl rfl rfl rfl rfl ?_ ?_) ?_ | refine AOL.one (One.appendOwnM hA tabOk _ rfl rfl rfl rfl rfl rfl rfl ?_ ?_) ?_ | refine AOL.one (One.appendOwnMM hA tabOk rfl rfl rfl rfl rfl rfl ?_ ?_) ?_ | refine AOL.one (One.appendOwn0 hA tabOk rfl rfl rfl rfl rfl rfl ?_ ?_) ?_ | refine AOL.one (One.storeRatM hA tabOk _ rfl rfl rfl rfl rfl rfl rfl rfl (fun _ => rfl) ?_) ?_ | refine AOL.one (One.makeM hA tabOk encI 0 rfl rfl rfl rfl rfl rfl rfl ?_ ?_ ?_) ?_ | refine AOL.one (One.build0 tabOk rfl rfl) ?_ | refine AOL.one (One.fieldRat tabOk rfl rfl rfl rfl (by decide) rfl rfl) ?_) <;> (first | refine AOL.pass ?_ | (((try simp (disch := omega) only [zz hA, zb, reduceCtorEq, Bool.false_eq_true, Int.reduceLT, Int.reduceLE, Int.reduceNeg]) <;> (try simp only [zw])) <;> omega)))
        | refine AOL.goG hA tabOk (by conv => lhs; cbv) ?_
        | refine AOL.go1 hA tabOk (by conv => lhs; cbv) ?_
        | (refine AOL.gs (by conv => lhs; cbv) ?_ ?_ <;> intro hc <;> (fail_if_success (with_reducible have h0 : true = true := hc)) <;> (fail_if_success (with_reducible have h0 : true = false := hc)) <;> (fail_if_success (with_reducible have h0 : false = true := hc)) <;> (fail_if_success (with_reducible have h0 : false = false := hc)) <;> rw [hc] <;> ((try simp (disch := omega) only [zz hA, zb, reduceCtorEq, Bool.false_eq_true, Int.reduceLT, Int.reduceLE, Int.reduceNeg] at hc) <;> (try simp only [zw] at hc)) <;> (try (exfalso; omega))))
    | (refine QS.pass ?_; first
        | refine QS.nil ?_
        | refine QS.go hA tabOk (by conv => lhs; cbv) ?_
        | ((first | refine QS.one rfl (One.elemM hA tabOk rfl rfl rfl rfl ?_ ?_) ?_ | refine QS.one rfl (One.clipM tabOk rfl rfl rfl rfl rfl ?_ ?_) ?_ | refine QS.one rfl (One.cut_hM hA tabOk rfl rfl rfl rfl ?_ ?_) ?_ | refine QS.one rfl (One.cut_lM hA tabOk rfl rfl rfl rfl ?_ ?_) ?_ | refine QS.one rfl (One.cut_lhM hA tabOk rfl rfl rfl rfl rfl ?_ ?_ ?_) ?_ | refine QS.one rfl (One.quoM hA rfl rfl rfl ?_) ?_ | refine QS.one rfl (One.remM hA rfl rfl rfl ?_) ?_ | refine QS.one rfl (One.bitsM hA rfl rfl rfl rfl) ?_ | refine QS.one rfl (One.shrM hA rfl rfl rfl ?_) ?_ | refine QS.one rfl (One.byteM hA tabOk rfl rfl rfl rfl rfl ?_ ?_) ?_ | refine QS.one rfl (One.concatM hA rfl rfl rfl ?_) ?_ | refine QS.one rfl (One.eqBoolM hA tabOk rfl rfl rfl rfl rfl) ?_ | refine QS.one rfl (One.neBoolM hA tabOk rfl rfl rfl rfl rfl) ?_ | refine QS.one rfl (One.lenOwnM hA tabOk rfl rfl rfl rfl) ?_ | refine QS.one rfl (One.elemOwnM hA tabOk rfl rfl rfl rfl rfl ?_ ?_) ?_ | refine QS.one rfl (One.loadRatM hA tabOk rfl rfl rfl rfl rfl rfl ?_) ?_ | refine QS.one rfl (One.appendM hA tabOk _ rfl rfl rfl rfl rfl rfl ?_ ?_) ?_ | refine QS.one rfl (One.appendMM hA tabOk rfl rfl rfl rfl rfl ?_ ?_) ?_ | refine QS.one rfl (One.appendOwnM hA tabOk _ rfl rfl rfl rfl rfl rfl rfl ?_ ?_) ?_ | refine QS.one rfl (One.appendOwnMM hA tabOk rfl rfl rfl rfl rfl rfl ?_ ?_) ?_ | refine QS.one rfl (One.appendOwn0 hA tabOk rfl rfl rfl rfl rfl rfl ?_ ?_) ?_ | refine QS.one rfl (One.storeRatM hA tabOk _ rfl rfl rfl rfl rfl rfl rfl rfl (fun _ => rfl) ?_) ?_ | refine QS.one rfl (One.makeM hA tabOk encI 0 rfl rfl rfl rfl rfl rfl rfl ?_ ?_ ?_) ?_ | refine QS.one rfl (One.build0 tabOk rfl rfl) ?_ | refine QS.one rfl (One.fieldRat tabOk rfl rfl rfl rfl (by decide) rfl rfl) ?_) <;> (first | refine QS.pass ?_ | (((try simp (disch := omega) only [zz hA, zb, reduceCtorEq, Bool.false_eq_true, Int.reduceLT, Int.reduceLE, Int.reduceNeg]) <;> (try simp only [zw])) <;> omega)))
        | refine QS.goG hA tabOk (by conv => lhs; cbv) ?_
        | refine QS.go1 hA tabOk (by conv => lhs; cbv) ?_
        | (refine QS.gs (by conv => lhs; cbv) ?_ ?_ <;> intro hc <;> (fail_if_success (with_reducible have h0 : true = true := hc)) <;> (fail_if_success (with_reducible have h0 : true = false := hc)) <;> (fail_if_success (with_reducible have h0 : false = true := hc)) <;> (fail_if_success (with_reducible have h0 : false = false := hc)) <;> rw [hc] <;> ((try simp (disch := omega) only [zz hA, zb, reduceCtorEq, Bool.false_eq_true, Int.reduceLT, Int.reduceLE, Int.reduceNeg] at hc) <;> (try simp only [zw] at hc)) <;> (try (exfalso; omega))))
    | refine Thn.exit ?_
    | refine Blk.here ?_
    | refine Blk.other (by decide) ?_
    | refine ⟨.inl rfl, _, RetOk.ev tabOk (by conv => lhs; cbv), ?_⟩
    | fail)
  · refine AOL.scall rfl rfl (place_0 hA (layGo K k) _ k 0 (by omega) (by omega) ?_ (by omega)) ?_
    · refine hk _ ?_
      ((try simp (disch := omega) only [zz hA, zb, reduceCtorEq, Bool.false_eq_true, Int.reduceLT, Int.reduceLE, Int.reduceNeg]) <;> (try simp only [zw]))
      rw [List.getD_eq_getElem?_getD, List.getElem?_eq_getElem (by omega)]
      exact List.getElem_mem _
    rintro y st' ⟨rfl, rfl⟩
    repeat' (first
      | (refine AWp.pass ?_; first
          | refine AWp.seq ?_
          | refine AWp.block ?_
          | refine AWp.skip ?_
          | refine AWp.reg (by conv => lhs; cbv) ?_
          | refine AWp.cond_t rfl ?_
          | refine AWp.cond_f rfl ?_
          | (refine AWp.cond rfl ?_ ?_ <;> intro hc <;> (try rw [hc]) <;> ((try simp (disch := omega) only [zz hA, zb, reduceCtorEq, Bool.false_eq_true, Int.reduceLT, Int.reduceLE, Int.reduceNeg] at hc) <;> (try simp only [zw] at hc)) <;> (try (exfalso; omega)))
          | refine AWp.exit ?_
          | refine AWp.ret ⟨.inr rfl, _, RetOk.ev tabOk (by conv => lhs; cbv), ?_⟩
          | refine AWp.drawK 0 rfl (by decide +kernel) (by conv => lhs; cbv) (by conv => lhs; cbv) ?_
          | refine AWp.drawK 1 rfl (by decide +kernel) (by conv => lhs; cbv) (by conv => lhs; cbv) ?_
          | refine AWp.drawK 2 rfl (by decide +kernel) (by conv => lhs; cbv) (by conv => lhs; cbv) ?_
          | refine AWp.drawK 3 rfl (by decide +kernel) (by conv => lhs; cbv) (by conv => lhs; cbv) ?_
          | refine AWp.drawK 4 rfl (by decide +kernel) (by conv => lhs; cbv) (by conv => lhs; cbv) ?_
          | refine AWp.drawK 5 rfl (by decide +kernel) (by conv => lhs; cbv) (by conv => lhs; cbv) ?_
          | refine AWp.drawK 6 rfl (by decide +kernel) (by conv => lhs; cbv) (by conv => lhs; cbv) ?_
          | refine AWp.drawK 8 rfl (by decide +kernel) (by conv => lhs; cbv) (by conv => lhs; cbv) ?_)
      | (refine AOL.pass ?_; first
          | refine AOL.nil ?_
          | refine AOL.go hA tabOk (by conv => lhs; cbv) ?_
          | ((first | refine AOL.one (One.elemM hA tabOk rfl rfl rfl rfl ?_ ?_) ?_ | refine AOL.one (One.clipM tabOk rfl rfl rfl rfl rfl ?_ ?_) ?_ | refine AOL.one (One.cut_hM hA tabOk rfl rfl rfl rfl ?_ ?_) ?_ | refine AOL.one (One.cut_lM hA tabOk rfl rfl rfl rfl ?_ ?_) ?_ | refine AOL.one (One.cut_lhM hA tabOk rfl rfl rfl rfl rfl ?_ ?_ ?_) ?_ | refine AOL.one (One.quoM hA rfl rfl rfl ?_) ?_ | refine AOL.one (One.remM hA rfl rfl rfl ?_) ?_ | refine AOL.one (One.bitsM hA rfl rfl rfl rfl) ?_ | refine AOL.one (One.shrM hA rfl rfl rfl ?_) ?_ | refine AOL.one (One.byteM hA tabOk rfl rfl rfl rfl rfl ?_ ?_) ?_ | refine AOL.one (One.concatM hA rfl rfl rfl ?_) ?_ | refine AOL.one (One.eqBoolM hA tabOk rfl rfl rfl rfl rfl) ?_ | refine AOL.one (One.neBoolM hA tabOk rfl rfl rfl rfl rfl) ?_ | refine AOL.one (One.lenOwnM hA tabOk rfl rfl rfl rfl) ?_ | refine AOL.one (One.elemOwnM hA tabOk rfl rfl rfl rfl rfl ?_ ?_) ?_ | refine AOL.one (One.loadRatM hA tabOk rfl rfl rfl rfl rfl rfl ?_) ?_ | refine AOL.one (One.appendM hA tabOk _ rfl rfl rfl rfl rfl rfl ?_ ?_) ?_ | refine AOL.one (One.appendMM hA tabOk rfl rfl rfl rfl rfl ?_ ?_) ?_ | refine AOL.one (One.appendOwnM hA tabOk _ rfl rfl rfl rfl rfl rfl rfl ?_ ?_) ?_ | refine AOL.one (One.appendOwnMM hA tabOk rfl rfl rfl rfl rfl rfl ?_ ?_) ?_ | refine AOL.one (One.appendOwn0 hA tabOk rfl rfl rfl rfl rfl rfl ?_ ?_) ?_ | refine AOL.one (One.storeRatM hA tabOk _ rfl rfl rfl rfl rfl rfl rfl rfl (fun _ => rfl) ?_) ?_ | refine AOL.one (One.makeM hA tabOk encI 0 rfl rfl rfl rfl rfl rfl rfl ?_ ?_ ?_) ?_ | refine AOL.one (One.build0 tabOk rfl rfl) ?_ | refine AOL.one (One.fieldRat tabOk rfl rfl rfl rfl (by decide) rfl rfl) ?_) <;> (first | refine AOL.pass ?_ | (((try simp (disch := omega) only [zz hA, zb, reduceCtorEq, Bool.false_eq_true, Int.reduceLT, Int.reduceLE, Int.reduceNeg]) <;> (try simp only [zw])) <;> omega)))
          | refine AOL.goG hA tabOk (by conv => lhs; cbv) ?_
          | refine AOL.go1 hA tabOk (by conv => lhs; cbv) ?_
          | (refine AOL.gs (by conv => lhs; cbv) ?_ ?_ <;> intro hc <;> (fail_if_success (with_reducible have h0 : true = true := hc)) <;> (fail_if_success (with_reducible have h0 : true = false := hc)) <;> (fail_if_success (with_reducible have h0 : false = true := hc)) <;> (fail_if_success (with_reducible have h0 : false = false := hc)) <;> rw [hc] <;> ((try simp (disch := omega) only [zz hA, zb, reduceCtorEq, Bool.false_eq_true, Int.reduceLT, Int.reduceLE, Int.reduceNeg] at hc) <;> (try simp only [zw] at hc)) <;> (try (exfalso; omega))))
      | (refine QS.pass ?_; first
          | refine QS.nil ?_
          | refine QS.go hA tabOk (by conv => lhs; cbv) ?_
          | ((first | refine QS.one rfl (One.elemM hA tabOk rfl rfl rfl rfl ?_ ?_) ?_ | refine QS.one rfl (One.clipM tabOk rfl rfl rfl rfl rfl ?_ ?_) ?_ | refine QS.one rfl (One.cut_hM hA tabOk rfl rfl rfl rfl ?_ ?_) ?_ | refine QS.one rfl (One.cut_lM hA tabOk rfl rfl rfl rfl ?_ ?_) ?_ | refine QS.one rfl (One.cut_lhM hA tabOk rfl rfl rfl rfl rfl ?_ ?_ ?_) ?_ | refine QS.one rfl (One.quoM hA rfl rfl rfl ?_) ?_ | refine QS.one rfl (One.remM hA rfl rfl rfl ?_) ?_ | refine QS.one rfl (One.bitsM hA rfl rfl rfl rfl) ?_ | refine QS.one rfl (One.shrM hA rfl rfl rfl ?_) ?_ | refine QS.one rfl (One.byteM hA tabOk rfl rfl rfl rfl rfl ?_ ?_) ?_ | refine QS.one rfl (One.concatM hA rfl rfl rfl ?_) ?_ | refine QS.one rfl (One.eqBoolM hA tabOk rfl rfl rfl rfl rfl) ?_ | refine QS.one rfl (One.neBoolM hA tabOk rfl rfl rfl rfl rfl) ?_ | refine QS.one rfl (One.lenOwnM hA tabOk rfl rfl rfl rfl) ?_ | refine QS.one rfl (One.elemOwnM hA tabOk rfl rfl rfl rfl rfl ?_ ?_) ?_ | refine QS.one rfl (One.loadRatM hA tabOk rfl rfl rfl rfl rfl rfl ?_) ?_ | refine QS.one rfl (One.appendM hA tabOk _ rfl rfl rfl rfl rfl rfl ?_ ?_) ?_ | refine QS.one rfl (One.appendMM hA tabOk rfl rfl rfl rfl rfl ?_ ?_) ?_ | refine QS.one rfl (One.appendOwnM hA tabOk _ rfl rfl rfl rfl rfl rfl rfl ?_ ?_) ?_ | refine QS.one rfl (One.appendOwnMM hA tabOk rfl rfl rfl rfl rfl rfl ?_ ?_) ?_ | refine QS.one rfl (One.appendOwn0 hA tabOk rfl rfl rfl rfl rfl rfl ?_ ?_) ?_ | refine QS.one rfl (One.storeRatM hA tabOk _ rfl rfl rfl rfl rfl rfl rfl rfl (fun _ => rfl) ?_) ?_ | refine QS.one rfl (One.makeM hA tabOk encI 0 rfl rfl rfl rfl rfl rfl rfl ?_ ?_ ?_) ?_ | refine QS.one rfl (One.build0 tabOk rfl rfl) ?_ | refine QS.one rfl (One.fieldRat tabOk rfl rfl rfl rfl (by decide) rfl rfl) ?_) <;> (first | refine QS.pass ?_ | (((try simp (disch := omega) only [zz hA, zb, reduceCtorEq, Bool.false_eq_true, Int.reduceLT, Int.reduceLE, Int.reduceNeg]) <;> (try simp only [zw])) <;> omega)))
          | refine QS.goG hA tabOk (by conv => lhs; cbv) ?_
          | refine QS.go1 hA tabOk (by conv => lhs; cbv) ?_
          | (refine QS.gs (by conv => lhs; cbv) ?_ ?_ <;> intro hc <;> (fail_if_success (with_reducible have h0 : true = true := hc)) <;> (fail_if_success (with_reducible have h0 : true = false := hc)) <;> (fail_if_success (with_reducible have h0 : false = true := hc)) <;> (fail_if_success (with_reducible have h0 : false = false := hc)) <;> rw [hc] <;> ((try simp (disch := omega) only [zz hA, zb, reduceCtorEq, Bool.false_eq_true, Int.reduceLT, Int.reduceLE, Int.reduceNeg] at hc) <;> (try simp only [zw] at hc)) <;> (try (exfalso; omega))))
      | refine Thn.exit ?_
      | refine Blk.here ?_
      | refine Blk.other (by decide) ?_
      | refine ⟨.inl rfl, _, RetOk.ev tabOk (by conv => lhs; cbv), ?_⟩
      | fail)
    refine ⟨k + 1, ?_, ?_, rfl, ?_, ?_, (by repeat' (first | exact subE.nil | refine subE.cons rfl ?_))⟩ <;> (try omega)
    · rw [layGo_succ]
      ((try simp (disch := omega) only [zz hA, zb, reduceCtorEq, Bool.false_eq_true, Int.reduceLT, Int.reduceLE, Int.reduceNeg]) <;> (try simp only [zw]))
    · (repeat' (first | exact subE.nil | refine subE.cons rfl ?_ | refine subE.int rfl ?_ ?_ | refine subE.bool rfl ?_ ?_ | refine subE.str rfl ?_ ?_ | refine subE.sl rfl ?_ ?_))
      (((try simp (disch := omega) only [zz hA, zb, reduceCtorEq, Bool.false_eq_true, Int.reduceLT, Int.reduceLE, Int.reduceNeg]) <;> (try simp only [zw])) <;> omega)
  · refine rPV_then (by conv => lhs; cbv) ?_
    ((try simp (disch := omega) only [zz hA, zb, reduceCtorEq, Bool.false_eq_true, Int.reduceLT, Int.reduceLE, Int.reduceNeg]) <;> (try simp only [zw]))
    rw [layM, show K.length = k by omega]
    simp [hid, real, hA]
theorem find_c (K : List (List Int)) (S key : List Int) (hK : K.length ≤ 1000000) (hS : ∀ x ∈ S, x ≤ K.length ∧ 0 ≤ x) (hs : S.length ≤ 100000000) (hk : key.length ≤ 1000000) : PureCalls Try.prog 20 [keyedPV A K S, intsP A key] (IP (hid A (findM K S key))) := by
  refine PureCalls.of Try.func20 rfl (by kernel_rfl) rfl ?_
  repeat' (first
    | (refine AWp.pass ?_; first
        | refine AWp.seq ?_
        | refine AWp.block ?_
        | refine AWp.skip ?_
        | refine AWp.reg (by conv => lhs; cbv) ?_
        | refine AWp.cond_t rfl ?_
        | refine AWp.cond_f rfl ?_
        | (refine AWp.cond rfl ?_ ?_ <;> intro hc <;> (try rw [hc]) <;> ((try simp (disch := omega) only [zz hA, zb, reduceCtorEq, Bool.false_eq_true, Int.reduceLT, Int.reduceLE, Int.reduceNeg] at hc) <;> (try simp only [zw] at hc)) <;> (try (exfalso; omega)))
        | refine AWp.exit ?_
        | refine AWp.ret ⟨.inr rfl, _, RetOk.ev tabOk (by conv => lhs; cbv), ?_⟩
        | refine AWp.drawK 0 rfl (by decide +kernel) (by conv => lhs; cbv) (by conv => lhs; cbv) ?_
        | refine AWp.drawK 1 rfl (by decide +kernel) (by conv => lhs; cbv) (by conv => lhs; cbv) ?_
        | refine AWp.drawK 2 rfl (by decide +kernel) (by conv => lhs; cbv) (by conv => lhs; cbv) ?_
        | refine AWp.drawK 3 rfl (by decide +kernel) (by conv => lhs; cbv) (by conv => lhs; cbv) ?_
        | refine AWp.drawK 4 rfl (by decide +kernel) (by conv => lhs; cbv) (by conv => lhs; cbv) ?_
        | refine AWp.drawK 5 rfl (by decide +kernel) (by conv => lhs; cbv) (by conv => lhs; cbv) ?_
        | refine AWp.drawK 6 rfl (by decide +kernel) (by conv => lhs; cbv) (by conv => lhs; cbv) ?_
        | refine AWp.drawK 8 rfl (by decide +kernel) (by conv => lhs; cbv) (by conv => lhs; cbv) ?_)
    | (refine AOL.pass ?_; first
        | refine AOL.nil ?_
        | refine AOL.go hA tabOk (by conv => lhs; cbv) ?_
        | ((first | refine AOL.one (One.elemM hA tabOk rfl rfl rfl rfl ?_ ?_) ?_ | refine AOL.one (One.clipM tabOk rfl rfl rfl rfl rfl ?_ ?_) ?_ | refine AOL.one (One.cut_hM hA tabOk rfl rfl rfl rfl ?_ ?_) ?_ | refine AOL.one (One.cut_lM hA tabOk rfl rfl rfl rfl ?_ ?_) ?_ | refine AOL.one (One.cut_lhM hA tabOk rfl rfl rfl rfl rfl ?_ ?_ ?_) ?_ | refine AOL.one (One.quoM hA rfl rfl rfl ?_) ?_ | refine AOL.one (One.remM hA rfl rfl rfl ?_) ?_ | refine AOL.one (One.bitsM hA rfl rfl rfl rfl) ?_ | refine AOL.one (One.shrM hA rfl rfl rfl ?_) ?_ | refine AOL.one (One.byteM hA tabOk rfl rfl rfl rfl rfl ?_ ?_) ?_ | refine AOL.one (One.concatM hA rfl rfl rfl ?_) ?_ | refine AOL.one (One.eqBoolM hA tabOk rfl rfl rfl rfl rfl) ?_ | refine AOL.one (One.neBoolM hA tabOk rfl rfl rfl rfl rfl) ?_ | refine AOL.one (One.lenOwnM hA tabOk rfl rfl rfl rfl) ?_ | refine AOL.one (One.elemOwnM hA tabOk rfl rfl rfl rfl rfl ?_ ?_) ?_ | refine AOL.one (One.loadRatM hA tabOk rfl rfl rfl rfl rfl rfl ?_) ?_ | refine AOL.one (One.appendM hA tabOk _ rfl rfl rfl rfl rfl rfl ?_ ?_) ?_ | refine AOL.one (One.appendMM hA tabOk rfl rfl rfl rfl rfl ?_ ?_) ?_ | refine AOL.one (One.appendOwnM hA tabOk _ rfl rfl rfl rfl rfl rfl rfl ?_ ?_) ?_ | refine AOL.one (One.appendOwnMM hA tabOk rfl rfl rfl rfl rfl rfl ?_ ?_) ?_ | refine AOL.one (One.appendOwn0 hA tabOk rfl rfl rfl rfl rfl rfl ?_ ?_) ?_ | refine AOL.one (One.storeRatM hA tabOk _ rfl rfl rfl rfl rfl rfl rfl rfl (fun _ => rfl) ?_) ?_ | refine AOL.one (One.makeM hA tabOk encI 0 rfl rfl rfl rfl rfl rfl rfl ?_ ?_ ?_) ?_ | refine AOL.one (One.build0 tabOk rfl rfl) ?_ | refine AOL.one (One.fieldRat tabOk rfl rfl rfl rfl (by decide) rfl rfl) ?_) <;> (first | refine AOL.pass ?_ | (((try simp (disch := omega) only [zz hA, zb, reduceCtorEq, Bool.false_eq_true, Int.reduceLT, Int.reduceLE, Int.reduceNeg]) <;> (try simp only [zw])) <;> omega)))
        | refine AOL.goG hA tabOk (by conv => lhs; cbv) ?_
        | refine AOL.go1 hA tabOk (by conv => lhs; cbv) ?_
        | (refine AOL.gs (by conv => lhs; cbv) ?_ ?_ <;> intro hc <;> (fail_if_success (with_reducible have h0 : true = true := hc)) <;> (fail_if_success (with_reducible have h0 : true = false := hc)) <;> (fail_if_success (with_reducible have h0 : false = true := hc)) <;> (fail_if_success (with_reducible have h0 : false = false := hc)) <;> rw [hc] <;> ((try simp (disch := omega) only [zz hA, zb, reduceCtorEq, Bool.false_eq_true, Int.reduceLT, Int.reduceLE, Int.reduceNeg] at hc) <;> (try simp only [zw] at hc)) <;> (try (exfalso; omega))))
    | (refine QS.pass ?_; first
        | refine QS.nil ?_
        | refine QS.go hA tabOk (by conv => lhs; cbv) ?_
        | ((first | refine QS.one rfl (One.elemM hA tabOk rfl rfl rfl rfl ?_ ?_) ?_ | refine QS.one rfl (One.clipM tabOk rfl rfl rfl rfl rfl ?_ ?_) ?_ | refine QS.one rfl (One.cut_hM hA tabOk rfl rfl rfl rfl ?_ ?_) ?_ | refine QS.one rfl (One.cut_lM hA tabOk rfl rfl rfl rfl ?_ ?_) ?_ | refine QS.one rfl (One.cut_lhM hA tabOk rfl rfl rfl rfl rfl ?_ ?_ ?_) ?_ | refine QS.one rfl (One.quoM hA rfl rfl rfl ?_) ?_ | refine QS.one rfl (One.remM hA rfl rfl rfl ?_) ?_ | refine QS.one rfl (One.bitsM hA rfl rfl rfl rfl) ?_ | refine QS.one rfl (One.shrM hA rfl rfl rfl ?_) ?_ | refine QS.one rfl (One.byteM hA tabOk rfl rfl rfl rfl rfl ?_ ?_) ?_ | refine QS.one rfl (One.concatM hA rfl rfl rfl ?_) ?_ | refine QS.one rfl (One.eqBoolM hA tabOk rfl rfl rfl rfl rfl) ?_ | refine QS.one rfl (One.neBoolM hA tabOk rfl rfl rfl rfl rfl) ?_ | refine QS.one rfl (One.lenOwnM hA tabOk rfl rfl rfl rfl) ?_ | refine QS.one rfl (One.elemOwnM hA tabOk rfl rfl rfl rfl rfl ?_ ?_) ?_ | refine QS.one rfl (One.loadRatM hA tabOk rfl rfl rfl rfl rfl rfl ?_) ?_ | refine QS.one rfl (One.appendM hA tabOk _ rfl rfl rfl rfl rfl rfl ?_ ?_) ?_ | refine QS.one rfl (One.appendMM hA tabOk rfl rfl rfl rfl rfl ?_ ?_) ?_ | refine QS.one rfl (One.appendOwnM hA tabOk _ rfl rfl rfl rfl rfl rfl rfl ?_ ?_) ?_ | refine QS.one rfl (One.appendOwnMM hA tabOk rfl rfl rfl rfl rfl rfl ?_ ?_) ?_ | refine QS.one rfl (One.appendOwn0 hA tabOk rfl rfl rfl rfl rfl rfl ?_ ?_) ?_ | refine QS.one rfl (One.storeRatM hA tabOk _ rfl rfl rfl rfl rfl rfl rfl rfl (fun _ => rfl) ?_) ?_ | refine QS.one rfl (One.makeM hA tabOk encI 0 rfl rfl rfl rfl rfl rfl rfl ?_ ?_ ?_) ?_ | refine QS.one rfl (One.build0 tabOk rfl rfl) ?_ | refine QS.one rfl (One.fieldRat tabOk rfl rfl rfl rfl (by decide) rfl rfl) ?_) <;> (first | refine QS.pass ?_ | (((try simp (disch := omega) only [zz hA, zb, reduceCtorEq, Bool.false_eq_true, Int.reduceLT, Int.reduceLE, Int.reduceNeg]) <;> (try simp only [zw])) <;> omega)))
        | refine QS.goG hA tabOk (by conv => lhs; cbv) ?_
        | refine QS.go1 hA tabOk (by conv => lhs; cbv) ?_
        | (refine QS.gs (by conv => lhs; cbv) ?_ ?_ <;> intro hc <;> (fail_if_success (with_reducible have h0 : true = true := hc)) <;> (fail_if_success (with_reducible have h0 : true = false := hc)) <;> (fail_if_success (with_reducible have h0 : false = true := hc)) <;> (fail_if_success (with_reducible have h0 : false = false := hc)) <;> rw [hc] <;> ((try simp (disch := omega) only [zz hA, zb, reduceCtorEq, Bool.false_eq_true, Int.reduceLT, Int.reduceLE, Int.reduceNeg] at hc) <;> (try simp only [zw] at hc)) <;> (try (exfalso; omega))))
    | refine Thn.exit ?_
    | refine Blk.here ?_
    | refine Blk.other (by decide) ?_
    | refine ⟨.inl rfl, _, RetOk.ev tabOk (by conv => lhs; cbv), ?_⟩
    | fail)
  · refine rPV_then (by conv => lhs; cbv) ?_
    ((try simp (disch := omega) only [zz hA, zb, reduceCtorEq, Bool.false_eq_true, Int.reduceLT, Int.reduceLE, Int.reduceNeg]) <;> (try simp only [zw]))
    rw [findM_miss fun j hj => by omega]
  · refine AOL.scall rfl rfl (round_3 hA key _ _ _ _) ?_
    rintro y st' ⟨rfl, rfl⟩
    repeat' (first
      | (refine AWp.pass ?_; first
          | refine AWp.seq ?_
          | refine AWp.block ?_
          | refine AWp.skip ?_
          | refine AWp.reg (by conv => lhs; cbv) ?_
          | refine AWp.cond_t rfl ?_
          | refine AWp.cond_f rfl ?_
          | (refine AWp.cond rfl ?_ ?_ <;> intro hc <;> (try rw [hc]) <;> ((try simp (disch := omega) only [zz hA, zb, reduceCtorEq, Bool.false_eq_true, Int.reduceLT, Int.reduceLE, Int.reduceNeg] at hc) <;> (try simp only [zw] at hc)) <;> (try (exfalso; omega)))
          | refine AWp.exit ?_
          | refine AWp.ret ⟨.inr rfl, _, RetOk.ev tabOk (by conv => lhs; cbv), ?_⟩
          | refine AWp.drawK 0 rfl (by decide +kernel) (by conv => lhs; cbv) (by conv => lhs; cbv) ?_
          | refine AWp.drawK 1 rfl (by decide +kernel) (by conv => lhs; cbv) (by conv => lhs; cbv) ?_
          | refine AWp.drawK 2 rfl (by decide +kernel) (by conv => lhs; cbv) (by conv => lhs; cbv) ?_
          | refine AWp.drawK 3 rfl (by decide +kernel) (by conv => lhs; cbv) (by conv => lhs; cbv) ?_
          | refine AWp.drawK 4 rfl (by decide +kernel) (by conv => lhs; cbv) (by conv => lhs; cbv) ?_
          | refine AWp.drawK 5 rfl (by decide +kernel) (by conv => lhs; cbv) (by conv => lhs; cbv) ?_
          | refine AWp.drawK 6 rfl (by decide +kernel) (by conv => lhs; cbv) (by conv => lhs; cbv) ?_
          | refine AWp.drawK 8 rfl (by decide +kernel) (by conv => lhs; cbv) (by conv => lhs; cbv) ?_)
      | (refine AOL.pass ?_; first
          | refine AOL.nil ?_
          | refine AOL.go hA tabOk (by conv => lhs; cbv) ?_
          | ((first | refine AOL.one (One.elemM hA tabOk rfl rfl rfl rfl ?_ ?_) ?_ | refine AOL.one (One.clipM tabOk rfl rfl rfl rfl rfl ?_ ?_) ?_ | refine AOL.one (One.cut_hM hA tabOk rfl rfl rfl rfl ?_ ?_) ?_ | refine AOL.one (One.cut_lM hA tabOk rfl rfl rfl rfl ?_ ?_) ?_ | refine AOL.one (One.cut_lhM hA tabOk rfl rfl rfl rfl rfl ?_ ?_ ?_) ?_ | refine AOL.one (One.quoM hA rfl rfl rfl ?_) ?_ | refine AOL.one (One.remM hA rfl rfl rfl ?_) ?_ | refine AOL.one (One.bitsM hA rfl rfl rfl rfl) ?_ | refine AOL.one (One.shrM hA rfl rfl rfl ?_) ?_ | refine AOL.one (One.byteM hA tabOk rfl rfl rfl rfl rfl ?_ ?_) ?_ | refine AOL.one (One.concatM hA rfl rfl rfl ?_) ?_ | refine AOL.one (One.eqBoolM hA tabOk rfl rfl rfl rfl rfl) ?_ | refine AOL.one (One.neBoolM hA tabOk rfl rfl rfl rfl rfl) ?_ | refine AOL.one (One.lenOwnM hA tabOk rfl rfl rfl rfl) ?_ | refine AOL.one (One.elemOwnM hA tabOk rfl rfl rfl rfl rfl ?_ ?_) ?_ | refine AOL.one (One.loadRatM hA tabOk rfl rfl rfl rfl rfl rfl ?_) ?_ | refine AOL.one (One.appendM hA tabOk _ rfl rfl rfl rfl rfl rfl ?_ ?_) ?_ | refine AOL.one (One.appendMM hA tabOk rfl rfl rfl rfl rfl ?_ ?_) ?_ | refine AOL.one (One.appendOwnM hA tabOk _ rfl rfl rfl rfl rfl rfl rfl ?_ ?_) ?_ | refine AOL.one (One.appendOwnMM hA tabOk rfl rfl rfl rfl rfl rfl ?_ ?_) ?_ | refine AOL.one (One.appendOwn0 hA tabOk rfl rfl rfl rfl rfl rfl ?_ ?_) ?_ | refine AOL.one (One.storeRatM hA tabOk _ rfl rfl rfl rfl rfl rfl rfl rfl (fun _ => rfl) ?_) ?_ | refine AOL.one (One.makeM hA tabOk encI 0 rfl rfl rfl rfl rfl rfl rfl ?_ ?_ ?_) ?_ | refine AOL.one (One.build0 tabOk rfl rfl) ?_ | refine AOL.one (One.fieldRat tabOk rfl rfl rfl rfl (by decide) rfl rfl) ?_) <;> (first | refine AOL.pass ?_ | (((try simp (disch := omega) only [zz hA, zb, reduceCtorEq, Bool.false_eq_true, Int.reduceLT, Int.reduceLE, Int.reduceNeg]) <;> (try simp only [zw])) <;> omega)))
          | refine AOL.goG hA tabOk (by conv => lhs; cbv) ?_
          | refine AOL.go1 hA tabOk (by conv => lhs; cbv) ?_
          | (refine AOL.gs (by conv => lhs; cbv) ?_ ?_ <;> intro hc <;> (fail_if_success (with_reducible have h0 : true = true := hc)) <;> (fail_if_success (with_reducible have h0 : true = false := hc)) <;> (fail_if_success (with_reducible have h0 : false = true := hc)) <;> (fail_if_success (with_reducible have h0 : false = false := hc)) <;> rw [hc] <;> ((try simp (disch := omega) only [zz hA, zb, reduceCtorEq, Bool.false_eq_true, Int.reduceLT, Int.reduceLE, Int.reduceNeg] at hc) <;> (try simp only [zw] at hc)) <;> (try (exfalso; omega))))
      | (refine QS.pass ?_; first
          | refine QS.nil ?_
          | refine QS.go hA tabOk (by conv => lhs; cbv) ?_
          | ((first | refine QS.one rfl (One.elemM hA tabOk rfl rfl rfl rfl ?_ ?_) ?_ | refine QS.one rfl (One.clipM tabOk rfl rfl rfl rfl rfl ?_ ?_) ?_ | refine QS.one rfl (One.cut_hM hA tabOk rfl rfl rfl rfl ?_ ?_) ?_ | refine QS.one rfl (One.cut_lM hA tabOk rfl rfl rfl rfl ?_ ?_) ?_ | refine QS.one rfl (One.cut_lhM hA tabOk rfl rfl rfl rfl rfl ?_ ?_ ?_) ?_ | refine QS.one rfl (One.quoM hA rfl rfl rfl ?_) ?_ | refine QS.one rfl (One.remM hA rfl rfl rfl ?_) ?_ | refine QS.one rfl (One.bitsM hA rfl rfl rfl rfl) ?_ | refine QS.one rfl (One.shrM hA rfl rfl rfl ?_) ?_ | refine QS.one rfl (One.byteM hA tabOk rfl rfl rfl rfl rfl ?_ ?_) ?_ | refine QS.one rfl (One.concatM hA rfl rfl rfl ?_) ?_ | refine QS.one rfl (One.eqBoolM hA tabOk rfl rfl rfl rfl rfl) ?_ | refine QS.one rfl (One.neBoolM hA tabOk rfl rfl rfl rfl rfl) ?_ | refine QS.one rfl (One.lenOwnM hA tabOk rfl rfl rfl rfl) ?_ | refine QS.one rfl (One.elemOwnM hA tabOk rfl rfl rfl rfl rfl ?_ ?_) ?_ | refine QS.one rfl (One.loadRatM hA tabOk rfl rfl rfl rfl rfl rfl ?_) ?_ | refine QS.one rfl (One.appendM hA tabOk _ rfl rfl rfl rfl rfl rfl ?_ ?_) ?_ | refine QS.one rfl (One.appendMM hA tabOk rfl rfl rfl rfl rfl ?_ ?_) ?_ | refine QS.one rfl (One.appendOwnM hA tabOk _ rfl rfl rfl rfl rfl rfl rfl ?_ ?_) ?_ | refine QS.one rfl (One.appendOwnMM hA tabOk rfl rfl rfl rfl rfl rfl ?_ ?_) ?_ | refine QS.one rfl (One.appendOwn0 hA tabOk rfl rfl rfl rfl rfl rfl ?_ ?_) ?_ | refine QS.one rfl (One.storeRatM hA tabOk _ rfl rfl rfl rfl rfl rfl rfl rfl (fun _ => rfl) ?_) ?_ | refine QS.one rfl (One.makeM hA tabOk encI 0 rfl rfl rfl rfl rfl rfl rfl ?_ ?_ ?_) ?_ | refine QS.one rfl (One.build0 tabOk rfl rfl) ?_ | refine QS.one rfl (One.fieldRat tabOk rfl rfl rfl rfl (by decide) rfl rfl) ?_) <;> (first | refine QS.pass ?_ | (((try simp (disch := omega) only [zz hA, zb, reduceCtorEq, Bool.false_eq_true, Int.reduceLT, Int.reduceLE, Int.reduceNeg]) <;> (try simp only [zw])) <;> omega)))
          | refine QS.goG hA tabOk (by conv => lhs; cbv) ?_
          | refine QS.go1 hA tabOk (by conv => lhs; cbv) ?_
          | (refine QS.gs (by conv => lhs; cbv) ?_ ?_ <;> intro hc <;> (fail_if_success (with_reducible have h0 : true = true := hc)) <;> (fail_if_success (with_reducible have h0 : true = false := hc)) <;> (fail_if_success (with_reducible have h0 : false = true := hc)) <;> (fail_if_success (with_reducible have h0 : false = false := hc)) <;> rw [hc] <;> ((try simp (disch := omega) only [zz hA, zb, reduceCtorEq, Bool.false_eq_true, Int.reduceLT, Int.reduceLE, Int.reduceNeg] at hc) <;> (try simp only [zw] at hc)) <;> (try (exfalso; omega))))
      | refine Thn.exit ?_
      | refine Blk.here ?_
      | refine Blk.other (by decide) ?_
      | refine ⟨.inl rfl, _, RetOk.ev tabOk (by conv => lhs; cbv), ?_⟩
      | fail)
    refine AWp.norm (by conv => lhs; cbv) ?_
    refine AWp.rangeFunc' rfl ?_
    intro c hcr
    have hlen : A .len (hid A (List.map encI S)) = S.length := by simp [hA, real, hid]
    refine ⟨_, roundIter_3 hA key S.length _ hlen
      (fun k st => k ≤ S.length ∧ (∀ j, j < k → probe K S key j = none) ∧ st = [.var true 25 [.ic (.sl 1 false (hid A (List.map (encK A) K))), .ic (.sl 1 false (hid A (List.map encI S)))], .var true 23 [.ic (.sl 1 false (hid A (List.map encI key)))], .var true 3 [.ic (.lit (.int .i64 0))], .var true 23 [.ic (.sl 1 false (hid A (List.map encI key)))], .var true 3 [.ic (.lit (.int .i64 (A .len (hid A (List.map encI S)))))], .lp c])
      (fun st => ∃ d r, d = { c with state := .done, pend := some .ret } ∧ r = findM K S key ∧ st = [.var true 25 [.ic (.sl 1 false (hid A (List.map (encK A) K))), .ic (.sl 1 false (hid A (List.map encI S)))], .var true 23 [.ic (.sl 1 false (hid A (List.map encI key)))], .var true 3 [.ic (.lit (.int .i64 r))], .var true 23 [.ic (.sl 1 false (hid A (List.map encI key)))], .var true 3 [.ic (.lit (.int .i64 (A .len (hid A (List.map encI S)))))], .lp d])
      ?_ ?_ (by omega) hs hk _ ?_, ?_⟩
    · rintro k st ⟨_, _, rfl⟩
      exact ⟨_, _, _, _, rfl⟩
    · rintro k st z hk1 ⟨hk2, hfr, rfl⟩ hz
      have hz0 := slotM_range key S.length k (by omega)
      rw [← hz] at hz0
      refine AYield.of' 6 hcr rfl (Nat.le_refl _) rfl rfl ?_
      intro l
      simp only []
      refine AWp.region (AOL.to hA tabOk (by conv => lhs; cbv) (AOL.nil ⟨rfl, rfl, ?_⟩))
      intro bz hbz
      have hzn : slotN key S.length k = z.toNat := by rw [slotN, ← hz]
      have hel : S.getD z.toNat default ≤ K.length ∧ 0 ≤ S.getD z.toNat default := by
        rw [List.getD_eq_getElem?_getD, List.getElem?_eq_getElem (by omega)]
        exact hS _ (List.getElem_mem _)
      repeat' (first
        | (refine AWp.pass ?_; first
            | refine AWp.seq ?_
            | refine AWp.block ?_
            | refine AWp.skip ?_
            | refine AWp.reg (by conv => lhs; cbv) ?_
            | refine AWp.cond_t rfl ?_
            | refine AWp.cond_f rfl ?_
            | (refine AWp.cond rfl ?_ ?_ <;> intro hc <;> (try rw [hc]) <;> ((try simp (disch := omega) only [zz hA, zb, reduceCtorEq, Bool.false_eq_true, Int.reduceLT, Int.reduceLE, Int.reduceNeg] at hc) <;> (try simp only [zw] at hc)) <;> (try (exfalso; omega)))
            | refine AWp.exit ?_
            | refine AWp.ret ⟨.inr rfl, _, RetOk.ev tabOk (by conv => lhs; cbv), ?_⟩
            | refine AWp.drawK 0 rfl (by decide +kernel) (by conv => lhs; cbv) (by conv => lhs; cbv) ?_
            | refine AWp.drawK 1 rfl (by decide +kernel) (by conv => lhs; cbv) (by conv => lhs; cbv) ?_
            | refine AWp.drawK 2 rfl (by decide +kernel) (by conv => lhs; cbv) (by conv => lhs; cbv) ?_
            | refine AWp.drawK 3 rfl (by decide +kernel) (by conv => lhs; cbv) (by conv => lhs; cbv) ?_
            | refine AWp.drawK 4 rfl (by decide +kernel) (by conv => lhs; cbv) (by conv => lhs; cbv) ?_
            | refine AWp.drawK 5 rfl (by decide +kernel) (by conv => lhs; cbv) (by conv => lhs; cbv) ?_
            | refine AWp.drawK 6 rfl (by decide +kernel) (by conv => lhs; cbv) (by conv => lhs; cbv) ?_
            | refine AWp.drawK 8 rfl (by decide +kernel) (by conv => lhs; cbv) (by conv => lhs; cbv) ?_)
        | (refine AOL.pass ?_; first
            | refine AOL.nil ?_
            | refine AOL.go hA tabOk (by conv => lhs; cbv) ?_
            | refine AOL.one (One.call false rfl rfl rfl (eqInts_c hA _ _) rfl) ?_
            | refine AOL.one (One.call true rfl rfl rfl (eqInts_c hA _ _) rfl) ?_
            | ((first | refine AOL.one (One.elemM hA tabOk rfl rfl rfl rfl ?_ ?_) ?_ | refine AOL.one (One.clipM tabOk rfl rfl rfl rfl rfl ?_ ?_) ?_ | refine AOL.one (One.cut_hM hA tabOk rfl rfl rfl rfl ?_ ?_) ?_ | refine AOL.one (One.cut_lM hA tabOk rfl rfl rfl rfl ?_ ?_) ?_ | refine AOL.one (One.cut_lhM hA tabOk rfl rfl rfl rfl rfl ?_ ?_ ?_) ?_ | refine AOL.one (One.quoM hA rfl rfl rfl ?_) ?_ | refine AOL.one (One.remM hA rfl rfl rfl ?_) ?_ | refine AOL.one (One.bitsM hA rfl rfl rfl rfl) ?_ | refine AOL.one (One.shrM hA rfl rfl rfl ?_) ?_ | refine AOL.one (One.byteM hA tabOk rfl rfl rfl rfl rfl ?_ ?_) ?_ | refine AOL.one (One.concatM hA rfl rfl rfl ?_) ?_ | refine AOL.one (One.eqBoolM hA tabOk rfl rfl rfl rfl rfl) ?_ | refine AOL.one (One.neBoolM hA tabOk rfl rfl rfl rfl rfl) ?_ | refine AOL.one (One.lenOwnM hA tabOk rfl rfl rfl rfl) ?_ | refine AOL.one (One.elemOwnM hA tabOk rfl rfl rfl rfl rfl ?_ ?_) ?_ | refine AOL.one (One.loadRatM hA tabOk rfl rfl rfl rfl rfl rfl ?_) ?_ | refine AOL.one (One.appendM hA tabOk _ rfl rfl rfl rfl rfl rfl ?_ ?_) ?_ | refine AOL.one (One.appendMM hA tabOk rfl rfl rfl rfl rfl ?_ ?_) ?_ | refine AOL.one (One.appendOwnM hA tabOk _ rfl rfl rfl rfl rfl rfl rfl ?_ ?_) ?_ | refine AOL.one (One.appendOwnMM hA tabOk rfl rfl rfl rfl rfl rfl ?_ ?_) ?_ | refine AOL.one (One.appendOwn0 hA tabOk rfl rfl rfl rfl rfl rfl ?_ ?_) ?_ | refine AOL.one (One.storeRatM hA tabOk _ rfl rfl rfl rfl rfl rfl rfl rfl (fun _ => rfl) ?_) ?_ | refine AOL.one (One.makeM hA tabOk encI 0 rfl rfl rfl rfl rfl rfl rfl ?_ ?_ ?_) ?_ | refine AOL.one (One.build0 tabOk rfl rfl) ?_ | refine AOL.one (One.fieldRat tabOk rfl rfl rfl rfl (by decide) rfl rfl) ?_) <;> (first | refine AOL.pass ?_ | (((try simp (disch := omega) only [zz hA, zb, reduceCtorEq, Bool.false_eq_true, Int.reduceLT, Int.reduceLE, Int.reduceNeg]) <;> (try simp only [zw])) <;> omega)))
            | refine AOL.goG hA tabOk (by conv => lhs; cbv) ?_
            | refine AOL.go1 hA tabOk (by conv => lhs; cbv) ?_
            | (refine AOL.gs (by conv => lhs; cbv) ?_ ?_ <;> intro hc <;> (fail_if_success (with_reducible have h0 : true = true := hc)) <;> (fail_if_success (with_reducible have h0 : true = false := hc)) <;> (fail_if_success (with_reducible have h0 : false = true := hc)) <;> (fail_if_success (with_reducible have h0 : false = false := hc)) <;> rw [hc] <;> ((try simp (disch := omega) only [zz hA, zb, reduceCtorEq, Bool.false_eq_true, Int.reduceLT, Int.reduceLE, Int.reduceNeg] at hc) <;> (try simp only [zw] at hc)) <;> (try (exfalso; omega))))
        | (refine QS.pass ?_; first
            | refine QS.nil ?_
            | refine QS.go hA tabOk (by conv => lhs; cbv) ?_
            | refine QS.one rfl (One.call false rfl rfl rfl (eqInts_c hA _ _) rfl) ?_
            | ((first | refine QS.one rfl (One.elemM hA tabOk rfl rfl rfl rfl ?_ ?_) ?_ | refine QS.one rfl (One.clipM tabOk rfl rfl rfl rfl rfl ?_ ?_) ?_ | refine QS.one rfl (One.cut_hM hA tabOk rfl rfl rfl rfl ?_ ?_) ?_ | refine QS.one rfl (One.cut_lM hA tabOk rfl rfl rfl rfl ?_ ?_) ?_ | refine QS.one rfl (One.cut_lhM hA tabOk rfl rfl rfl rfl rfl ?_ ?_ ?_) ?_ | refine QS.one rfl (One.quoM hA rfl rfl rfl ?_) ?_ | refine QS.one rfl (One.remM hA rfl rfl rfl ?_) ?_ | refine QS.one rfl (One.bitsM hA rfl rfl rfl rfl) ?_ | refine QS.one rfl (One.shrM hA rfl rfl rfl ?_) ?_ | refine QS.one rfl (One.byteM hA tabOk rfl rfl rfl rfl rfl ?_ ?_) ?_ | refine QS.one rfl (One.concatM hA rfl rfl rfl ?_) ?_ | refine QS.one rfl (One.eqBoolM hA tabOk rfl rfl rfl rfl rfl) ?_ | refine QS.one rfl (One.neBoolM hA tabOk rfl rfl rfl rfl rfl) ?_ | refine QS.one rfl (One.lenOwnM hA tabOk rfl rfl rfl rfl) ?_ | refine QS.one rfl (One.elemOwnM hA tabOk rfl rfl rfl rfl rfl ?_ ?_) ?_ | refine QS.one rfl (One.loadRatM hA tabOk rfl rfl rfl rfl rfl rfl ?_) ?_ | refine QS.one rfl (One.appendM hA tabOk _ rfl rfl rfl rfl rfl rfl ?_ ?_) ?_ | refine QS.one rfl (One.appendMM hA tabOk rfl rfl rfl rfl rfl ?_ ?_) ?_ | refine QS.one rfl (One.appendOwnM hA tabOk _ rfl rfl rfl rfl rfl rfl rfl ?_ ?_) ?_ | refine QS.one rfl (One.appendOwnMM hA tabOk rfl rfl rfl rfl rfl rfl ?_ ?_) ?_ | refine QS.one rfl (One.appendOwn0 hA tabOk rfl rfl rfl rfl rfl rfl ?_ ?_) ?_ | refine QS.one rfl (One.storeRatM hA tabOk _ rfl rfl rfl rfl rfl rfl rfl rfl (fun _ => rfl) ?_) ?_ | refine QS.one rfl (One.makeM hA tabOk encI 0 rfl rfl rfl rfl rfl rfl rfl ?_ ?_ ?_) ?_ | refine QS.one rfl (One.build0 tabOk rfl rfl) ?_ | refine QS.one rfl (One.fieldRat tabOk rfl rfl rfl rfl (by decide) rfl rfl) ?_) <;> (first | refine QS.pass ?_ | (((try simp (disch := omega) only [zz hA, zb, reduceCtorEq, Bool.false_eq_true, Int.reduceLT, Int.reduceLE, Int.reduceNeg]) <;> (try simp only [zw])) <;> omega)))
            | refine QS.goG hA tabOk (by conv => lhs; cbv) ?_
            | refine QS.go1 hA tabOk (by conv => lhs; cbv) ?_
            | (refine QS.gs (by conv => lhs; cbv) ?_ ?_ <;> intro hc <;> (fail_if_success (with_reducible have h0 : true = true := hc)) <;> (fail_if_success (with_reducible have h0 : true = false := hc)) <;> (fail_if_success (with_reducible have h0 : false = true := hc)) <;> (fail_if_success (with_reducible have h0 : false = false := hc)) <;> rw [hc] <;> ((try simp (disch := omega) only [zz hA, zb, reduceCtorEq, Bool.false_eq_true, Int.reduceLT, Int.reduceLE, Int.reduceNeg] at hc) <;> (try simp only [zw] at hc)) <;> (try (exfalso; omega))))
        | refine Thn.exit ?_
        | refine Blk.here ?_
        | refine Blk.other (by decide) ?_
        | refine ⟨.inl rfl, _, RetOk.ev tabOk (by conv => lhs; cbv), ?_⟩
        | fail)
      · have hpr : probe K S key k = some (S.getD z.toNat default - 1) := by rw [probe, hzn, if_pos (.inl (by omega))]
        refine AWp.ret ⟨rfl, Nat.le_of_ble_eq_true rfl, fun d hd => ⟨(by repeat' (first | exact trimOk.nil | refine trimOk.same ?_ | refine trimOk.turn rfl ?_ | refine trimOk.turn (by rw [hd, hcr]; rfl) ?_)), ?_⟩⟩
        exact .inr ⟨rfl, d, _, hd, by rw [findM_hit hk1 hfr hpr]; (((try simp (disch := omega) only [zz hA, zb, reduceCtorEq, Bool.false_eq_true, Int.reduceLT, Int.reduceLE, Int.reduceNeg]) <;> (try simp only [zw])) <;> omega), rfl⟩
      · have hpr : probe K S key k = some (S.getD z.toNat default - 1) := by
          rw [probe, hzn, if_pos (.inr hc)]
        refine AWp.ret ⟨rfl, Nat.le_of_ble_eq_true rfl, fun d hd => ⟨(by repeat' (first | exact trimOk.nil | refine trimOk.same ?_ | refine trimOk.turn rfl ?_ | refine trimOk.turn (by rw [hd, hcr]; rfl) ?_)), ?_⟩⟩
        exact .inr ⟨rfl, d, _, hd, by rw [findM_hit hk1 hfr hpr]; (((try simp (disch := omega) only [zz hA, zb, reduceCtorEq, Bool.false_eq_true, Int.reduceLT, Int.reduceLE, Int.reduceNeg]) <;> (try simp only [zw])) <;> omega), rfl⟩
      · refine ⟨rfl, Nat.le_of_ble_eq_true rfl, (by repeat' (first | exact trimOk.nil | refine trimOk.same ?_ | refine trimOk.turn rfl ?_)), ?_⟩
        refine .inl ⟨rfl, by omega, fun j hj => ?_, rfl⟩
        rcases Nat.lt_or_ge j k with h | h
        · exact hfr j h
        · obtain rfl : j = k := by omega
          rw [probe, hzn, if_neg]
          rintro (h2 | h2)
          · omega
          · exact hc h2
    · exact ⟨by omega, by simp, rfl⟩
    · rintro y st' ⟨rfl, ⟨_, hfr, rfl⟩ | ⟨d, r, hd, hr, rfl⟩⟩
      · refine .inl ⟨rfl, fun x => ?_⟩
        repeat' (first
          | (refine AWp.pass ?_; first
              | refine AWp.seq ?_
              | refine AWp.block ?_
              | refine AWp.skip ?_
              | refine AWp.reg (by conv => lhs; cbv) ?_
              | refine AWp.cond_t rfl ?_
              | refine AWp.cond_f rfl ?_
              | (refine AWp.cond rfl ?_ ?_ <;> intro hc <;> (try rw [hc]) <;> ((try simp (disch := omega) only [zz hA, zb, reduceCtorEq, Bool.false_eq_true, Int.reduceLT, Int.reduceLE, Int.reduceNeg] at hc) <;> (try simp only [zw] at hc)) <;> (try (exfalso; omega)))
              | refine AWp.exit ?_
              | refine AWp.ret ⟨.inr rfl, _, RetOk.ev tabOk (by conv => lhs; cbv), ?_⟩
              | refine AWp.drawK 0 rfl (by decide +kernel) (by conv => lhs; cbv) (by conv => lhs; cbv) ?_
              | refine AWp.drawK 1 rfl (by decide +kernel) (by conv => lhs; cbv) (by conv => lhs; cbv) ?_
              | refine AWp.drawK 2 rfl (by decide +kernel) (by conv => lhs; cbv) (by conv => lhs; cbv) ?_
              | refine AWp.drawK 3 rfl (by decide +kernel) (by conv => lhs; cbv) (by conv => lhs; cbv) ?_
              | refine AWp.drawK 4 rfl (by decide +kernel) (by conv => lhs; cbv) (by conv => lhs; cbv) ?_
              | refine AWp.drawK 5 rfl (by decide +kernel) (by conv => lhs; cbv) (by conv => lhs; cbv) ?_
              | refine AWp.drawK 6 rfl (by decide +kernel) (by conv => lhs; cbv) (by conv => lhs; cbv) ?_
              | refine AWp.drawK 8 rfl (by decide +kernel) (by conv => lhs; cbv) (by conv => lhs; cbv) ?_)
          | (refine AOL.pass ?_; first
              | refine AOL.nil ?_
              | refine AOL.go hA tabOk (by conv => lhs; cbv) ?_
              | ((first | refine AOL.one (One.elemM hA tabOk rfl rfl rfl rfl ?_ ?_) ?_ | refine AOL.one (One.clipM tabOk rfl rfl rfl rfl rfl ?_ ?_) ?_ | refine AOL.one (One.cut_hM hA tabOk rfl rfl rfl rfl ?_ ?_) ?_ | refine AOL.one (One.cut_lM hA tabOk rfl rfl rfl rfl ?_ ?_) ?_ | refine AOL.one (One.cut_lhM hA tabOk rfl rfl rfl rfl rfl ?_ ?_ ?_) ?_ | refine AOL.one (One.quoM hA rfl rfl rfl ?_) ?_ | refine AOL.one (One.remM hA rfl rfl rfl ?_) ?_ | refine AOL.one (One.bitsM hA rfl rfl rfl rfl) ?_ | refine AOL.one (One.shrM hA rfl rfl rfl ?_) ?_ | refine AOL.one (One.byteM hA tabOk rfl rfl rfl rfl rfl ?_ ?_) ?_ | refine AOL.one (One.concatM hA rfl rfl rfl ?_) ?_ | refine AOL.one (One.eqBoolM hA tabOk rfl rfl rfl rfl rfl) ?_ | refine AOL.one (One.neBoolM hA tabOk rfl rfl rfl rfl rfl) ?_ | refine AOL.one (One.lenOwnM hA tabOk rfl rfl rfl rfl) ?_ | refine AOL.one (One.elemOwnM hA tabOk rfl rfl rfl rfl rfl ?_ ?_) ?_ | refine AOL.one (One.loadRatM hA tabOk rfl rfl rfl rfl rfl rfl ?_) ?_ | refine AOL.one (One.appendM hA tabOk _ rfl rfl rfl rfl rfl rfl ?_ ?_) ?_ | refine AOL.one (One.appendMM hA tabOk rfl rfl rfl rfl rfl ?_ ?_) ?_ | refine AOL.one (One.appendOwnM hA tabOk _ rfl rfl rfl rfl rfl rfl rfl ?_ ?_) ?_ | refine AOL.one (One.appendOwnMM hA tabOk rfl rfl rfl rfl rfl rfl ?_ ?_) ?_ | refine AOL.one (One.appendOwn0 hA tabOk rfl rfl rfl rfl rfl rfl ?_ ?_) ?_ | refine AOL.one (One.storeRatM hA tabOk _ rfl rfl rfl rfl rfl rfl rfl rfl (fun _ => rfl) ?_) ?_ | refine AOL.one (One.makeM hA tabOk encI 0 rfl rfl rfl rfl rfl rfl rfl ?_ ?_ ?_) ?_ | refine AOL.one (One.build0 tabOk rfl rfl) ?_ | refine AOL.one (One.fieldRat tabOk rfl rfl rfl rfl (by decide) rfl rfl) ?_) <;> (first | refine AOL.pass ?_ | (((try simp (disch := omega) only [zz hA, zb, reduceCtorEq, Bool.false_eq_true, Int.reduceLT, Int.reduceLE, Int.reduceNeg]) <;> (try simp only [zw])) <;> omega)))
              | refine AOL.goG hA tabOk (by conv => lhs; cbv) ?_
              | refine AOL.go1 hA tabOk (by conv => lhs; cbv) ?_
              | (refine AOL.gs (by conv => lhs; cbv) ?_ ?_ <;> intro hc <;> (fail_if_success (with_reducible have h0 : true = true := hc)) <;> (fail_if_success (with_reducible have h0 : true = false := hc)) <;> (fail_if_success (with_reducible have h0 : false = true := hc)) <;> (fail_if_success (with_reducible have h0 : false = false := hc)) <;> rw [hc] <;> ((try simp (disch := omega) only [zz hA, zb, reduceCtorEq, Bool.false_eq_true, Int.reduceLT, Int.reduceLE, Int.reduceNeg] at hc) <;> (try simp only [zw] at hc)) <;> (try (exfalso; omega))))
          | (refine QS.pass ?_; first
              | refine QS.nil ?_
              | refine QS.go hA tabOk (by conv => lhs; cbv) ?_
              | ((first | refine QS.one rfl (One.elemM hA tabOk rfl rfl rfl rfl ?_ ?_) ?_ | refine QS.one rfl (One.clipM tabOk rfl rfl rfl rfl rfl ?_ ?_) ?_ | refine QS.one rfl (One.cut_hM hA tabOk rfl rfl rfl rfl ?_ ?_) ?_ | refine QS.one rfl (One.cut_lM hA tabOk rfl rfl rfl rfl ?_ ?_) ?_ | refine QS.one rfl (One.cut_lhM hA tabOk rfl rfl rfl rfl rfl ?_ ?_ ?_) ?_ | refine QS.one rfl (One.quoM hA rfl rfl rfl ?_) ?_ | refine QS.one rfl (One.remM hA rfl rfl rfl ?_) ?_ | refine QS.one rfl (One.bitsM hA rfl rfl rfl rfl) ?_ | refine QS.one rfl (One.shrM hA rfl rfl rfl ?_) ?_ | refine QS.one rfl (One.byteM hA tabOk rfl rfl rfl rfl rfl ?_ ?_) ?_ | refine QS.one rfl (One.concatM hA rfl rfl rfl ?_) ?_ | refine QS.one rfl (One.eqBoolM hA tabOk rfl rfl rfl rfl rfl) ?_ | refine QS.one rfl (One.neBoolM hA tabOk rfl rfl rfl rfl rfl) ?_ | refine QS.one rfl (One.lenOwnM hA tabOk rfl rfl rfl rfl) ?_ | refine QS.one rfl (One.elemOwnM hA tabOk rfl rfl rfl rfl rfl ?_ ?_) ?_ | refine QS.one rfl (One.loadRatM hA tabOk rfl rfl rfl rfl rfl rfl ?_) ?_ | refine QS.one rfl (One.appendM hA tabOk _ rfl rfl rfl rfl rfl rfl ?_ ?_) ?_ | refine QS.one rfl (One.appendMM hA tabOk rfl rfl rfl rfl rfl ?_ ?_) ?_ | refine QS.one rfl (One.appendOwnM hA tabOk _ rfl rfl rfl rfl rfl rfl rfl ?_ ?_) ?_ | refine QS.one rfl (One.appendOwnMM hA tabOk rfl rfl rfl rfl rfl rfl ?_ ?_) ?_ | refine QS.one rfl (One.appendOwn0 hA tabOk rfl rfl rfl rfl rfl rfl ?_ ?_) ?_ | refine QS.one rfl (One.storeRatM hA tabOk _ rfl rfl rfl rfl rfl rfl rfl rfl (fun _ => rfl) ?_) ?_ | refine QS.one rfl (One.makeM hA tabOk encI 0 rfl rfl rfl rfl rfl rfl rfl ?_ ?_ ?_) ?_ | refine QS.one rfl (One.build0 tabOk rfl rfl) ?_ | refine QS.one rfl (One.fieldRat tabOk rfl rfl rfl rfl (by decide) rfl rfl) ?_) <;> (first | refine QS.pass ?_ | (((try simp (disch := omega) only [zz hA, zb, reduceCtorEq, Bool.false_eq_true, Int.reduceLT, Int.reduceLE, Int.reduceNeg]) <;> (try simp only [zw])) <;> omega)))
              | refine QS.goG hA tabOk (by conv => lhs; cbv) ?_
              | refine QS.go1 hA tabOk (by conv => lhs; cbv) ?_
              | (refine QS.gs (by conv => lhs; cbv) ?_ ?_ <;> intro hc <;> (fail_if_success (with_reducible have h0 : true = true := hc)) <;> (fail_if_success (with_reducible have h0 : true = false := hc)) <;> (fail_if_success (with_reducible have h0 : false = true := hc)) <;> (fail_if_success (with_reducible have h0 : false = false := hc)) <;> rw [hc] <;> ((try simp (disch := omega) only [zz hA, zb, reduceCtorEq, Bool.false_eq_true, Int.reduceLT, Int.reduceLE, Int.reduceNeg] at hc) <;> (try simp only [zw] at hc)) <;> (try (exfalso; omega))))
          | refine Thn.exit ?_
          | refine Blk.here ?_
          | refine Blk.other (by decide) ?_
          | refine ⟨.inl rfl, _, RetOk.ev tabOk (by conv => lhs; cbv), ?_⟩
          | fail)
        refine rPV_then (by conv => lhs; cbv) ?_
        rw [findM_miss hfr, hid_eq hA]
      · refine .inr ⟨.ret, d, rfl, hd, fun x => ?_⟩
        repeat' (first
          | (refine AWp.pass ?_; first
              | refine AWp.seq ?_
              | refine AWp.block ?_
              | refine AWp.skip ?_
              | refine AWp.reg (by conv => lhs; cbv) ?_
              | refine AWp.cond_t rfl ?_
              | refine AWp.cond_f rfl ?_
              | (refine AWp.cond rfl ?_ ?_ <;> intro hc <;> (try rw [hc]) <;> ((try simp (disch := omega) only [zz hA, zb, reduceCtorEq, Bool.false_eq_true, Int.reduceLT, Int.reduceLE, Int.reduceNeg] at hc) <;> (try simp only [zw] at hc)) <;> (try (exfalso; omega)))
              | refine AWp.exit ?_
              | refine AWp.ret ⟨.inr rfl, _, RetOk.ev tabOk (by conv => lhs; cbv), ?_⟩
              | refine AWp.drawK 0 rfl (by decide +kernel) (by conv => lhs; cbv) (by conv => lhs; cbv) ?_
              | refine AWp.drawK 1 rfl (by decide +kernel) (by conv => lhs; cbv) (by conv => lhs; cbv) ?_
              | refine AWp.drawK 2 rfl (by decide +kernel) (by conv => lhs; cbv) (by conv => lhs; cbv) ?_
              | refine AWp.drawK 3 rfl (by decide +kernel) (by conv => lhs; cbv) (by conv => lhs; cbv) ?_
              | refine AWp.drawK 4 rfl (by decide +kernel) (by conv => lhs; cbv) (by conv => lhs; cbv) ?_
              | refine AWp.drawK 5 rfl (by decide +kernel) (by conv => lhs; cbv) (by conv => lhs; cbv) ?_
              | refine AWp.drawK 6 rfl (by decide +kernel) (by conv => lhs; cbv) (by conv => lhs; cbv) ?_
              | refine AWp.drawK 8 rfl (by decide +kernel) (by conv => lhs; cbv) (by conv => lhs; cbv) ?_)
          | (refine AOL.pass ?_; first
              | refine AOL.nil ?_
              | refine AOL.go hA tabOk (by conv => lhs; cbv) ?_
              | ((first | refine AOL.one (One.elemM hA tabOk rfl rfl rfl rfl ?_ ?_) ?_ | refine AOL.one (One.clipM tabOk rfl rfl rfl rfl rfl ?_ ?_) ?_ | refine AOL.one (One.cut_hM hA tabOk rfl rfl rfl rfl ?_ ?_) ?_ | refine AOL.one (One.cut_lM hA tabOk rfl rfl rfl rfl ?_ ?_) ?_ | refine AOL.one (One.cut_lhM hA tabOk rfl rfl rfl rfl rfl ?_ ?_ ?_) ?_ | refine AOL.one (One.quoM hA rfl rfl rfl ?_) ?_ | refine AOL.one (One.remM hA rfl rfl rfl ?_) ?_ | refine AOL.one (One.bitsM hA rfl rfl rfl rfl) ?_ | refine AOL.one (One.shrM hA rfl rfl rfl ?_) ?_ | refine AOL.one (One.byteM hA tabOk rfl rfl rfl rfl rfl ?_ ?_) ?_ | refine AOL.one (One.concatM hA rfl rfl rfl ?_) ?_ | refine AOL.one (One.eqBoolM hA tabOk rfl rfl rfl rfl rfl) ?_ | refine AOL.one (One.neBoolM hA tabOk rfl rfl rfl rfl rfl) ?_ | refine AOL.one (One.lenOwnM hA tabOk rfl rfl rfl rfl) ?_ | refine AOL.one (One.elemOwnM hA tabOk rfl rfl rfl rfl rfl ?_ ?_) ?_ | refine AOL.one (One.loadRatM hA tabOk rfl rfl rfl rfl rfl rfl ?_) ?_ | refine AOL.one (One.appendM hA tabOk _ rfl rfl rfl rfl rfl rfl ?_ ?_) ?_ | refine AOL.one (One.appendMM hA tabOk rfl rfl rfl rfl rfl ?_ ?_) ?_ | refine AOL.one (One.appendOwnM hA tabOk _ rfl rfl rfl rfl rfl rfl rfl ?_ ?_) ?_ | refine AOL.one (One.appendOwnMM hA tabOk rfl rfl rfl rfl rfl rfl ?_ ?_) ?_ | refine AOL.one (One.appendOwn0 hA tabOk rfl rfl rfl rfl rfl rfl ?_ ?_) ?_ | refine AOL.one (One.storeRatM hA tabOk _ rfl rfl rfl rfl rfl rfl rfl rfl (fun _ => rfl) ?_) ?_ | refine AOL.one (One.makeM hA tabOk encI 0 rfl rfl rfl rfl rfl rfl rfl ?_ ?_ ?_) ?_ | refine AOL.one (One.build0 tabOk rfl rfl) ?_ | refine AOL.one (One.fieldRat tabOk rfl rfl rfl rfl (by decide) rfl rfl) ?_) <;> (first | refine AOL.pass ?_ | (((try simp (disch := omega) only [zz hA, zb, reduceCtorEq, Bool.false_eq_true, Int.reduceLT, Int.reduceLE, Int.reduceNeg]) <;> (try simp only [zw])) <;> omega)))
              | refine AOL.goG hA tabOk (by conv => lhs; cbv) ?_
              | refine AOL.go1 hA tabOk (by conv => lhs; cbv) ?_
              | (refine AOL.gs (by conv => lhs; cbv) ?_ ?_ <;> intro hc <;> (fail_if_success (with_reducible have h0 : true = true := hc)) <;> (fail_if_success (with_reducible have h0 : true = false := hc)) <;> (fail_if_success (with_reducible have h0 : false = true := hc)) <;> (fail_if_success (with_reducible have h0 : false = false := hc)) <;> rw [hc] <;> ((try simp (disch := omega) only [zz hA, zb, reduceCtorEq, Bool.false_eq_true, Int.reduceLT, Int.reduceLE, Int.reduceNeg] at hc) <;> (try simp only [zw] at hc)) <;> (try (exfalso; omega))))
          | (refine QS.pass ?_; first
              | refine QS.nil ?_
              | refine QS.go hA tabOk (by conv => lhs; cbv) ?_
              | ((first | refine QS.one rfl (One.elemM hA tabOk rfl rfl rfl rfl ?_ ?_) ?_ | refine QS.one rfl (One.clipM tabOk rfl rfl rfl rfl rfl ?_ ?_) ?_ | refine QS.one rfl (One.cut_hM hA tabOk rfl rfl rfl rfl ?_ ?_) ?_ | refine QS.one rfl (One.cut_lM hA tabOk rfl rfl rfl rfl ?_ ?_) ?_ | refine QS.one rfl (One.cut_lhM hA tabOk rfl rfl rfl rfl rfl ?_ ?_ ?_) ?_ | refine QS.one rfl (One.quoM hA rfl rfl rfl ?_) ?_ | refine QS.one rfl (One.remM hA rfl rfl rfl ?_) ?_ | refine QS.one rfl (One.bitsM hA rfl rfl rfl rfl) ?_ | refine QS.one rfl (One.shrM hA rfl rfl rfl ?_) ?_ | refine QS.one rfl (One.byteM hA tabOk rfl rfl rfl rfl rfl ?_ ?_) ?_ | refine QS.one rfl (One.concatM hA rfl rfl rfl ?_) ?_ | refine QS.one rfl (One.eqBoolM hA tabOk rfl rfl rfl rfl rfl) ?_ | refine QS.one rfl (One.neBoolM hA tabOk rfl rfl rfl rfl rfl) ?_ | refine QS.one rfl (One.lenOwnM hA tabOk rfl rfl rfl rfl) ?_ | refine QS.one rfl (One.elemOwnM hA tabOk rfl rfl rfl rfl rfl ?_ ?_) ?_ | refine QS.one rfl (One.loadRatM hA tabOk rfl rfl rfl rfl rfl rfl ?_) ?_ | refine QS.one rfl (One.appendM hA tabOk _ rfl rfl rfl rfl rfl rfl ?_ ?_) ?_ | refine QS.one rfl (One.appendMM hA tabOk rfl rfl rfl rfl rfl ?_ ?_) ?_ | refine QS.one rfl (One.appendOwnM hA tabOk _ rfl rfl rfl rfl rfl rfl rfl ?_ ?_) ?_ | refine QS.one rfl (One.appendOwnMM hA tabOk rfl rfl rfl rfl rfl rfl ?_ ?_) ?_ | refine QS.one rfl (One.appendOwn0 hA tabOk rfl rfl rfl rfl rfl rfl ?_ ?_) ?_ | refine QS.one rfl (One.storeRatM hA tabOk _ rfl rfl rfl rfl rfl rfl rfl rfl (fun _ => rfl) ?_) ?_ | refine QS.one rfl (One.makeM hA tabOk encI 0 rfl rfl rfl rfl rfl rfl rfl ?_ ?_ ?_) ?_ | refine QS.one rfl (One.build0 tabOk rfl rfl) ?_ | refine QS.one rfl (One.fieldRat tabOk rfl rfl rfl rfl (by decide) rfl rfl) ?_) <;> (first | refine QS.pass ?_ | (((try simp (disch := omega) only [zz hA, zb, reduceCtorEq, Bool.false_eq_true, Int.reduceLT, Int.reduceLE, Int.reduceNeg]) <;> (try simp only [zw])) <;> omega)))
              | refine QS.goG hA tabOk (by conv => lhs; cbv) ?_
              | refine QS.go1 hA tabOk (by conv => lhs; cbv) ?_
              | (refine QS.gs (by conv => lhs; cbv) ?_ ?_ <;> intro hc <;> (fail_if_success (with_reducible have h0 : true = true := hc)) <;> (fail_if_success (with_reducible have h0 : true = false := hc)) <;> (fail_if_success (with_reducible have h0 : false = true := hc)) <;> (fail_if_success (with_reducible have h0 : false = false := hc)) <;> rw [hc] <;> ((try simp (disch := omega) only [zz hA, zb, reduceCtorEq, Bool.false_eq_true, Int.reduceLT, Int.reduceLE, Int.reduceNeg] at hc) <;> (try simp only [zw] at hc)) <;> (try (exfalso; omega))))
          | refine Thn.exit ?_
          | refine Blk.here ?_
          | refine Blk.other (by decide) ?_
          | refine ⟨.inl rfl, _, RetOk.ev tabOk (by conv => lhs; cbv), ?_⟩
          | fail)
        refine rPV_then (by conv => lhs; cbv) ?_
        rw [← hr, hid_eq hA]
end Go.Proofs.Ytpphdaphbkepfaa.Aw
