/- Texts of the proof, put together: the abstract walk, contracts of the functions that the statement reaches, plain laws, part 4 of 5. -/
import Derived.Test.YtinehodamekjgaaWc
/- Contracts of package uf, part 3: those of which something is so. -/
set_option linter.unusedVariables false
set_option linter.unusedSimpArgs false
namespace Go.Proofs.Ytinehodamekjgaa.Aw
open Go Go.RowKit
set_option maxRecDepth 10000
attribute [local irreducible] AWp AOL QS One AOLg QSg NX QX
def thoseM (n : Nat) (pr : Int → Bool) : List Int := ((List.range n).map fun (k : Nat) => (k : Int)).filter pr
theorem thoseM_succ (n : Nat) (pr : Int → Bool) : thoseM (n + 1) pr = if pr n then thoseM n pr ++ [(n : Int)] else thoseM n pr := by
  unfold thoseM
  rw [List.range_succ, List.map_append, List.filter_append]
  cases h : pr n <;> simp [h]
theorem thoseM_len (n : Nat) (pr : Int → Bool) : (thoseM n pr).length ≤ n := by
  unfold thoseM
  refine Nat.le_trans (List.length_filter_le _ _) (by simp)
variable {A : Ar} (hA : A = real)
include hA
theorem those_1 (V : List Int) (N : List (Int × Int)) (M : List Int) (g : FuncId) (caps : List AV) (pr : Int → Bool) (p0 : AObj) (hV : V.length ≤ 1000000)
    (hg : ∀ (n : Int) (q1 q2 : AObj), 0 ≤ n → n < V.length → ACalls Try.prog g (.ic (.lit (.int .i64 n)) :: caps) [p0, q1, q2] (fun x s' => x = .ic (.lit (.bool (hid A (pr n)))) ∧ s' = [p0, q1, q2])) :
    ACalls Try.prog 43 [(clP A V N M).av, .fn (.func g) [] caps] [p0] (fun x s' => ∃ ver q, x = .own 2 ver ∧ s' = [p0, q, .row true ver 3 1 (hid A (List.map encI (thoseM V.length pr)))]) := by
  refine ACalls.of Try.func43 rfl (by kernel_rfl) rfl ?_
  try first | refine AOLg.of [5] ?_ | refine QSg.of [5] ?_
  repeat' (first
    | (refine AWp.pass ?_; first
        | refine AWp.seq ?_
        | refine AWp.block ?_
        | refine AWp.skip ?_
        | refine AWp.regG [5] (by conv => lhs; cbv) ?_
        | refine AWp.cond_t rfl ?_
        | refine AWp.cond_f rfl ?_
        | (refine AWp.cond rfl ?_ ?_ <;> intro hc <;> (try rw [hc]) <;> ((try simp only [zn] at hc) <;> (try simp (disch := omega) only [zz hA, zb, zy, reduceCtorEq, Bool.false_eq_true, Int.reduceLT, Int.reduceLE, Int.reduceNeg] at hc) <;> (try simp only [zw] at hc)) <;> (try (exfalso; omega)))
        | refine AWp.exit ?_
        | refine AWp.ret ⟨.inr rfl, _, RetOk.ev tabOk (by conv => lhs; cbv), ?_⟩
        | refine AWp.drawKG [5] 0 rfl (by decide +kernel) (by conv => lhs; cbv) (by conv => lhs; cbv) ?_
        | refine AWp.drawKG [5] 1 rfl (by decide +kernel) (by conv => lhs; cbv) (by conv => lhs; cbv) ?_
        | refine AWp.drawKG [5] 2 rfl (by decide +kernel) (by conv => lhs; cbv) (by conv => lhs; cbv) ?_
        | refine AWp.drawKG [5] 3 rfl (by decide +kernel) (by conv => lhs; cbv) (by conv => lhs; cbv) ?_
        | refine AWp.drawKG [5] 4 rfl (by decide +kernel) (by conv => lhs; cbv) (by conv => lhs; cbv) ?_
        | refine AWp.drawKG [5] 5 rfl (by decide +kernel) (by conv => lhs; cbv) (by conv => lhs; cbv) ?_
        | refine AWp.drawKG [5] 6 rfl (by decide +kernel) (by conv => lhs; cbv) (by conv => lhs; cbv) ?_
        | refine AWp.drawKG [5] 8 rfl (by decide +kernel) (by conv => lhs; cbv) (by conv => lhs; cbv) ?_)
    | (refine AOLg.pass ?_; refine AOLg.nx hA tabOk (by conv => lhs; cbv) ?_; first
        | refine NX.done ?_
        | refine NX.gt ?_
        | refine NX.gf ?_
        | (refine NX.gs ?_ ?_ <;> intro hc <;> rw [hc] <;> ((try simp only [zn] at hc) <;> (try simp (disch := omega) only [zz hA, zb, zy, reduceCtorEq, Bool.false_eq_true, Int.reduceLT, Int.reduceLE, Int.reduceNeg] at hc) <;> (try simp only [zw] at hc)) <;> (try (exfalso; omega)))
        | ((first | (refine NX.k 1 ?_; first | refine NX.one (One.elemM hA tabOk rfl rfl rfl rfl ?_ ?_) ?_ | refine NX.one (One.elemOwnM hA tabOk rfl rfl rfl rfl rfl ?_ ?_) ?_) | (refine NX.k 2 ?_; first | refine NX.one (One.clipM tabOk rfl rfl rfl rfl rfl ?_ ?_) ?_ | refine NX.one (One.cut_hM hA tabOk rfl rfl rfl rfl ?_ ?_) ?_ | refine NX.one (One.cut_lM hA tabOk rfl rfl rfl rfl ?_ ?_) ?_ | refine NX.one (One.cut_lhM hA tabOk rfl rfl rfl rfl rfl ?_ ?_ ?_) ?_) | (refine NX.k 3 ?_; first | refine NX.one (One.quoM hA rfl rfl rfl ?_) ?_) | (refine NX.k 4 ?_; first | refine NX.one (One.remM hA rfl rfl rfl ?_) ?_) | (refine NX.k 5 ?_; first | refine NX.one (One.shrM hA rfl rfl rfl ?_) ?_) | (refine NX.k 6 ?_; first | refine NX.one (One.bitsM hA rfl rfl rfl rfl) ?_) | (refine NX.k 7 ?_; first | refine NX.one (One.concatM hA rfl rfl rfl ?_) ?_) | (refine NX.k 8 ?_; first | refine NX.one (One.eqBoolM hA tabOk rfl rfl rfl rfl rfl) ?_) | (refine NX.k 9 ?_; first | refine NX.one (One.neBoolM hA tabOk rfl rfl rfl rfl rfl) ?_) | (refine NX.k 10 ?_; first | refine NX.one (One.lenOwnM hA tabOk rfl rfl rfl rfl) ?_) | (refine NX.k 11 ?_; first | refine NX.one (One.appendM hA tabOk _ rfl rfl rfl rfl rfl rfl ?_ ?_) ?_ | refine NX.one (One.appendMM hA tabOk rfl rfl rfl rfl rfl ?_ ?_) ?_ | refine NX.one (One.appendOwnM hA tabOk _ rfl rfl rfl rfl rfl rfl rfl ?_ ?_) ?_ | refine NX.one (One.appendOwnMM hA tabOk rfl rfl rfl rfl rfl rfl ?_ ?_) ?_ | refine NX.one (One.appendOwn0 hA tabOk rfl rfl rfl rfl rfl rfl ?_ ?_) ?_) | (refine NX.k 13 ?_; first | refine NX.one (One.byteM hA tabOk rfl rfl rfl rfl rfl ?_ ?_) ?_) | (refine NX.k 14 ?_; first | refine NX.one (One.loadRatM hA tabOk rfl rfl rfl rfl rfl rfl ?_) ?_) | (refine NX.k 15 ?_; first | refine NX.one (One.storeRatM hA tabOk _ rfl rfl rfl rfl rfl rfl rfl rfl (fun _ => rfl) ?_) ?_) | (refine NX.k 16 ?_; first | refine NX.one (One.makeM hA tabOk encI 0 rfl rfl rfl rfl rfl rfl rfl ?_ ?_ ?_) ?_) | (refine NX.k 17 ?_; first | refine NX.one (One.build0 tabOk rfl rfl) ?_) | (refine NX.k 18 ?_; first | refine NX.one (One.fieldRat tabOk rfl rfl rfl rfl (by decide) rfl rfl) ?_)) <;> (first | refine AOLg.pass ?_ | (((try simp only [zn]) <;> (try simp (disch := omega) only [zz hA, zb, zy, reduceCtorEq, Bool.false_eq_true, Int.reduceLT, Int.reduceLE, Int.reduceNeg]) <;> (try simp only [zw])) <;> omega)))
        | (refine NX.one (One.nilOwn tabOk 5 22 rfl rfl rfl) ?_)
        | refine NX.raw ?_)
    | (refine QSg.pass ?_; refine QSg.nx hA tabOk (by conv => lhs; cbv) ?_; first
        | refine QX.done ?_
        | refine QX.gt ?_
        | refine QX.gf ?_
        | (refine QX.gs ?_ ?_ <;> intro hc <;> rw [hc] <;> ((try simp only [zn] at hc) <;> (try simp (disch := omega) only [zz hA, zb, zy, reduceCtorEq, Bool.false_eq_true, Int.reduceLT, Int.reduceLE, Int.reduceNeg] at hc) <;> (try simp only [zw] at hc)) <;> (try (exfalso; omega)))
        | ((first | (refine QX.k 1 ?_; first | refine QX.one rfl (One.elemM hA tabOk rfl rfl rfl rfl ?_ ?_) ?_ | refine QX.one rfl (One.elemOwnM hA tabOk rfl rfl rfl rfl rfl ?_ ?_) ?_) | (refine QX.k 2 ?_; first | refine QX.one rfl (One.clipM tabOk rfl rfl rfl rfl rfl ?_ ?_) ?_ | refine QX.one rfl (One.cut_hM hA tabOk rfl rfl rfl rfl ?_ ?_) ?_ | refine QX.one rfl (One.cut_lM hA tabOk rfl rfl rfl rfl ?_ ?_) ?_ | refine QX.one rfl (One.cut_lhM hA tabOk rfl rfl rfl rfl rfl ?_ ?_ ?_) ?_) | (refine QX.k 3 ?_; first | refine QX.one rfl (One.quoM hA rfl rfl rfl ?_) ?_) | (refine QX.k 4 ?_; first | refine QX.one rfl (One.remM hA rfl rfl rfl ?_) ?_) | (refine QX.k 5 ?_; first | refine QX.one rfl (One.shrM hA rfl rfl rfl ?_) ?_) | (refine QX.k 6 ?_; first | refine QX.one rfl (One.bitsM hA rfl rfl rfl rfl) ?_) | (refine QX.k 7 ?_; first | refine QX.one rfl (One.concatM hA rfl rfl rfl ?_) ?_) | (refine QX.k 8 ?_; first | refine QX.one rfl (One.eqBoolM hA tabOk rfl rfl rfl rfl rfl) ?_) | (refine QX.k 9 ?_; first | refine QX.one rfl (One.neBoolM hA tabOk rfl rfl rfl rfl rfl) ?_) | (refine QX.k 10 ?_; first | refine QX.one rfl (One.lenOwnM hA tabOk rfl rfl rfl rfl) ?_) | (refine QX.k 11 ?_; first | refine QX.one rfl (One.appendM hA tabOk _ rfl rfl rfl rfl rfl rfl ?_ ?_) ?_ | refine QX.one rfl (One.appendMM hA tabOk rfl rfl rfl rfl rfl ?_ ?_) ?_ | refine QX.one rfl (One.appendOwnM hA tabOk _ rfl rfl rfl rfl rfl rfl rfl ?_ ?_) ?_ | refine QX.one rfl (One.appendOwnMM hA tabOk rfl rfl rfl rfl rfl rfl ?_ ?_) ?_ | refine QX.one rfl (One.appendOwn0 hA tabOk rfl rfl rfl rfl rfl rfl ?_ ?_) ?_) | (refine QX.k 13 ?_; first | refine QX.one rfl (One.byteM hA tabOk rfl rfl rfl rfl rfl ?_ ?_) ?_) | (refine QX.k 14 ?_; first | refine QX.one rfl (One.loadRatM hA tabOk rfl rfl rfl rfl rfl rfl ?_) ?_) | (refine QX.k 15 ?_; first | refine QX.one rfl (One.storeRatM hA tabOk _ rfl rfl rfl rfl rfl rfl rfl rfl (fun _ => rfl) ?_) ?_) | (refine QX.k 16 ?_; first | refine QX.one rfl (One.makeM hA tabOk encI 0 rfl rfl rfl rfl rfl rfl rfl ?_ ?_ ?_) ?_) | (refine QX.k 17 ?_; first | refine QX.one rfl (One.build0 tabOk rfl rfl) ?_) | (refine QX.k 18 ?_; first | refine QX.one rfl (One.fieldRat tabOk rfl rfl rfl rfl (by decide) rfl rfl) ?_)) <;> (first | refine QSg.pass ?_ | (((try simp only [zn]) <;> (try simp (disch := omega) only [zz hA, zb, zy, reduceCtorEq, Bool.false_eq_true, Int.reduceLT, Int.reduceLE, Int.reduceNeg]) <;> (try simp only [zw])) <;> omega)))
        | (refine QX.one rfl (One.nilOwn tabOk 5 22 rfl rfl rfl) ?_)
        | refine QX.raw ?_)
    | refine Thn.exit ?_
    | refine Blk.here ?_
    | refine Blk.other (by decide) ?_
    | refine ⟨.inl rfl, _, RetOk.ev tabOk (by conv => lhs; cbv), ?_⟩
    | fail)
  refine AWp.loopU (fun x : Nat × Nat => [(10, .ic (.lit (.int .i64 (hid A (cN x.1))))), (5, .own 2 x.2)]) (fun x => [p0, .var true 25 [.ic (.sl 1 false (hid A (List.map encI V))), .ic (.sl 2 false (hid A (List.map encN N))), .ic (.sl 1 false (hid A (List.map encI M)))], .row true x.2 3 1 (hid A (List.map encI (thoseM x.1 pr)))]) (fun x => V.length - x.1) (fun x => x.1 ≤ V.length) (0, 0) (by conv => lhs; cbv) (Nat.zero_le _) (.int rfl (by simp [hA, real, hid, cN]) (.cons rfl .nil)) (by simp [hA, real, hid, thoseM]) ?_
  rintro ⟨k, ver⟩ hk
  simp only [] at hk ⊢
  have hlen := thoseM_len k pr
  try first | refine AOLg.of [] ?_ | refine QSg.of [] ?_
  repeat' (first
    | (refine AWp.pass ?_; first
        | refine AWp.seq ?_
        | refine AWp.block ?_
        | refine AWp.skip ?_
        | refine AWp.regG [] (by conv => lhs; cbv) ?_
        | refine AWp.cond_t rfl ?_
        | refine AWp.cond_f rfl ?_
        | (refine AWp.cond rfl ?_ ?_ <;> intro hc <;> (try rw [hc]) <;> ((try simp only [zn] at hc) <;> (try simp (disch := omega) only [zz hA, zb, zy, reduceCtorEq, Bool.false_eq_true, Int.reduceLT, Int.reduceLE, Int.reduceNeg] at hc) <;> (try simp only [zw] at hc)) <;> (try (exfalso; omega)))
        | refine AWp.exit ?_
        | refine AWp.ret ⟨.inr rfl, _, RetOk.ev tabOk (by conv => lhs; cbv), ?_⟩
        | refine AWp.drawKG [] 0 rfl (by decide +kernel) (by conv => lhs; cbv) (by conv => lhs; cbv) ?_
        | refine AWp.drawKG [] 1 rfl (by decide +kernel) (by conv => lhs; cbv) (by conv => lhs; cbv) ?_
        | refine AWp.drawKG [] 2 rfl (by decide +kernel) (by conv => lhs; cbv) (by conv => lhs; cbv) ?_
        | refine AWp.drawKG [] 3 rfl (by decide +kernel) (by conv => lhs; cbv) (by conv => lhs; cbv) ?_
        | refine AWp.drawKG [] 4 rfl (by decide +kernel) (by conv => lhs; cbv) (by conv => lhs; cbv) ?_
        | refine AWp.drawKG [] 5 rfl (by decide +kernel) (by conv => lhs; cbv) (by conv => lhs; cbv) ?_
        | refine AWp.drawKG [] 6 rfl (by decide +kernel) (by conv => lhs; cbv) (by conv => lhs; cbv) ?_
        | refine AWp.drawKG [] 8 rfl (by decide +kernel) (by conv => lhs; cbv) (by conv => lhs; cbv) ?_)
    | (refine AOLg.pass ?_; refine AOLg.nx hA tabOk (by conv => lhs; cbv) ?_; first
        | refine NX.done ?_
        | refine NX.gt ?_
        | refine NX.gf ?_
        | (refine NX.gs ?_ ?_ <;> intro hc <;> rw [hc] <;> ((try simp only [zn] at hc) <;> (try simp (disch := omega) only [zz hA, zb, zy, reduceCtorEq, Bool.false_eq_true, Int.reduceLT, Int.reduceLE, Int.reduceNeg] at hc) <;> (try simp only [zw] at hc)) <;> (try (exfalso; omega)))
        | ((first | (refine NX.k 1 ?_; first | refine NX.one (One.elemM hA tabOk rfl rfl rfl rfl ?_ ?_) ?_ | refine NX.one (One.elemOwnM hA tabOk rfl rfl rfl rfl rfl ?_ ?_) ?_) | (refine NX.k 2 ?_; first | refine NX.one (One.clipM tabOk rfl rfl rfl rfl rfl ?_ ?_) ?_ | refine NX.one (One.cut_hM hA tabOk rfl rfl rfl rfl ?_ ?_) ?_ | refine NX.one (One.cut_lM hA tabOk rfl rfl rfl rfl ?_ ?_) ?_ | refine NX.one (One.cut_lhM hA tabOk rfl rfl rfl rfl rfl ?_ ?_ ?_) ?_) | (refine NX.k 3 ?_; first | refine NX.one (One.quoM hA rfl rfl rfl ?_) ?_) | (refine NX.k 4 ?_; first | refine NX.one (One.remM hA rfl rfl rfl ?_) ?_) | (refine NX.k 5 ?_; first | refine NX.one (One.shrM hA rfl rfl rfl ?_) ?_) | (refine NX.k 6 ?_; first | refine NX.one (One.bitsM hA rfl rfl rfl rfl) ?_) | (refine NX.k 7 ?_; first | refine NX.one (One.concatM hA rfl rfl rfl ?_) ?_) | (refine NX.k 8 ?_; first | refine NX.one (One.eqBoolM hA tabOk rfl rfl rfl rfl rfl) ?_) | (refine NX.k 9 ?_; first | refine NX.one (One.neBoolM hA tabOk rfl rfl rfl rfl rfl) ?_) | (refine NX.k 10 ?_; first | refine NX.one (One.lenOwnM hA tabOk rfl rfl rfl rfl) ?_) | (refine NX.k 11 ?_; first | refine NX.one (One.appendM hA tabOk _ rfl rfl rfl rfl rfl rfl ?_ ?_) ?_ | refine NX.one (One.appendMM hA tabOk rfl rfl rfl rfl rfl ?_ ?_) ?_ | refine NX.one (One.appendOwnM hA tabOk _ rfl rfl rfl rfl rfl rfl rfl ?_ ?_) ?_ | refine NX.one (One.appendOwnMM hA tabOk rfl rfl rfl rfl rfl rfl ?_ ?_) ?_ | refine NX.one (One.appendOwn0 hA tabOk rfl rfl rfl rfl rfl rfl ?_ ?_) ?_) | (refine NX.k 13 ?_; first | refine NX.one (One.byteM hA tabOk rfl rfl rfl rfl rfl ?_ ?_) ?_) | (refine NX.k 14 ?_; first | refine NX.one (One.loadRatM hA tabOk rfl rfl rfl rfl rfl rfl ?_) ?_) | (refine NX.k 15 ?_; first | refine NX.one (One.storeRatM hA tabOk _ rfl rfl rfl rfl rfl rfl rfl rfl (fun _ => rfl) ?_) ?_) | (refine NX.k 16 ?_; first | refine NX.one (One.makeM hA tabOk encI 0 rfl rfl rfl rfl rfl rfl rfl ?_ ?_ ?_) ?_) | (refine NX.k 17 ?_; first | refine NX.one (One.build0 tabOk rfl rfl) ?_) | (refine NX.k 18 ?_; first | refine NX.one (One.fieldRat tabOk rfl rfl rfl rfl (by decide) rfl rfl) ?_)) <;> (first | refine AOLg.pass ?_ | (((try simp only [zn]) <;> (try simp (disch := omega) only [zz hA, zb, zy, reduceCtorEq, Bool.false_eq_true, Int.reduceLT, Int.reduceLE, Int.reduceNeg]) <;> (try simp only [zw])) <;> omega)))
        | refine NX.raw ?_)
    | (refine QSg.pass ?_; refine QSg.nx hA tabOk (by conv => lhs; cbv) ?_; first
        | refine QX.done ?_
        | refine QX.gt ?_
        | refine QX.gf ?_
        | (refine QX.gs ?_ ?_ <;> intro hc <;> rw [hc] <;> ((try simp only [zn] at hc) <;> (try simp (disch := omega) only [zz hA, zb, zy, reduceCtorEq, Bool.false_eq_true, Int.reduceLT, Int.reduceLE, Int.reduceNeg] at hc) <;> (try simp only [zw] at hc)) <;> (try (exfalso; omega)))
        | ((first | (refine QX.k 1 ?_; first | refine QX.one rfl (One.elemM hA tabOk rfl rfl rfl rfl ?_ ?_) ?_ | refine QX.one rfl (One.elemOwnM hA tabOk rfl rfl rfl rfl rfl ?_ ?_) ?_) | (refine QX.k 2 ?_; first | refine QX.one rfl (One.clipM tabOk rfl rfl rfl rfl rfl ?_ ?_) ?_ | refine QX.one rfl (One.cut_hM hA tabOk rfl rfl rfl rfl ?_ ?_) ?_ | refine QX.one rfl (One.cut_lM hA tabOk rfl rfl rfl rfl ?_ ?_) ?_ | refine QX.one rfl (One.cut_lhM hA tabOk rfl rfl rfl rfl rfl ?_ ?_ ?_) ?_) | (refine QX.k 3 ?_; first | refine QX.one rfl (One.quoM hA rfl rfl rfl ?_) ?_) | (refine QX.k 4 ?_; first | refine QX.one rfl (One.remM hA rfl rfl rfl ?_) ?_) | (refine QX.k 5 ?_; first | refine QX.one rfl (One.shrM hA rfl rfl rfl ?_) ?_) | (refine QX.k 6 ?_; first | refine QX.one rfl (One.bitsM hA rfl rfl rfl rfl) ?_) | (refine QX.k 7 ?_; first | refine QX.one rfl (One.concatM hA rfl rfl rfl ?_) ?_) | (refine QX.k 8 ?_; first | refine QX.one rfl (One.eqBoolM hA tabOk rfl rfl rfl rfl rfl) ?_) | (refine QX.k 9 ?_; first | refine QX.one rfl (One.neBoolM hA tabOk rfl rfl rfl rfl rfl) ?_) | (refine QX.k 10 ?_; first | refine QX.one rfl (One.lenOwnM hA tabOk rfl rfl rfl rfl) ?_) | (refine QX.k 11 ?_; first | refine QX.one rfl (One.appendM hA tabOk _ rfl rfl rfl rfl rfl rfl ?_ ?_) ?_ | refine QX.one rfl (One.appendMM hA tabOk rfl rfl rfl rfl rfl ?_ ?_) ?_ | refine QX.one rfl (One.appendOwnM hA tabOk _ rfl rfl rfl rfl rfl rfl rfl ?_ ?_) ?_ | refine QX.one rfl (One.appendOwnMM hA tabOk rfl rfl rfl rfl rfl rfl ?_ ?_) ?_ | refine QX.one rfl (One.appendOwn0 hA tabOk rfl rfl rfl rfl rfl rfl ?_ ?_) ?_) | (refine QX.k 13 ?_; first | refine QX.one rfl (One.byteM hA tabOk rfl rfl rfl rfl rfl ?_ ?_) ?_) | (refine QX.k 14 ?_; first | refine QX.one rfl (One.loadRatM hA tabOk rfl rfl rfl rfl rfl rfl ?_) ?_) | (refine QX.k 15 ?_; first | refine QX.one rfl (One.storeRatM hA tabOk _ rfl rfl rfl rfl rfl rfl rfl rfl (fun _ => rfl) ?_) ?_) | (refine QX.k 16 ?_; first | refine QX.one rfl (One.makeM hA tabOk encI 0 rfl rfl rfl rfl rfl rfl rfl ?_ ?_ ?_) ?_) | (refine QX.k 17 ?_; first | refine QX.one rfl (One.build0 tabOk rfl rfl) ?_) | (refine QX.k 18 ?_; first | refine QX.one rfl (One.fieldRat tabOk rfl rfl rfl rfl (by decide) rfl rfl) ?_)) <;> (first | refine QSg.pass ?_ | (((try simp only [zn]) <;> (try simp (disch := omega) only [zz hA, zb, zy, reduceCtorEq, Bool.false_eq_true, Int.reduceLT, Int.reduceLE, Int.reduceNeg]) <;> (try simp only [zw])) <;> omega)))
        | refine QX.raw ?_)
    | refine Thn.exit ?_
    | refine Blk.here ?_
    | refine Blk.other (by decide) ?_
    | refine ⟨.inl rfl, _, RetOk.ev tabOk (by conv => lhs; cbv), ?_⟩
    | fail)
  · refine AOL.scall rfl rfl (hg _ _ _ ?_ ?_) ?_
    · (((try simp only [zn]) <;> (try simp (disch := omega) only [zz hA, zb, zy, reduceCtorEq, Bool.false_eq_true, Int.reduceLT, Int.reduceLE, Int.reduceNeg]) <;> (try simp only [zw])) <;> omega)
    · (((try simp only [zn]) <;> (try simp (disch := omega) only [zz hA, zb, zy, reduceCtorEq, Bool.false_eq_true, Int.reduceLT, Int.reduceLE, Int.reduceNeg]) <;> (try simp only [zw])) <;> omega)
    rintro y st' ⟨rfl, rfl⟩
    refine AOL.norm (by conv => lhs; cbv) ?_
    try first | refine AOLg.of [] ?_ | refine QSg.of [] ?_
    repeat' (first
      | (refine AWp.pass ?_; first
          | refine AWp.seq ?_
          | refine AWp.block ?_
          | refine AWp.skip ?_
          | refine AWp.regG [] (by conv => lhs; cbv) ?_
          | refine AWp.cond_t rfl ?_
          | refine AWp.cond_f rfl ?_
          | (refine AWp.cond rfl ?_ ?_ <;> intro hc <;> (try rw [hc]) <;> ((try simp only [zn] at hc) <;> (try simp (disch := omega) only [zz hA, zb, zy, reduceCtorEq, Bool.false_eq_true, Int.reduceLT, Int.reduceLE, Int.reduceNeg] at hc) <;> (try simp only [zw] at hc)) <;> (try (exfalso; omega)))
          | refine AWp.exit ?_
          | refine AWp.ret ⟨.inr rfl, _, RetOk.ev tabOk (by conv => lhs; cbv), ?_⟩
          | refine AWp.drawKG [] 0 rfl (by decide +kernel) (by conv => lhs; cbv) (by conv => lhs; cbv) ?_
          | refine AWp.drawKG [] 1 rfl (by decide +kernel) (by conv => lhs; cbv) (by conv => lhs; cbv) ?_
          | refine AWp.drawKG [] 2 rfl (by decide +kernel) (by conv => lhs; cbv) (by conv => lhs; cbv) ?_
          | refine AWp.drawKG [] 3 rfl (by decide +kernel) (by conv => lhs; cbv) (by conv => lhs; cbv) ?_
          | refine AWp.drawKG [] 4 rfl (by decide +kernel) (by conv => lhs; cbv) (by conv => lhs; cbv) ?_
          | refine AWp.drawKG [] 5 rfl (by decide +kernel) (by conv => lhs; cbv) (by conv => lhs; cbv) ?_
          | refine AWp.drawKG [] 6 rfl (by decide +kernel) (by conv => lhs; cbv) (by conv => lhs; cbv) ?_
          | refine AWp.drawKG [] 8 rfl (by decide +kernel) (by conv => lhs; cbv) (by conv => lhs; cbv) ?_)
      | (refine AOLg.pass ?_; refine AOLg.nx hA tabOk (by conv => lhs; cbv) ?_; first
          | refine NX.done ?_
          | refine NX.gt ?_
          | refine NX.gf ?_
          | (refine NX.gs ?_ ?_ <;> intro hc <;> rw [hc] <;> ((try simp only [zn] at hc) <;> (try simp (disch := omega) only [zz hA, zb, zy, reduceCtorEq, Bool.false_eq_true, Int.reduceLT, Int.reduceLE, Int.reduceNeg] at hc) <;> (try simp only [zw] at hc)) <;> (try (exfalso; omega)))
          | ((first | (refine NX.k 1 ?_; first | refine NX.one (One.elemM hA tabOk rfl rfl rfl rfl ?_ ?_) ?_ | refine NX.one (One.elemOwnM hA tabOk rfl rfl rfl rfl rfl ?_ ?_) ?_) | (refine NX.k 2 ?_; first | refine NX.one (One.clipM tabOk rfl rfl rfl rfl rfl ?_ ?_) ?_ | refine NX.one (One.cut_hM hA tabOk rfl rfl rfl rfl ?_ ?_) ?_ | refine NX.one (One.cut_lM hA tabOk rfl rfl rfl rfl ?_ ?_) ?_ | refine NX.one (One.cut_lhM hA tabOk rfl rfl rfl rfl rfl ?_ ?_ ?_) ?_) | (refine NX.k 3 ?_; first | refine NX.one (One.quoM hA rfl rfl rfl ?_) ?_) | (refine NX.k 4 ?_; first | refine NX.one (One.remM hA rfl rfl rfl ?_) ?_) | (refine NX.k 5 ?_; first | refine NX.one (One.shrM hA rfl rfl rfl ?_) ?_) | (refine NX.k 6 ?_; first | refine NX.one (One.bitsM hA rfl rfl rfl rfl) ?_) | (refine NX.k 7 ?_; first | refine NX.one (One.concatM hA rfl rfl rfl ?_) ?_) | (refine NX.k 8 ?_; first | refine NX.one (One.eqBoolM hA tabOk rfl rfl rfl rfl rfl) ?_) | (refine NX.k 9 ?_; first | refine NX.one (One.neBoolM hA tabOk rfl rfl rfl rfl rfl) ?_) | (refine NX.k 10 ?_; first | refine NX.one (One.lenOwnM hA tabOk rfl rfl rfl rfl) ?_) | (refine NX.k 11 ?_; first | refine NX.one (One.appendM hA tabOk _ rfl rfl rfl rfl rfl rfl ?_ ?_) ?_ | refine NX.one (One.appendMM hA tabOk rfl rfl rfl rfl rfl ?_ ?_) ?_ | refine NX.one (One.appendOwnM hA tabOk _ rfl rfl rfl rfl rfl rfl rfl ?_ ?_) ?_ | refine NX.one (One.appendOwnMM hA tabOk rfl rfl rfl rfl rfl rfl ?_ ?_) ?_ | refine NX.one (One.appendOwn0 hA tabOk rfl rfl rfl rfl rfl rfl ?_ ?_) ?_) | (refine NX.k 13 ?_; first | refine NX.one (One.byteM hA tabOk rfl rfl rfl rfl rfl ?_ ?_) ?_) | (refine NX.k 14 ?_; first | refine NX.one (One.loadRatM hA tabOk rfl rfl rfl rfl rfl rfl ?_) ?_) | (refine NX.k 15 ?_; first | refine NX.one (One.storeRatM hA tabOk _ rfl rfl rfl rfl rfl rfl rfl rfl (fun _ => rfl) ?_) ?_) | (refine NX.k 16 ?_; first | refine NX.one (One.makeM hA tabOk encI 0 rfl rfl rfl rfl rfl rfl rfl ?_ ?_ ?_) ?_) | (refine NX.k 17 ?_; first | refine NX.one (One.build0 tabOk rfl rfl) ?_) | (refine NX.k 18 ?_; first | refine NX.one (One.fieldRat tabOk rfl rfl rfl rfl (by decide) rfl rfl) ?_)) <;> (first | refine AOLg.pass ?_ | (((try simp only [zn]) <;> (try simp (disch := omega) only [zz hA, zb, zy, reduceCtorEq, Bool.false_eq_true, Int.reduceLT, Int.reduceLE, Int.reduceNeg]) <;> (try simp only [zw])) <;> omega)))
          | refine NX.raw ?_)
      | (refine QSg.pass ?_; refine QSg.nx hA tabOk (by conv => lhs; cbv) ?_; first
          | refine QX.done ?_
          | refine QX.gt ?_
          | refine QX.gf ?_
          | (refine QX.gs ?_ ?_ <;> intro hc <;> rw [hc] <;> ((try simp only [zn] at hc) <;> (try simp (disch := omega) only [zz hA, zb, zy, reduceCtorEq, Bool.false_eq_true, Int.reduceLT, Int.reduceLE, Int.reduceNeg] at hc) <;> (try simp only [zw] at hc)) <;> (try (exfalso; omega)))
          | ((first | (refine QX.k 1 ?_; first | refine QX.one rfl (One.elemM hA tabOk rfl rfl rfl rfl ?_ ?_) ?_ | refine QX.one rfl (One.elemOwnM hA tabOk rfl rfl rfl rfl rfl ?_ ?_) ?_) | (refine QX.k 2 ?_; first | refine QX.one rfl (One.clipM tabOk rfl rfl rfl rfl rfl ?_ ?_) ?_ | refine QX.one rfl (One.cut_hM hA tabOk rfl rfl rfl rfl ?_ ?_) ?_ | refine QX.one rfl (One.cut_lM hA tabOk rfl rfl rfl rfl ?_ ?_) ?_ | refine QX.one rfl (One.cut_lhM hA tabOk rfl rfl rfl rfl rfl ?_ ?_ ?_) ?_) | (refine QX.k 3 ?_; first | refine QX.one rfl (One.quoM hA rfl rfl rfl ?_) ?_) | (refine QX.k 4 ?_; first | refine QX.one rfl (One.remM hA rfl rfl rfl ?_) ?_) | (refine QX.k 5 ?_; first | refine QX.one rfl (One.shrM hA rfl rfl rfl ?_) ?_) | (refine QX.k 6 ?_; first | refine QX.one rfl (One.bitsM hA rfl rfl rfl rfl) ?_) | (refine QX.k 7 ?_; first | refine QX.one rfl (One.concatM hA rfl rfl rfl ?_) ?_) | (refine QX.k 8 ?_; first | refine QX.one rfl (One.eqBoolM hA tabOk rfl rfl rfl rfl rfl) ?_) | (refine QX.k 9 ?_; first | refine QX.one rfl (One.neBoolM hA tabOk rfl rfl rfl rfl rfl) ?_) | (refine QX.k 10 ?_; first | refine QX.one rfl (One.lenOwnM hA tabOk rfl rfl rfl rfl) ?_) | (refine QX.k 11 ?_; first | refine QX.one rfl (One.appendM hA tabOk _ rfl rfl rfl rfl rfl rfl ?_ ?_) ?_ | refine QX.one rfl (One.appendMM hA tabOk rfl rfl rfl rfl rfl ?_ ?_) ?_ | refine QX.one rfl (One.appendOwnM hA tabOk _ rfl rfl rfl rfl rfl rfl rfl ?_ ?_) ?_ | refine QX.one rfl (One.appendOwnMM hA tabOk rfl rfl rfl rfl rfl rfl ?_ ?_) ?_ | refine QX.one rfl (One.appendOwn0 hA tabOk rfl rfl rfl rfl rfl rfl ?_ ?_) ?_) | (refine QX.k 13 ?_; first | refine QX.one rfl (One.byteM hA tabOk rfl rfl rfl rfl rfl ?_ ?_) ?_) | (refine QX.k 14 ?_; first | refine QX.one rfl (One.loadRatM hA tabOk rfl rfl rfl rfl rfl rfl ?_) ?_) | (refine QX.k 15 ?_; first | refine QX.one rfl (One.storeRatM hA tabOk _ rfl rfl rfl rfl rfl rfl rfl rfl (fun _ => rfl) ?_) ?_) | (refine QX.k 16 ?_; first | refine QX.one rfl (One.makeM hA tabOk encI 0 rfl rfl rfl rfl rfl rfl rfl ?_ ?_ ?_) ?_) | (refine QX.k 17 ?_; first | refine QX.one rfl (One.build0 tabOk rfl rfl) ?_) | (refine QX.k 18 ?_; first | refine QX.one rfl (One.fieldRat tabOk rfl rfl rfl rfl (by decide) rfl rfl) ?_)) <;> (first | refine QSg.pass ?_ | (((try simp only [zn]) <;> (try simp (disch := omega) only [zz hA, zb, zy, reduceCtorEq, Bool.false_eq_true, Int.reduceLT, Int.reduceLE, Int.reduceNeg]) <;> (try simp only [zw])) <;> omega)))
          | refine QX.raw ?_)
      | refine Thn.exit ?_
      | refine Blk.here ?_
      | refine Blk.other (by decide) ?_
      | refine ⟨.inl rfl, _, RetOk.ev tabOk (by conv => lhs; cbv), ?_⟩
      | fail)
    · have hsu := thoseM_succ k pr
      rw [if_pos hc] at hsu
      refine ⟨(k + 1, ver + 1), ?_, ?_, rfl, ?_, ?_, (by repeat' (first | exact subE.nil | refine subE.cons rfl ?_))⟩ <;> (try omega)
      · simp only [hsu]
        ((try simp only [zn]) <;> (try simp (disch := omega) only [zz hA, zb, zy, reduceCtorEq, Bool.false_eq_true, Int.reduceLT, Int.reduceLE, Int.reduceNeg]) <;> (try simp only [zw]))
      · exact .int rfl (by (((try simp only [zn]) <;> (try simp (disch := omega) only [zz hA, zb, zy, reduceCtorEq, Bool.false_eq_true, Int.reduceLT, Int.reduceLE, Int.reduceNeg]) <;> (try simp only [zw])) <;> omega)) (.cons rfl .nil)
    · have hsu := thoseM_succ k pr
      rw [if_neg (by rw [hc]; simp)] at hsu
      refine ⟨(k + 1, ver), ?_, ?_, rfl, ?_, ?_, (by repeat' (first | exact subE.nil | refine subE.cons rfl ?_))⟩ <;> (try omega)
      · simp only [hsu]
      · exact .int rfl (by (((try simp only [zn]) <;> (try simp (disch := omega) only [zz hA, zb, zy, reduceCtorEq, Bool.false_eq_true, Int.reduceLT, Int.reduceLE, Int.reduceNeg]) <;> (try simp only [zw])) <;> omega)) (.cons rfl .nil)
  · obtain rfl : k = V.length := by omega
    exact ⟨_, _, rfl, rfl⟩

theorem those_2 (V : List Int) (N : List (Int × Int)) (M : List Int) (g : FuncId) (caps : List AV) (pr : Int → Bool) (p0 p1 : AObj) (hV : V.length ≤ 1000000)
    (hg : ∀ (n : Int) (q1 q2 : AObj), 0 ≤ n → n < V.length → ACalls Try.prog g (.ic (.lit (.int .i64 n)) :: caps) [p0, p1, q1, q2] (fun x s' => x = .ic (.lit (.bool (hid A (pr n)))) ∧ s' = [p0, p1, q1, q2])) :
    ACalls Try.prog 43 [(clP A V N M).av, .fn (.func g) [] caps] [p0, p1] (fun x s' => ∃ ver q, x = .own 3 ver ∧ s' = [p0, p1, q, .row true ver 3 1 (hid A (List.map encI (thoseM V.length pr)))]) := by
  refine ACalls.of Try.func43 rfl (by kernel_rfl) rfl ?_
  try first | refine AOLg.of [5] ?_ | refine QSg.of [5] ?_
  repeat' (first
    | (refine AWp.pass ?_; first
        | refine AWp.seq ?_
        | refine AWp.block ?_
        | refine AWp.skip ?_
        | refine AWp.regG [5] (by conv => lhs; cbv) ?_
        | refine AWp.cond_t rfl ?_
        | refine AWp.cond_f rfl ?_
        | (refine AWp.cond rfl ?_ ?_ <;> intro hc <;> (try rw [hc]) <;> ((try simp only [zn] at hc) <;> (try simp (disch := omega) only [zz hA, zb, zy, reduceCtorEq, Bool.false_eq_true, Int.reduceLT, Int.reduceLE, Int.reduceNeg] at hc) <;> (try simp only [zw] at hc)) <;> (try (exfalso; omega)))
        | refine AWp.exit ?_
        | refine AWp.ret ⟨.inr rfl, _, RetOk.ev tabOk (by conv => lhs; cbv), ?_⟩
        | refine AWp.drawKG [5] 0 rfl (by decide +kernel) (by conv => lhs; cbv) (by conv => lhs; cbv) ?_
        | refine AWp.drawKG [5] 1 rfl (by decide +kernel) (by conv => lhs; cbv) (by conv => lhs; cbv) ?_
        | refine AWp.drawKG [5] 2 rfl (by decide +kernel) (by conv => lhs; cbv) (by conv => lhs; cbv) ?_
        | refine AWp.drawKG [5] 3 rfl (by decide +kernel) (by conv => lhs; cbv) (by conv => lhs; cbv) ?_
        | refine AWp.drawKG [5] 4 rfl (by decide +kernel) (by conv => lhs; cbv) (by conv => lhs; cbv) ?_
        | refine AWp.drawKG [5] 5 rfl (by decide +kernel) (by conv => lhs; cbv) (by conv => lhs; cbv) ?_
        | refine AWp.drawKG [5] 6 rfl (by decide +kernel) (by conv => lhs; cbv) (by conv => lhs; cbv) ?_
        | refine AWp.drawKG [5] 8 rfl (by decide +kernel) (by conv => lhs; cbv) (by conv => lhs; cbv) ?_)
    | (refine AOLg.pass ?_; refine AOLg.nx hA tabOk (by conv => lhs; cbv) ?_; first
        | refine NX.done ?_
        | refine NX.gt ?_
        | refine NX.gf ?_
        | (refine NX.gs ?_ ?_ <;> intro hc <;> rw [hc] <;> ((try simp only [zn] at hc) <;> (try simp (disch := omega) only [zz hA, zb, zy, reduceCtorEq, Bool.false_eq_true, Int.reduceLT, Int.reduceLE, Int.reduceNeg] at hc) <;> (try simp only [zw] at hc)) <;> (try (exfalso; omega)))
        | ((first | (refine NX.k 1 ?_; first | refine NX.one (One.elemM hA tabOk rfl rfl rfl rfl ?_ ?_) ?_ | refine NX.one (One.elemOwnM hA tabOk rfl rfl rfl rfl rfl ?_ ?_) ?_) | (refine NX.k 2 ?_; first | refine NX.one (One.clipM tabOk rfl rfl rfl rfl rfl ?_ ?_) ?_ | refine NX.one (One.cut_hM hA tabOk rfl rfl rfl rfl ?_ ?_) ?_ | refine NX.one (One.cut_lM hA tabOk rfl rfl rfl rfl ?_ ?_) ?_ | refine NX.one (One.cut_lhM hA tabOk rfl rfl rfl rfl rfl ?_ ?_ ?_) ?_) | (refine NX.k 3 ?_; first | refine NX.one (One.quoM hA rfl rfl rfl ?_) ?_) | (refine NX.k 4 ?_; first | refine NX.one (One.remM hA rfl rfl rfl ?_) ?_) | (refine NX.k 5 ?_; first | refine NX.one (One.shrM hA rfl rfl rfl ?_) ?_) | (refine NX.k 6 ?_; first | refine NX.one (One.bitsM hA rfl rfl rfl rfl) ?_) | (refine NX.k 7 ?_; first | refine NX.one (One.concatM hA rfl rfl rfl ?_) ?_) | (refine NX.k 8 ?_; first | refine NX.one (One.eqBoolM hA tabOk rfl rfl rfl rfl rfl) ?_) | (refine NX.k 9 ?_; first | refine NX.one (One.neBoolM hA tabOk rfl rfl rfl rfl rfl) ?_) | (refine NX.k 10 ?_; first | refine NX.one (One.lenOwnM hA tabOk rfl rfl rfl rfl) ?_) | (refine NX.k 11 ?_; first | refine NX.one (One.appendM hA tabOk _ rfl rfl rfl rfl rfl rfl ?_ ?_) ?_ | refine NX.one (One.appendMM hA tabOk rfl rfl rfl rfl rfl ?_ ?_) ?_ | refine NX.one (One.appendOwnM hA tabOk _ rfl rfl rfl rfl rfl rfl rfl ?_ ?_) ?_ | refine NX.one (One.appendOwnMM hA tabOk rfl rfl rfl rfl rfl rfl ?_ ?_) ?_ | refine NX.one (One.appendOwn0 hA tabOk rfl rfl rfl rfl rfl rfl ?_ ?_) ?_) | (refine NX.k 13 ?_; first | refine NX.one (One.byteM hA tabOk rfl rfl rfl rfl rfl ?_ ?_) ?_) | (refine NX.k 14 ?_; first | refine NX.one (One.loadRatM hA tabOk rfl rfl rfl rfl rfl rfl ?_) ?_) | (refine NX.k 15 ?_; first | refine NX.one (One.storeRatM hA tabOk _ rfl rfl rfl rfl rfl rfl rfl rfl (fun _ => rfl) ?_) ?_) | (refine NX.k 16 ?_; first | refine NX.one (One.makeM hA tabOk encI 0 rfl rfl rfl rfl rfl rfl rfl ?_ ?_ ?_) ?_) | (refine NX.k 17 ?_; first | refine NX.one (One.build0 tabOk rfl rfl) ?_) | (refine NX.k 18 ?_; first | refine NX.one (One.fieldRat tabOk rfl rfl rfl rfl (by decide) rfl rfl) ?_)) <;> (first | refine AOLg.pass ?_ | (((try simp only [zn]) <;> (try simp (disch := omega) only [zz hA, zb, zy, reduceCtorEq, Bool.false_eq_true, Int.reduceLT, Int.reduceLE, Int.reduceNeg]) <;> (try simp only [zw])) <;> omega)))
        | (refine NX.one (One.nilOwn tabOk 5 22 rfl rfl rfl) ?_)
        | refine NX.raw ?_)
    | (refine QSg.pass ?_; refine QSg.nx hA tabOk (by conv => lhs; cbv) ?_; first
        | refine QX.done ?_
        | refine QX.gt ?_
        | refine QX.gf ?_
        | (refine QX.gs ?_ ?_ <;> intro hc <;> rw [hc] <;> ((try simp only [zn] at hc) <;> (try simp (disch := omega) only [zz hA, zb, zy, reduceCtorEq, Bool.false_eq_true, Int.reduceLT, Int.reduceLE, Int.reduceNeg] at hc) <;> (try simp only [zw] at hc)) <;> (try (exfalso; omega)))
        | ((first | (refine QX.k 1 ?_; first | refine QX.one rfl (One.elemM hA tabOk rfl rfl rfl rfl ?_ ?_) ?_ | refine QX.one rfl (One.elemOwnM hA tabOk rfl rfl rfl rfl rfl ?_ ?_) ?_) | (refine QX.k 2 ?_; first | refine QX.one rfl (One.clipM tabOk rfl rfl rfl rfl rfl ?_ ?_) ?_ | refine QX.one rfl (One.cut_hM hA tabOk rfl rfl rfl rfl ?_ ?_) ?_ | refine QX.one rfl (One.cut_lM hA tabOk rfl rfl rfl rfl ?_ ?_) ?_ | refine QX.one rfl (One.cut_lhM hA tabOk rfl rfl rfl rfl rfl ?_ ?_ ?_) ?_) | (refine QX.k 3 ?_; first | refine QX.one rfl (One.quoM hA rfl rfl rfl ?_) ?_) | (refine QX.k 4 ?_; first | refine QX.one rfl (One.remM hA rfl rfl rfl ?_) ?_) | (refine QX.k 5 ?_; first | refine QX.one rfl (One.shrM hA rfl rfl rfl ?_) ?_) | (refine QX.k 6 ?_; first | refine QX.one rfl (One.bitsM hA rfl rfl rfl rfl) ?_) | (refine QX.k 7 ?_; first | refine QX.one rfl (One.concatM hA rfl rfl rfl ?_) ?_) | (refine QX.k 8 ?_; first | refine QX.one rfl (One.eqBoolM hA tabOk rfl rfl rfl rfl rfl) ?_) | (refine QX.k 9 ?_; first | refine QX.one rfl (One.neBoolM hA tabOk rfl rfl rfl rfl rfl) ?_) | (refine QX.k 10 ?_; first | refine QX.one rfl (One.lenOwnM hA tabOk rfl rfl rfl rfl) ?_) | (refine QX.k 11 ?_; first | refine QX.one rfl (One.appendM hA tabOk _ rfl rfl rfl rfl rfl rfl ?_ ?_) ?_ | refine QX.one rfl (One.appendMM hA tabOk rfl rfl rfl rfl rfl ?_ ?_) ?_ | refine QX.one rfl (One.appendOwnM hA tabOk _ rfl rfl rfl rfl rfl rfl rfl ?_ ?_) ?_ | refine QX.one rfl (One.appendOwnMM hA tabOk rfl rfl rfl rfl rfl rfl ?_ ?_) ?_ | refine QX.one rfl (One.appendOwn0 hA tabOk rfl rfl rfl rfl rfl rfl ?_ ?_) ?_) | (refine QX.k 13 ?_; first | refine QX.one rfl (One.byteM hA tabOk rfl rfl rfl rfl rfl ?_ ?_) ?_) | (refine QX.k 14 ?_; first | refine QX.one rfl (One.loadRatM hA tabOk rfl rfl rfl rfl rfl rfl ?_) ?_) | (refine QX.k 15 ?_; first | refine QX.one rfl (One.storeRatM hA tabOk _ rfl rfl rfl rfl rfl rfl rfl rfl (fun _ => rfl) ?_) ?_) | (refine QX.k 16 ?_; first | refine QX.one rfl (One.makeM hA tabOk encI 0 rfl rfl rfl rfl rfl rfl rfl ?_ ?_ ?_) ?_) | (refine QX.k 17 ?_; first | refine QX.one rfl (One.build0 tabOk rfl rfl) ?_) | (refine QX.k 18 ?_; first | refine QX.one rfl (One.fieldRat tabOk rfl rfl rfl rfl (by decide) rfl rfl) ?_)) <;> (first | refine QSg.pass ?_ | (((try simp only [zn]) <;> (try simp (disch := omega) only [zz hA, zb, zy, reduceCtorEq, Bool.false_eq_true, Int.reduceLT, Int.reduceLE, Int.reduceNeg]) <;> (try simp only [zw])) <;> omega)))
        | (refine QX.one rfl (One.nilOwn tabOk 5 22 rfl rfl rfl) ?_)
        | refine QX.raw ?_)
    | refine Thn.exit ?_
    | refine Blk.here ?_
    | refine Blk.other (by decide) ?_
    | refine ⟨.inl rfl, _, RetOk.ev tabOk (by conv => lhs; cbv), ?_⟩
    | fail)
  refine AWp.loopU (fun x : Nat × Nat => [(10, .ic (.lit (.int .i64 (hid A (cN x.1))))), (5, .own 3 x.2)]) (fun x => [p0, p1, .var true 25 [.ic (.sl 1 false (hid A (List.map encI V))), .ic (.sl 2 false (hid A (List.map encN N))), .ic (.sl 1 false (hid A (List.map encI M)))], .row true x.2 3 1 (hid A (List.map encI (thoseM x.1 pr)))]) (fun x => V.length - x.1) (fun x => x.1 ≤ V.length) (0, 0) (by conv => lhs; cbv) (Nat.zero_le _) (.int rfl (by simp [hA, real, hid, cN]) (.cons rfl .nil)) (by simp [hA, real, hid, thoseM]) ?_
  rintro ⟨k, ver⟩ hk
  simp only [] at hk ⊢
  have hlen := thoseM_len k pr
  try first | refine AOLg.of [] ?_ | refine QSg.of [] ?_
  repeat' (first
    | (refine AWp.pass ?_; first
        | refine AWp.seq ?_
        | refine AWp.block ?_
        | refine AWp.skip ?_
        | refine AWp.regG [] (by conv => lhs; cbv) ?_
        | refine AWp.cond_t rfl ?_
        | refine AWp.cond_f rfl ?_
        | (refine AWp.cond rfl ?_ ?_ <;> intro hc <;> (try rw [hc]) <;> ((try simp only [zn] at hc) <;> (try simp (disch := omega) only [zz hA, zb, zy, reduceCtorEq, Bool.false_eq_true, Int.reduceLT, Int.reduceLE, Int.reduceNeg] at hc) <;> (try simp only [zw] at hc)) <;> (try (exfalso; omega)))
        | refine AWp.exit ?_
        | refine AWp.ret ⟨.inr rfl, _, RetOk.ev tabOk (by conv => lhs; cbv), ?_⟩
        | refine AWp.drawKG [] 0 rfl (by decide +kernel) (by conv => lhs; cbv) (by conv => lhs; cbv) ?_
        | refine AWp.drawKG [] 1 rfl (by decide +kernel) (by conv => lhs; cbv) (by conv => lhs; cbv) ?_
        | refine AWp.drawKG [] 2 rfl (by decide +kernel) (by conv => lhs; cbv) (by conv => lhs; cbv) ?_
        | refine AWp.drawKG [] 3 rfl (by decide +kernel) (by conv => lhs; cbv) (by conv => lhs; cbv) ?_
        | refine AWp.drawKG [] 4 rfl (by decide +kernel) (by conv => lhs; cbv) (by conv => lhs; cbv) ?_
        | refine AWp.drawKG [] 5 rfl (by decide +kernel) (by conv => lhs; cbv) (by conv => lhs; cbv) ?_
        | refine AWp.drawKG [] 6 rfl (by decide +kernel) (by conv => lhs; cbv) (by conv => lhs; cbv) ?_
        | refine AWp.drawKG [] 8 rfl (by decide +kernel) (by conv => lhs; cbv) (by conv => lhs; cbv) ?_)
    | (refine AOLg.pass ?_; refine AOLg.nx hA tabOk (by conv => lhs; cbv) ?_; first
        | refine NX.done ?_
        | refine NX.gt ?_
        | refine NX.gf ?_
        | (refine NX.gs ?_ ?_ <;> intro hc <;> rw [hc] <;> ((try simp only [zn] at hc) <;> (try simp (disch := omega) only [zz hA, zb, zy, reduceCtorEq, Bool.false_eq_true, Int.reduceLT, Int.reduceLE, Int.reduceNeg] at hc) <;> (try simp only [zw] at hc)) <;> (try (exfalso; omega)))
        | ((first | (refine NX.k 1 ?_; first | refine NX.one (One.elemM hA tabOk rfl rfl rfl rfl ?_ ?_) ?_ | refine NX.one (One.elemOwnM hA tabOk rfl rfl rfl rfl rfl ?_ ?_) ?_) | (refine NX.k 2 ?_; first | refine NX.one (One.clipM tabOk rfl rfl rfl rfl rfl ?_ ?_) ?_ | refine NX.one (One.cut_hM hA tabOk rfl rfl rfl rfl ?_ ?_) ?_ | refine NX.one (One.cut_lM hA tabOk rfl rfl rfl rfl ?_ ?_) ?_ | refine NX.one (One.cut_lhM hA tabOk rfl rfl rfl rfl rfl ?_ ?_ ?_) ?_) | (refine NX.k 3 ?_; first | refine NX.one (One.quoM hA rfl rfl rfl ?_) ?_) | (refine NX.k 4 ?_; first | refine NX.one (One.remM hA rfl rfl rfl ?_) ?_) | (refine NX.k 5 ?_; first | refine NX.one (One.shrM hA rfl rfl rfl ?_) ?_) | (refine NX.k 6 ?_; first | refine NX.one (One.bitsM hA rfl rfl rfl rfl) ?_) | (refine NX.k 7 ?_; first | refine NX.one (One.concatM hA rfl rfl rfl ?_) ?_) | (refine NX.k 8 ?_; first | refine NX.one (One.eqBoolM hA tabOk rfl rfl rfl rfl rfl) ?_) | (refine NX.k 9 ?_; first | refine NX.one (One.neBoolM hA tabOk rfl rfl rfl rfl rfl) ?_) | (refine NX.k 10 ?_; first | refine NX.one (One.lenOwnM hA tabOk rfl rfl rfl rfl) ?_) | (refine NX.k 11 ?_; first | refine NX.one (One.appendM hA tabOk _ rfl rfl rfl rfl rfl rfl ?_ ?_) ?_ | refine NX.one (One.appendMM hA tabOk rfl rfl rfl rfl rfl ?_ ?_) ?_ | refine NX.one (One.appendOwnM hA tabOk _ rfl rfl rfl rfl rfl rfl rfl ?_ ?_) ?_ | refine NX.one (One.appendOwnMM hA tabOk rfl rfl rfl rfl rfl rfl ?_ ?_) ?_ | refine NX.one (One.appendOwn0 hA tabOk rfl rfl rfl rfl rfl rfl ?_ ?_) ?_) | (refine NX.k 13 ?_; first | refine NX.one (One.byteM hA tabOk rfl rfl rfl rfl rfl ?_ ?_) ?_) | (refine NX.k 14 ?_; first | refine NX.one (One.loadRatM hA tabOk rfl rfl rfl rfl rfl rfl ?_) ?_) | (refine NX.k 15 ?_; first | refine NX.one (One.storeRatM hA tabOk _ rfl rfl rfl rfl rfl rfl rfl rfl (fun _ => rfl) ?_) ?_) | (refine NX.k 16 ?_; first | refine NX.one (One.makeM hA tabOk encI 0 rfl rfl rfl rfl rfl rfl rfl ?_ ?_ ?_) ?_) | (refine NX.k 17 ?_; first | refine NX.one (One.build0 tabOk rfl rfl) ?_) | (refine NX.k 18 ?_; first | refine NX.one (One.fieldRat tabOk rfl rfl rfl rfl (by decide) rfl rfl) ?_)) <;> (first | refine AOLg.pass ?_ | (((try simp only [zn]) <;> (try simp (disch := omega) only [zz hA, zb, zy, reduceCtorEq, Bool.false_eq_true, Int.reduceLT, Int.reduceLE, Int.reduceNeg]) <;> (try simp only [zw])) <;> omega)))
        | refine NX.raw ?_)
    | (refine QSg.pass ?_; refine QSg.nx hA tabOk (by conv => lhs; cbv) ?_; first
        | refine QX.done ?_
        | refine QX.gt ?_
        | refine QX.gf ?_
        | (refine QX.gs ?_ ?_ <;> intro hc <;> rw [hc] <;> ((try simp only [zn] at hc) <;> (try simp (disch := omega) only [zz hA, zb, zy, reduceCtorEq, Bool.false_eq_true, Int.reduceLT, Int.reduceLE, Int.reduceNeg] at hc) <;> (try simp only [zw] at hc)) <;> (try (exfalso; omega)))
        | ((first | (refine QX.k 1 ?_; first | refine QX.one rfl (One.elemM hA tabOk rfl rfl rfl rfl ?_ ?_) ?_ | refine QX.one rfl (One.elemOwnM hA tabOk rfl rfl rfl rfl rfl ?_ ?_) ?_) | (refine QX.k 2 ?_; first | refine QX.one rfl (One.clipM tabOk rfl rfl rfl rfl rfl ?_ ?_) ?_ | refine QX.one rfl (One.cut_hM hA tabOk rfl rfl rfl rfl ?_ ?_) ?_ | refine QX.one rfl (One.cut_lM hA tabOk rfl rfl rfl rfl ?_ ?_) ?_ | refine QX.one rfl (One.cut_lhM hA tabOk rfl rfl rfl rfl rfl ?_ ?_ ?_) ?_) | (refine QX.k 3 ?_; first | refine QX.one rfl (One.quoM hA rfl rfl rfl ?_) ?_) | (refine QX.k 4 ?_; first | refine QX.one rfl (One.remM hA rfl rfl rfl ?_) ?_) | (refine QX.k 5 ?_; first | refine QX.one rfl (One.shrM hA rfl rfl rfl ?_) ?_) | (refine QX.k 6 ?_; first | refine QX.one rfl (One.bitsM hA rfl rfl rfl rfl) ?_) | (refine QX.k 7 ?_; first | refine QX.one rfl (One.concatM hA rfl rfl rfl ?_) ?_) | (refine QX.k 8 ?_; first | refine QX.one rfl (One.eqBoolM hA tabOk rfl rfl rfl rfl rfl) ?_) | (refine QX.k 9 ?_; first | refine QX.one rfl (One.neBoolM hA tabOk rfl rfl rfl rfl rfl) ?_) | (refine QX.k 10 ?_; first | refine QX.one rfl (One.lenOwnM hA tabOk rfl rfl rfl rfl) ?_) | (refine QX.k 11 ?_; first | refine QX.one rfl (One.appendM hA tabOk _ rfl rfl rfl rfl rfl rfl ?_ ?_) ?_ | refine QX.one rfl (One.appendMM hA tabOk rfl rfl rfl rfl rfl ?_ ?_) ?_ | refine QX.one rfl (One.appendOwnM hA tabOk _ rfl rfl rfl rfl rfl rfl rfl ?_ ?_) ?_ | refine QX.one rfl (One.appendOwnMM hA tabOk rfl rfl rfl rfl rfl rfl ?_ ?_) ?_ | refine QX.one rfl (One.appendOwn0 hA tabOk rfl rfl rfl rfl rfl rfl ?_ ?_) ?_) | (refine QX.k 13 ?_; first | refine QX.one rfl (One.byteM hA tabOk rfl rfl rfl rfl rfl ?_ ?_) ?_) | (refine QX.k 14 ?_; first | refine QX.one rfl (One.loadRatM hA tabOk rfl rfl rfl rfl rfl rfl ?_) ?_) | (refine QX.k 15 ?_; first | refine QX.one rfl (One.storeRatM hA tabOk _ rfl rfl rfl rfl rfl rfl rfl rfl (fun _ => rfl) ?_) ?_) | (refine QX.k 16 ?_; first | refine QX.one rfl (One.makeM hA tabOk encI 0 rfl rfl rfl rfl rfl rfl rfl ?_ ?_ ?_) ?_) | (refine QX.k 17 ?_; first | refine QX.one rfl (One.build0 tabOk rfl rfl) ?_) | (refine QX.k 18 ?_; first | refine QX.one rfl (One.fieldRat tabOk rfl rfl rfl rfl (by decide) rfl rfl) ?_)) <;> (first | refine QSg.pass ?_ | (((try simp only [zn]) <;> (try simp (disch := omega) only [zz hA, zb, zy, reduceCtorEq, Bool.false_eq_true, Int.reduceLT, Int.reduceLE, Int.reduceNeg]) <;> (try simp only [zw])) <;> omega)))
        | refine QX.raw ?_)
    | refine Thn.exit ?_
    | refine Blk.here ?_
    | refine Blk.other (by decide) ?_
    | refine ⟨.inl rfl, _, RetOk.ev tabOk (by conv => lhs; cbv), ?_⟩
    | fail)
  · refine AOL.scall rfl rfl (hg _ _ _ ?_ ?_) ?_
    · (((try simp only [zn]) <;> (try simp (disch := omega) only [zz hA, zb, zy, reduceCtorEq, Bool.false_eq_true, Int.reduceLT, Int.reduceLE, Int.reduceNeg]) <;> (try simp only [zw])) <;> omega)
    · (((try simp only [zn]) <;> (try simp (disch := omega) only [zz hA, zb, zy, reduceCtorEq, Bool.false_eq_true, Int.reduceLT, Int.reduceLE, Int.reduceNeg]) <;> (try simp only [zw])) <;> omega)
    rintro y st' ⟨rfl, rfl⟩
    refine AOL.norm (by conv => lhs; cbv) ?_
    try first | refine AOLg.of [] ?_ | refine QSg.of [] ?_
    repeat' (first
      | (refine AWp.pass ?_; first
          | refine AWp.seq ?_
          | refine AWp.block ?_
          | refine AWp.skip ?_
          | refine AWp.regG [] (by conv => lhs; cbv) ?_
          | refine AWp.cond_t rfl ?_
          | refine AWp.cond_f rfl ?_
          | (refine AWp.cond rfl ?_ ?_ <;> intro hc <;> (try rw [hc]) <;> ((try simp only [zn] at hc) <;> (try simp (disch := omega) only [zz hA, zb, zy, reduceCtorEq, Bool.false_eq_true, Int.reduceLT, Int.reduceLE, Int.reduceNeg] at hc) <;> (try simp only [zw] at hc)) <;> (try (exfalso; omega)))
          | refine AWp.exit ?_
          | refine AWp.ret ⟨.inr rfl, _, RetOk.ev tabOk (by conv => lhs; cbv), ?_⟩
          | refine AWp.drawKG [] 0 rfl (by decide +kernel) (by conv => lhs; cbv) (by conv => lhs; cbv) ?_
          | refine AWp.drawKG [] 1 rfl (by decide +kernel) (by conv => lhs; cbv) (by conv => lhs; cbv) ?_
          | refine AWp.drawKG [] 2 rfl (by decide +kernel) (by conv => lhs; cbv) (by conv => lhs; cbv) ?_
          | refine AWp.drawKG [] 3 rfl (by decide +kernel) (by conv => lhs; cbv) (by conv => lhs; cbv) ?_
          | refine AWp.drawKG [] 4 rfl (by decide +kernel) (by conv => lhs; cbv) (by conv => lhs; cbv) ?_
          | refine AWp.drawKG [] 5 rfl (by decide +kernel) (by conv => lhs; cbv) (by conv => lhs; cbv) ?_
          | refine AWp.drawKG [] 6 rfl (by decide +kernel) (by conv => lhs; cbv) (by conv => lhs; cbv) ?_
          | refine AWp.drawKG [] 8 rfl (by decide +kernel) (by conv => lhs; cbv) (by conv => lhs; cbv) ?_)
      | (refine AOLg.pass ?_; refine AOLg.nx hA tabOk (by conv => lhs; cbv) ?_; first
          | refine NX.done ?_
          | refine NX.gt ?_
          | refine NX.gf ?_
          | (refine NX.gs ?_ ?_ <;> intro hc <;> rw [hc] <;> ((try simp only [zn] at hc) <;> (try simp (disch := omega) only [zz hA, zb, zy, reduceCtorEq, Bool.false_eq_true, Int.reduceLT, Int.reduceLE, Int.reduceNeg] at hc) <;> (try simp only [zw] at hc)) <;> (try (exfalso; omega)))
          | ((first | (refine NX.k 1 ?_; first | refine NX.one (One.elemM hA tabOk rfl rfl rfl rfl ?_ ?_) ?_ | refine NX.one (One.elemOwnM hA tabOk rfl rfl rfl rfl rfl ?_ ?_) ?_) | (refine NX.k 2 ?_; first | refine NX.one (One.clipM tabOk rfl rfl rfl rfl rfl ?_ ?_) ?_ | refine NX.one (One.cut_hM hA tabOk rfl rfl rfl rfl ?_ ?_) ?_ | refine NX.one (One.cut_lM hA tabOk rfl rfl rfl rfl ?_ ?_) ?_ | refine NX.one (One.cut_lhM hA tabOk rfl rfl rfl rfl rfl ?_ ?_ ?_) ?_) | (refine NX.k 3 ?_; first | refine NX.one (One.quoM hA rfl rfl rfl ?_) ?_) | (refine NX.k 4 ?_; first | refine NX.one (One.remM hA rfl rfl rfl ?_) ?_) | (refine NX.k 5 ?_; first | refine NX.one (One.shrM hA rfl rfl rfl ?_) ?_) | (refine NX.k 6 ?_; first | refine NX.one (One.bitsM hA rfl rfl rfl rfl) ?_) | (refine NX.k 7 ?_; first | refine NX.one (One.concatM hA rfl rfl rfl ?_) ?_) | (refine NX.k 8 ?_; first | refine NX.one (One.eqBoolM hA tabOk rfl rfl rfl rfl rfl) ?_) | (refine NX.k 9 ?_; first | refine NX.one (One.neBoolM hA tabOk rfl rfl rfl rfl rfl) ?_) | (refine NX.k 10 ?_; first | refine NX.one (One.lenOwnM hA tabOk rfl rfl rfl rfl) ?_) | (refine NX.k 11 ?_; first | refine NX.one (One.appendM hA tabOk _ rfl rfl rfl rfl rfl rfl ?_ ?_) ?_ | refine NX.one (One.appendMM hA tabOk rfl rfl rfl rfl rfl ?_ ?_) ?_ | refine NX.one (One.appendOwnM hA tabOk _ rfl rfl rfl rfl rfl rfl rfl ?_ ?_) ?_ | refine NX.one (One.appendOwnMM hA tabOk rfl rfl rfl rfl rfl rfl ?_ ?_) ?_ | refine NX.one (One.appendOwn0 hA tabOk rfl rfl rfl rfl rfl rfl ?_ ?_) ?_) | (refine NX.k 13 ?_; first | refine NX.one (One.byteM hA tabOk rfl rfl rfl rfl rfl ?_ ?_) ?_) | (refine NX.k 14 ?_; first | refine NX.one (One.loadRatM hA tabOk rfl rfl rfl rfl rfl rfl ?_) ?_) | (refine NX.k 15 ?_; first | refine NX.one (One.storeRatM hA tabOk _ rfl rfl rfl rfl rfl rfl rfl rfl (fun _ => rfl) ?_) ?_) | (refine NX.k 16 ?_; first | refine NX.one (One.makeM hA tabOk encI 0 rfl rfl rfl rfl rfl rfl rfl ?_ ?_ ?_) ?_) | (refine NX.k 17 ?_; first | refine NX.one (One.build0 tabOk rfl rfl) ?_) | (refine NX.k 18 ?_; first | refine NX.one (One.fieldRat tabOk rfl rfl rfl rfl (by decide) rfl rfl) ?_)) <;> (first | refine AOLg.pass ?_ | (((try simp only [zn]) <;> (try simp (disch := omega) only [zz hA, zb, zy, reduceCtorEq, Bool.false_eq_true, Int.reduceLT, Int.reduceLE, Int.reduceNeg]) <;> (try simp only [zw])) <;> omega)))
          | refine NX.raw ?_)
      | (refine QSg.pass ?_; refine QSg.nx hA tabOk (by conv => lhs; cbv) ?_; first
          | refine QX.done ?_
          | refine QX.gt ?_
          | refine QX.gf ?_
          | (refine QX.gs ?_ ?_ <;> intro hc <;> rw [hc] <;> ((try simp only [zn] at hc) <;> (try simp (disch := omega) only [zz hA, zb, zy, reduceCtorEq, Bool.false_eq_true, Int.reduceLT, Int.reduceLE, Int.reduceNeg] at hc) <;> (try simp only [zw] at hc)) <;> (try (exfalso; omega)))
          | ((first | (refine QX.k 1 ?_; first | refine QX.one rfl (One.elemM hA tabOk rfl rfl rfl rfl ?_ ?_) ?_ | refine QX.one rfl (One.elemOwnM hA tabOk rfl rfl rfl rfl rfl ?_ ?_) ?_) | (refine QX.k 2 ?_; first | refine QX.one rfl (One.clipM tabOk rfl rfl rfl rfl rfl ?_ ?_) ?_ | refine QX.one rfl (One.cut_hM hA tabOk rfl rfl rfl rfl ?_ ?_) ?_ | refine QX.one rfl (One.cut_lM hA tabOk rfl rfl rfl rfl ?_ ?_) ?_ | refine QX.one rfl (One.cut_lhM hA tabOk rfl rfl rfl rfl rfl ?_ ?_ ?_) ?_) | (refine QX.k 3 ?_; first | refine QX.one rfl (One.quoM hA rfl rfl rfl ?_) ?_) | (refine QX.k 4 ?_; first | refine QX.one rfl (One.remM hA rfl rfl rfl ?_) ?_) | (refine QX.k 5 ?_; first | refine QX.one rfl (One.shrM hA rfl rfl rfl ?_) ?_) | (refine QX.k 6 ?_; first | refine QX.one rfl (One.bitsM hA rfl rfl rfl rfl) ?_) | (refine QX.k 7 ?_; first | refine QX.one rfl (One.concatM hA rfl rfl rfl ?_) ?_) | (refine QX.k 8 ?_; first | refine QX.one rfl (One.eqBoolM hA tabOk rfl rfl rfl rfl rfl) ?_) | (refine QX.k 9 ?_; first | refine QX.one rfl (One.neBoolM hA tabOk rfl rfl rfl rfl rfl) ?_) | (refine QX.k 10 ?_; first | refine QX.one rfl (One.lenOwnM hA tabOk rfl rfl rfl rfl) ?_) | (refine QX.k 11 ?_; first | refine QX.one rfl (One.appendM hA tabOk _ rfl rfl rfl rfl rfl rfl ?_ ?_) ?_ | refine QX.one rfl (One.appendMM hA tabOk rfl rfl rfl rfl rfl ?_ ?_) ?_ | refine QX.one rfl (One.appendOwnM hA tabOk _ rfl rfl rfl rfl rfl rfl rfl ?_ ?_) ?_ | refine QX.one rfl (One.appendOwnMM hA tabOk rfl rfl rfl rfl rfl rfl ?_ ?_) ?_ | refine QX.one rfl (One.appendOwn0 hA tabOk rfl rfl rfl rfl rfl rfl ?_ ?_) ?_) | (refine QX.k 13 ?_; first | refine QX.one rfl (One.byteM hA tabOk rfl rfl rfl rfl rfl ?_ ?_) ?_) | (refine QX.k 14 ?_; first | refine QX.one rfl (One.loadRatM hA tabOk rfl rfl rfl rfl rfl rfl ?_) ?_) | (refine QX.k 15 ?_; first | refine QX.one rfl (One.storeRatM hA tabOk _ rfl rfl rfl rfl rfl rfl rfl rfl (fun _ => rfl) ?_) ?_) | (refine QX.k 16 ?_; first | refine QX.one rfl (One.makeM hA tabOk encI 0 rfl rfl rfl rfl rfl rfl rfl ?_ ?_ ?_) ?_) | (refine QX.k 17 ?_; first | refine QX.one rfl (One.build0 tabOk rfl rfl) ?_) | (refine QX.k 18 ?_; first | refine QX.one rfl (One.fieldRat tabOk rfl rfl rfl rfl (by decide) rfl rfl) ?_)) <;> (first | refine QSg.pass ?_ | (((try simp only [zn]) <;> (try simp (disch := omega) only [zz hA, zb, zy, reduceCtorEq, Bool.false_eq_true, Int.reduceLT, Int.reduceLE, Int.reduceNeg]) <;> (try simp only [zw])) <;> omega)))
          | refine QX.raw ?_)
      | refine Thn.exit ?_
      | refine Blk.here ?_
      | refine Blk.other (by decide) ?_
      | refine ⟨.inl rfl, _, RetOk.ev tabOk (by conv => lhs; cbv), ?_⟩
      | fail)
    · have hsu := thoseM_succ k pr
      rw [if_pos hc] at hsu
      refine ⟨(k + 1, ver + 1), ?_, ?_, rfl, ?_, ?_, (by repeat' (first | exact subE.nil | refine subE.cons rfl ?_))⟩ <;> (try omega)
      · simp only [hsu]
        ((try simp only [zn]) <;> (try simp (disch := omega) only [zz hA, zb, zy, reduceCtorEq, Bool.false_eq_true, Int.reduceLT, Int.reduceLE, Int.reduceNeg]) <;> (try simp only [zw]))
      · exact .int rfl (by (((try simp only [zn]) <;> (try simp (disch := omega) only [zz hA, zb, zy, reduceCtorEq, Bool.false_eq_true, Int.reduceLT, Int.reduceLE, Int.reduceNeg]) <;> (try simp only [zw])) <;> omega)) (.cons rfl .nil)
    · have hsu := thoseM_succ k pr
      rw [if_neg (by rw [hc]; simp)] at hsu
      refine ⟨(k + 1, ver), ?_, ?_, rfl, ?_, ?_, (by repeat' (first | exact subE.nil | refine subE.cons rfl ?_))⟩ <;> (try omega)
      · simp only [hsu]
      · exact .int rfl (by (((try simp only [zn]) <;> (try simp (disch := omega) only [zz hA, zb, zy, reduceCtorEq, Bool.false_eq_true, Int.reduceLT, Int.reduceLE, Int.reduceNeg]) <;> (try simp only [zw])) <;> omega)) (.cons rfl .nil)
  · obtain rfl : k = V.length := by omega
    exact ⟨_, _, rfl, rfl⟩

theorem firsts_c (V : List Int) (N : List (Int × Int)) (M : List Int) (hV : V.length ≤ 1000000) : PureCalls Try.prog 30 [clP A V N M] (intsP A (thoseM V.length fun k => decide (V.getD k.toNat default = k))) := by
  have hg : ∀ (n : Int) (q1 q2 : AObj), 0 ≤ n → n < V.length → ACalls Try.prog 44 [.ic (.lit (.int .i64 n)), .ptr 0 0] [.var true 25 [.ic (.sl 1 false (hid A (List.map encI V))), .ic (.sl 2 false (hid A (List.map encN N))), .ic (.sl 1 false (hid A (List.map encI M)))], q1, q2]
      (fun x s' => x = .ic (.lit (.bool (hid A (decide (V.getD n.toNat default = n))))) ∧ s' = [.var true 25 [.ic (.sl 1 false (hid A (List.map encI V))), .ic (.sl 2 false (hid A (List.map encN N))), .ic (.sl 1 false (hid A (List.map encI M)))], q1, q2]) := by
    intro n q1 q2 h0 h1
    refine ACalls.of Try.func44 rfl (by kernel_rfl) rfl ?_
    try first | refine AOLg.of [] ?_ | refine QSg.of [] ?_
    repeat' (first
      | (refine AWp.pass ?_; first
          | refine AWp.seq ?_
          | refine AWp.block ?_
          | refine AWp.skip ?_
          | refine AWp.regG [] (by conv => lhs; cbv) ?_
          | refine AWp.cond_t rfl ?_
          | refine AWp.cond_f rfl ?_
          | (refine AWp.cond rfl ?_ ?_ <;> intro hc <;> (try rw [hc]) <;> ((try simp only [zn] at hc) <;> (try simp (disch := omega) only [zz hA, zb, zy, reduceCtorEq, Bool.false_eq_true, Int.reduceLT, Int.reduceLE, Int.reduceNeg] at hc) <;> (try simp only [zw] at hc)) <;> (try (exfalso; omega)))
          | refine AWp.exit ?_
          | refine AWp.ret ⟨.inr rfl, _, RetOk.ev tabOk (by conv => lhs; cbv), ?_⟩
          | refine AWp.drawKG [] 0 rfl (by decide +kernel) (by conv => lhs; cbv) (by conv => lhs; cbv) ?_
          | refine AWp.drawKG [] 1 rfl (by decide +kernel) (by conv => lhs; cbv) (by conv => lhs; cbv) ?_
          | refine AWp.drawKG [] 2 rfl (by decide +kernel) (by conv => lhs; cbv) (by conv => lhs; cbv) ?_
          | refine AWp.drawKG [] 3 rfl (by decide +kernel) (by conv => lhs; cbv) (by conv => lhs; cbv) ?_
          | refine AWp.drawKG [] 4 rfl (by decide +kernel) (by conv => lhs; cbv) (by conv => lhs; cbv) ?_
          | refine AWp.drawKG [] 5 rfl (by decide +kernel) (by conv => lhs; cbv) (by conv => lhs; cbv) ?_
          | refine AWp.drawKG [] 6 rfl (by decide +kernel) (by conv => lhs; cbv) (by conv => lhs; cbv) ?_
          | refine AWp.drawKG [] 8 rfl (by decide +kernel) (by conv => lhs; cbv) (by conv => lhs; cbv) ?_)
      | (refine AOLg.pass ?_; refine AOLg.nx hA tabOk (by conv => lhs; cbv) ?_; first
          | refine NX.done ?_
          | refine NX.gt ?_
          | refine NX.gf ?_
          | (refine NX.gs ?_ ?_ <;> intro hc <;> rw [hc] <;> ((try simp only [zn] at hc) <;> (try simp (disch := omega) only [zz hA, zb, zy, reduceCtorEq, Bool.false_eq_true, Int.reduceLT, Int.reduceLE, Int.reduceNeg] at hc) <;> (try simp only [zw] at hc)) <;> (try (exfalso; omega)))
          | ((first | (refine NX.k 1 ?_; first | refine NX.one (One.elemM hA tabOk rfl rfl rfl rfl ?_ ?_) ?_ | refine NX.one (One.elemOwnM hA tabOk rfl rfl rfl rfl rfl ?_ ?_) ?_) | (refine NX.k 2 ?_; first | refine NX.one (One.clipM tabOk rfl rfl rfl rfl rfl ?_ ?_) ?_ | refine NX.one (One.cut_hM hA tabOk rfl rfl rfl rfl ?_ ?_) ?_ | refine NX.one (One.cut_lM hA tabOk rfl rfl rfl rfl ?_ ?_) ?_ | refine NX.one (One.cut_lhM hA tabOk rfl rfl rfl rfl rfl ?_ ?_ ?_) ?_) | (refine NX.k 3 ?_; first | refine NX.one (One.quoM hA rfl rfl rfl ?_) ?_) | (refine NX.k 4 ?_; first | refine NX.one (One.remM hA rfl rfl rfl ?_) ?_) | (refine NX.k 5 ?_; first | refine NX.one (One.shrM hA rfl rfl rfl ?_) ?_) | (refine NX.k 6 ?_; first | refine NX.one (One.bitsM hA rfl rfl rfl rfl) ?_) | (refine NX.k 7 ?_; first | refine NX.one (One.concatM hA rfl rfl rfl ?_) ?_) | (refine NX.k 8 ?_; first | refine NX.one (One.eqBoolM hA tabOk rfl rfl rfl rfl rfl) ?_) | (refine NX.k 9 ?_; first | refine NX.one (One.neBoolM hA tabOk rfl rfl rfl rfl rfl) ?_) | (refine NX.k 10 ?_; first | refine NX.one (One.lenOwnM hA tabOk rfl rfl rfl rfl) ?_) | (refine NX.k 11 ?_; first | refine NX.one (One.appendM hA tabOk _ rfl rfl rfl rfl rfl rfl ?_ ?_) ?_ | refine NX.one (One.appendMM hA tabOk rfl rfl rfl rfl rfl ?_ ?_) ?_ | refine NX.one (One.appendOwnM hA tabOk _ rfl rfl rfl rfl rfl rfl rfl ?_ ?_) ?_ | refine NX.one (One.appendOwnMM hA tabOk rfl rfl rfl rfl rfl rfl ?_ ?_) ?_ | refine NX.one (One.appendOwn0 hA tabOk rfl rfl rfl rfl rfl rfl ?_ ?_) ?_) | (refine NX.k 13 ?_; first | refine NX.one (One.byteM hA tabOk rfl rfl rfl rfl rfl ?_ ?_) ?_) | (refine NX.k 14 ?_; first | refine NX.one (One.loadRatM hA tabOk rfl rfl rfl rfl rfl rfl ?_) ?_) | (refine NX.k 15 ?_; first | refine NX.one (One.storeRatM hA tabOk _ rfl rfl rfl rfl rfl rfl rfl rfl (fun _ => rfl) ?_) ?_) | (refine NX.k 16 ?_; first | refine NX.one (One.makeM hA tabOk encI 0 rfl rfl rfl rfl rfl rfl rfl ?_ ?_ ?_) ?_) | (refine NX.k 17 ?_; first | refine NX.one (One.build0 tabOk rfl rfl) ?_) | (refine NX.k 18 ?_; first | refine NX.one (One.fieldRat tabOk rfl rfl rfl rfl (by decide) rfl rfl) ?_)) <;> (first | refine AOLg.pass ?_ | (((try simp only [zn]) <;> (try simp (disch := omega) only [zz hA, zb, zy, reduceCtorEq, Bool.false_eq_true, Int.reduceLT, Int.reduceLE, Int.reduceNeg]) <;> (try simp only [zw])) <;> omega)))
          | refine NX.raw ?_)
      | (refine QSg.pass ?_; refine QSg.nx hA tabOk (by conv => lhs; cbv) ?_; first
          | refine QX.done ?_
          | refine QX.gt ?_
          | refine QX.gf ?_
          | (refine QX.gs ?_ ?_ <;> intro hc <;> rw [hc] <;> ((try simp only [zn] at hc) <;> (try simp (disch := omega) only [zz hA, zb, zy, reduceCtorEq, Bool.false_eq_true, Int.reduceLT, Int.reduceLE, Int.reduceNeg] at hc) <;> (try simp only [zw] at hc)) <;> (try (exfalso; omega)))
          | ((first | (refine QX.k 1 ?_; first | refine QX.one rfl (One.elemM hA tabOk rfl rfl rfl rfl ?_ ?_) ?_ | refine QX.one rfl (One.elemOwnM hA tabOk rfl rfl rfl rfl rfl ?_ ?_) ?_) | (refine QX.k 2 ?_; first | refine QX.one rfl (One.clipM tabOk rfl rfl rfl rfl rfl ?_ ?_) ?_ | refine QX.one rfl (One.cut_hM hA tabOk rfl rfl rfl rfl ?_ ?_) ?_ | refine QX.one rfl (One.cut_lM hA tabOk rfl rfl rfl rfl ?_ ?_) ?_ | refine QX.one rfl (One.cut_lhM hA tabOk rfl rfl rfl rfl rfl ?_ ?_ ?_) ?_) | (refine QX.k 3 ?_; first | refine QX.one rfl (One.quoM hA rfl rfl rfl ?_) ?_) | (refine QX.k 4 ?_; first | refine QX.one rfl (One.remM hA rfl rfl rfl ?_) ?_) | (refine QX.k 5 ?_; first | refine QX.one rfl (One.shrM hA rfl rfl rfl ?_) ?_) | (refine QX.k 6 ?_; first | refine QX.one rfl (One.bitsM hA rfl rfl rfl rfl) ?_) | (refine QX.k 7 ?_; first | refine QX.one rfl (One.concatM hA rfl rfl rfl ?_) ?_) | (refine QX.k 8 ?_; first | refine QX.one rfl (One.eqBoolM hA tabOk rfl rfl rfl rfl rfl) ?_) | (refine QX.k 9 ?_; first | refine QX.one rfl (One.neBoolM hA tabOk rfl rfl rfl rfl rfl) ?_) | (refine QX.k 10 ?_; first | refine QX.one rfl (One.lenOwnM hA tabOk rfl rfl rfl rfl) ?_) | (refine QX.k 11 ?_; first | refine QX.one rfl (One.appendM hA tabOk _ rfl rfl rfl rfl rfl rfl ?_ ?_) ?_ | refine QX.one rfl (One.appendMM hA tabOk rfl rfl rfl rfl rfl ?_ ?_) ?_ | refine QX.one rfl (One.appendOwnM hA tabOk _ rfl rfl rfl rfl rfl rfl rfl ?_ ?_) ?_ | refine QX.one rfl (One.appendOwnMM hA tabOk rfl rfl rfl rfl rfl rfl ?_ ?_) ?_ | refine QX.one rfl (One.appendOwn0 hA tabOk rfl rfl rfl rfl rfl rfl ?_ ?_) ?_) | (refine QX.k 13 ?_; first | refine QX.one rfl (One.byteM hA tabOk rfl rfl rfl rfl rfl ?_ ?_) ?_) | (refine QX.k 14 ?_; first | refine QX.one rfl (One.loadRatM hA tabOk rfl rfl rfl rfl rfl rfl ?_) ?_) | (refine QX.k 15 ?_; first | refine QX.one rfl (One.storeRatM hA tabOk _ rfl rfl rfl rfl rfl rfl rfl rfl (fun _ => rfl) ?_) ?_) | (refine QX.k 16 ?_; first | refine QX.one rfl (One.makeM hA tabOk encI 0 rfl rfl rfl rfl rfl rfl rfl ?_ ?_ ?_) ?_) | (refine QX.k 17 ?_; first | refine QX.one rfl (One.build0 tabOk rfl rfl) ?_) | (refine QX.k 18 ?_; first | refine QX.one rfl (One.fieldRat tabOk rfl rfl rfl rfl (by decide) rfl rfl) ?_)) <;> (first | refine QSg.pass ?_ | (((try simp only [zn]) <;> (try simp (disch := omega) only [zz hA, zb, zy, reduceCtorEq, Bool.false_eq_true, Int.reduceLT, Int.reduceLE, Int.reduceNeg]) <;> (try simp only [zw])) <;> omega)))
          | refine QX.raw ?_)
      | refine Thn.exit ?_
      | refine Blk.here ?_
      | refine Blk.other (by decide) ?_
      | refine ⟨.inl rfl, _, RetOk.ev tabOk (by conv => lhs; cbv), ?_⟩
      | fail)
    exact ⟨by simp [hA, real, hid], rfl⟩
  refine PureCalls.of Try.func30 rfl (by kernel_rfl) rfl ?_
  try first | refine AOLg.of [] ?_ | refine QSg.of [] ?_
  repeat' (first
    | (refine AWp.pass ?_; first
        | refine AWp.seq ?_
        | refine AWp.block ?_
        | refine AWp.skip ?_
        | refine AWp.regG [] (by conv => lhs; cbv) ?_
        | refine AWp.cond_t rfl ?_
        | refine AWp.cond_f rfl ?_
        | (refine AWp.cond rfl ?_ ?_ <;> intro hc <;> (try rw [hc]) <;> ((try simp only [zn] at hc) <;> (try simp (disch := omega) only [zz hA, zb, zy, reduceCtorEq, Bool.false_eq_true, Int.reduceLT, Int.reduceLE, Int.reduceNeg] at hc) <;> (try simp only [zw] at hc)) <;> (try (exfalso; omega)))
        | refine AWp.exit ?_
        | refine AWp.ret ⟨.inr rfl, _, RetOk.ev tabOk (by conv => lhs; cbv), ?_⟩
        | refine AWp.drawKG [] 0 rfl (by decide +kernel) (by conv => lhs; cbv) (by conv => lhs; cbv) ?_
        | refine AWp.drawKG [] 1 rfl (by decide +kernel) (by conv => lhs; cbv) (by conv => lhs; cbv) ?_
        | refine AWp.drawKG [] 2 rfl (by decide +kernel) (by conv => lhs; cbv) (by conv => lhs; cbv) ?_
        | refine AWp.drawKG [] 3 rfl (by decide +kernel) (by conv => lhs; cbv) (by conv => lhs; cbv) ?_
        | refine AWp.drawKG [] 4 rfl (by decide +kernel) (by conv => lhs; cbv) (by conv => lhs; cbv) ?_
        | refine AWp.drawKG [] 5 rfl (by decide +kernel) (by conv => lhs; cbv) (by conv => lhs; cbv) ?_
        | refine AWp.drawKG [] 6 rfl (by decide +kernel) (by conv => lhs; cbv) (by conv => lhs; cbv) ?_
        | refine AWp.drawKG [] 8 rfl (by decide +kernel) (by conv => lhs; cbv) (by conv => lhs; cbv) ?_)
    | (refine AOLg.pass ?_; refine AOLg.nx hA tabOk (by conv => lhs; cbv) ?_; first
        | refine NX.done ?_
        | refine NX.gt ?_
        | refine NX.gf ?_
        | (refine NX.gs ?_ ?_ <;> intro hc <;> rw [hc] <;> ((try simp only [zn] at hc) <;> (try simp (disch := omega) only [zz hA, zb, zy, reduceCtorEq, Bool.false_eq_true, Int.reduceLT, Int.reduceLE, Int.reduceNeg] at hc) <;> (try simp only [zw] at hc)) <;> (try (exfalso; omega)))
        | ((first | (refine NX.k 1 ?_; first | refine NX.one (One.elemM hA tabOk rfl rfl rfl rfl ?_ ?_) ?_ | refine NX.one (One.elemOwnM hA tabOk rfl rfl rfl rfl rfl ?_ ?_) ?_) | (refine NX.k 2 ?_; first | refine NX.one (One.clipM tabOk rfl rfl rfl rfl rfl ?_ ?_) ?_ | refine NX.one (One.cut_hM hA tabOk rfl rfl rfl rfl ?_ ?_) ?_ | refine NX.one (One.cut_lM hA tabOk rfl rfl rfl rfl ?_ ?_) ?_ | refine NX.one (One.cut_lhM hA tabOk rfl rfl rfl rfl rfl ?_ ?_ ?_) ?_) | (refine NX.k 3 ?_; first | refine NX.one (One.quoM hA rfl rfl rfl ?_) ?_) | (refine NX.k 4 ?_; first | refine NX.one (One.remM hA rfl rfl rfl ?_) ?_) | (refine NX.k 5 ?_; first | refine NX.one (One.shrM hA rfl rfl rfl ?_) ?_) | (refine NX.k 6 ?_; first | refine NX.one (One.bitsM hA rfl rfl rfl rfl) ?_) | (refine NX.k 7 ?_; first | refine NX.one (One.concatM hA rfl rfl rfl ?_) ?_) | (refine NX.k 8 ?_; first | refine NX.one (One.eqBoolM hA tabOk rfl rfl rfl rfl rfl) ?_) | (refine NX.k 9 ?_; first | refine NX.one (One.neBoolM hA tabOk rfl rfl rfl rfl rfl) ?_) | (refine NX.k 10 ?_; first | refine NX.one (One.lenOwnM hA tabOk rfl rfl rfl rfl) ?_) | (refine NX.k 11 ?_; first | refine NX.one (One.appendM hA tabOk _ rfl rfl rfl rfl rfl rfl ?_ ?_) ?_ | refine NX.one (One.appendMM hA tabOk rfl rfl rfl rfl rfl ?_ ?_) ?_ | refine NX.one (One.appendOwnM hA tabOk _ rfl rfl rfl rfl rfl rfl rfl ?_ ?_) ?_ | refine NX.one (One.appendOwnMM hA tabOk rfl rfl rfl rfl rfl rfl ?_ ?_) ?_ | refine NX.one (One.appendOwn0 hA tabOk rfl rfl rfl rfl rfl rfl ?_ ?_) ?_) | (refine NX.k 13 ?_; first | refine NX.one (One.byteM hA tabOk rfl rfl rfl rfl rfl ?_ ?_) ?_) | (refine NX.k 14 ?_; first | refine NX.one (One.loadRatM hA tabOk rfl rfl rfl rfl rfl rfl ?_) ?_) | (refine NX.k 15 ?_; first | refine NX.one (One.storeRatM hA tabOk _ rfl rfl rfl rfl rfl rfl rfl rfl (fun _ => rfl) ?_) ?_) | (refine NX.k 16 ?_; first | refine NX.one (One.makeM hA tabOk encI 0 rfl rfl rfl rfl rfl rfl rfl ?_ ?_ ?_) ?_) | (refine NX.k 17 ?_; first | refine NX.one (One.build0 tabOk rfl rfl) ?_) | (refine NX.k 18 ?_; first | refine NX.one (One.fieldRat tabOk rfl rfl rfl rfl (by decide) rfl rfl) ?_)) <;> (first | refine AOLg.pass ?_ | (((try simp only [zn]) <;> (try simp (disch := omega) only [zz hA, zb, zy, reduceCtorEq, Bool.false_eq_true, Int.reduceLT, Int.reduceLE, Int.reduceNeg]) <;> (try simp only [zw])) <;> omega)))
        | refine NX.raw ?_)
    | (refine QSg.pass ?_; refine QSg.nx hA tabOk (by conv => lhs; cbv) ?_; first
        | refine QX.done ?_
        | refine QX.gt ?_
        | refine QX.gf ?_
        | (refine QX.gs ?_ ?_ <;> intro hc <;> rw [hc] <;> ((try simp only [zn] at hc) <;> (try simp (disch := omega) only [zz hA, zb, zy, reduceCtorEq, Bool.false_eq_true, Int.reduceLT, Int.reduceLE, Int.reduceNeg] at hc) <;> (try simp only [zw] at hc)) <;> (try (exfalso; omega)))
        | ((first | (refine QX.k 1 ?_; first | refine QX.one rfl (One.elemM hA tabOk rfl rfl rfl rfl ?_ ?_) ?_ | refine QX.one rfl (One.elemOwnM hA tabOk rfl rfl rfl rfl rfl ?_ ?_) ?_) | (refine QX.k 2 ?_; first | refine QX.one rfl (One.clipM tabOk rfl rfl rfl rfl rfl ?_ ?_) ?_ | refine QX.one rfl (One.cut_hM hA tabOk rfl rfl rfl rfl ?_ ?_) ?_ | refine QX.one rfl (One.cut_lM hA tabOk rfl rfl rfl rfl ?_ ?_) ?_ | refine QX.one rfl (One.cut_lhM hA tabOk rfl rfl rfl rfl rfl ?_ ?_ ?_) ?_) | (refine QX.k 3 ?_; first | refine QX.one rfl (One.quoM hA rfl rfl rfl ?_) ?_) | (refine QX.k 4 ?_; first | refine QX.one rfl (One.remM hA rfl rfl rfl ?_) ?_) | (refine QX.k 5 ?_; first | refine QX.one rfl (One.shrM hA rfl rfl rfl ?_) ?_) | (refine QX.k 6 ?_; first | refine QX.one rfl (One.bitsM hA rfl rfl rfl rfl) ?_) | (refine QX.k 7 ?_; first | refine QX.one rfl (One.concatM hA rfl rfl rfl ?_) ?_) | (refine QX.k 8 ?_; first | refine QX.one rfl (One.eqBoolM hA tabOk rfl rfl rfl rfl rfl) ?_) | (refine QX.k 9 ?_; first | refine QX.one rfl (One.neBoolM hA tabOk rfl rfl rfl rfl rfl) ?_) | (refine QX.k 10 ?_; first | refine QX.one rfl (One.lenOwnM hA tabOk rfl rfl rfl rfl) ?_) | (refine QX.k 11 ?_; first | refine QX.one rfl (One.appendM hA tabOk _ rfl rfl rfl rfl rfl rfl ?_ ?_) ?_ | refine QX.one rfl (One.appendMM hA tabOk rfl rfl rfl rfl rfl ?_ ?_) ?_ | refine QX.one rfl (One.appendOwnM hA tabOk _ rfl rfl rfl rfl rfl rfl rfl ?_ ?_) ?_ | refine QX.one rfl (One.appendOwnMM hA tabOk rfl rfl rfl rfl rfl rfl ?_ ?_) ?_ | refine QX.one rfl (One.appendOwn0 hA tabOk rfl rfl rfl rfl rfl rfl ?_ ?_) ?_) | (refine QX.k 13 ?_; first | refine QX.one rfl (One.byteM hA tabOk rfl rfl rfl rfl rfl ?_ ?_) ?_) | (refine QX.k 14 ?_; first | refine QX.one rfl (One.loadRatM hA tabOk rfl rfl rfl rfl rfl rfl ?_) ?_) | (refine QX.k 15 ?_; first | refine QX.one rfl (One.storeRatM hA tabOk _ rfl rfl rfl rfl rfl rfl rfl rfl (fun _ => rfl) ?_) ?_) | (refine QX.k 16 ?_; first | refine QX.one rfl (One.makeM hA tabOk encI 0 rfl rfl rfl rfl rfl rfl rfl ?_ ?_ ?_) ?_) | (refine QX.k 17 ?_; first | refine QX.one rfl (One.build0 tabOk rfl rfl) ?_) | (refine QX.k 18 ?_; first | refine QX.one rfl (One.fieldRat tabOk rfl rfl rfl rfl (by decide) rfl rfl) ?_)) <;> (first | refine QSg.pass ?_ | (((try simp only [zn]) <;> (try simp (disch := omega) only [zz hA, zb, zy, reduceCtorEq, Bool.false_eq_true, Int.reduceLT, Int.reduceLE, Int.reduceNeg]) <;> (try simp only [zw])) <;> omega)))
        | refine QX.raw ?_)
    | refine Thn.exit ?_
    | refine Blk.here ?_
    | refine Blk.other (by decide) ?_
    | refine ⟨.inl rfl, _, RetOk.ev tabOk (by conv => lhs; cbv), ?_⟩
    | fail)
  refine AOL.scall rfl rfl (those_1 hA V N M _ _ (fun k => decide (V.getD k.toNat default = k)) _ hV hg) ?_
  rintro y st' ⟨ver, q, rfl, rfl⟩
  refine AOL.norm (by conv => lhs; cbv) ?_
  try first | refine AOLg.of [] ?_ | refine QSg.of [] ?_
  repeat' (first
    | (refine AWp.pass ?_; first
        | refine AWp.seq ?_
        | refine AWp.block ?_
        | refine AWp.skip ?_
        | refine AWp.regG [] (by conv => lhs; cbv) ?_
        | refine AWp.cond_t rfl ?_
        | refine AWp.cond_f rfl ?_
        | (refine AWp.cond rfl ?_ ?_ <;> intro hc <;> (try rw [hc]) <;> ((try simp only [zn] at hc) <;> (try simp (disch := omega) only [zz hA, zb, zy, reduceCtorEq, Bool.false_eq_true, Int.reduceLT, Int.reduceLE, Int.reduceNeg] at hc) <;> (try simp only [zw] at hc)) <;> (try (exfalso; omega)))
        | refine AWp.exit ?_
        | refine AWp.ret ⟨.inr rfl, _, RetOk.ev tabOk (by conv => lhs; cbv), ?_⟩
        | refine AWp.drawKG [] 0 rfl (by decide +kernel) (by conv => lhs; cbv) (by conv => lhs; cbv) ?_
        | refine AWp.drawKG [] 1 rfl (by decide +kernel) (by conv => lhs; cbv) (by conv => lhs; cbv) ?_
        | refine AWp.drawKG [] 2 rfl (by decide +kernel) (by conv => lhs; cbv) (by conv => lhs; cbv) ?_
        | refine AWp.drawKG [] 3 rfl (by decide +kernel) (by conv => lhs; cbv) (by conv => lhs; cbv) ?_
        | refine AWp.drawKG [] 4 rfl (by decide +kernel) (by conv => lhs; cbv) (by conv => lhs; cbv) ?_
        | refine AWp.drawKG [] 5 rfl (by decide +kernel) (by conv => lhs; cbv) (by conv => lhs; cbv) ?_
        | refine AWp.drawKG [] 6 rfl (by decide +kernel) (by conv => lhs; cbv) (by conv => lhs; cbv) ?_
        | refine AWp.drawKG [] 8 rfl (by decide +kernel) (by conv => lhs; cbv) (by conv => lhs; cbv) ?_)
    | (refine AOLg.pass ?_; refine AOLg.nx hA tabOk (by conv => lhs; cbv) ?_; first
        | refine NX.done ?_
        | refine NX.gt ?_
        | refine NX.gf ?_
        | (refine NX.gs ?_ ?_ <;> intro hc <;> rw [hc] <;> ((try simp only [zn] at hc) <;> (try simp (disch := omega) only [zz hA, zb, zy, reduceCtorEq, Bool.false_eq_true, Int.reduceLT, Int.reduceLE, Int.reduceNeg] at hc) <;> (try simp only [zw] at hc)) <;> (try (exfalso; omega)))
        | ((first | (refine NX.k 1 ?_; first | refine NX.one (One.elemM hA tabOk rfl rfl rfl rfl ?_ ?_) ?_ | refine NX.one (One.elemOwnM hA tabOk rfl rfl rfl rfl rfl ?_ ?_) ?_) | (refine NX.k 2 ?_; first | refine NX.one (One.clipM tabOk rfl rfl rfl rfl rfl ?_ ?_) ?_ | refine NX.one (One.cut_hM hA tabOk rfl rfl rfl rfl ?_ ?_) ?_ | refine NX.one (One.cut_lM hA tabOk rfl rfl rfl rfl ?_ ?_) ?_ | refine NX.one (One.cut_lhM hA tabOk rfl rfl rfl rfl rfl ?_ ?_ ?_) ?_) | (refine NX.k 3 ?_; first | refine NX.one (One.quoM hA rfl rfl rfl ?_) ?_) | (refine NX.k 4 ?_; first | refine NX.one (One.remM hA rfl rfl rfl ?_) ?_) | (refine NX.k 5 ?_; first | refine NX.one (One.shrM hA rfl rfl rfl ?_) ?_) | (refine NX.k 6 ?_; first | refine NX.one (One.bitsM hA rfl rfl rfl rfl) ?_) | (refine NX.k 7 ?_; first | refine NX.one (One.concatM hA rfl rfl rfl ?_) ?_) | (refine NX.k 8 ?_; first | refine NX.one (One.eqBoolM hA tabOk rfl rfl rfl rfl rfl) ?_) | (refine NX.k 9 ?_; first | refine NX.one (One.neBoolM hA tabOk rfl rfl rfl rfl rfl) ?_) | (refine NX.k 10 ?_; first | refine NX.one (One.lenOwnM hA tabOk rfl rfl rfl rfl) ?_) | (refine NX.k 11 ?_; first | refine NX.one (One.appendM hA tabOk _ rfl rfl rfl rfl rfl rfl ?_ ?_) ?_ | refine NX.one (One.appendMM hA tabOk rfl rfl rfl rfl rfl ?_ ?_) ?_ | refine NX.one (One.appendOwnM hA tabOk _ rfl rfl rfl rfl rfl rfl rfl ?_ ?_) ?_ | refine NX.one (One.appendOwnMM hA tabOk rfl rfl rfl rfl rfl rfl ?_ ?_) ?_ | refine NX.one (One.appendOwn0 hA tabOk rfl rfl rfl rfl rfl rfl ?_ ?_) ?_) | (refine NX.k 13 ?_; first | refine NX.one (One.byteM hA tabOk rfl rfl rfl rfl rfl ?_ ?_) ?_) | (refine NX.k 14 ?_; first | refine NX.one (One.loadRatM hA tabOk rfl rfl rfl rfl rfl rfl ?_) ?_) | (refine NX.k 15 ?_; first | refine NX.one (One.storeRatM hA tabOk _ rfl rfl rfl rfl rfl rfl rfl rfl (fun _ => rfl) ?_) ?_) | (refine NX.k 16 ?_; first | refine NX.one (One.makeM hA tabOk encI 0 rfl rfl rfl rfl rfl rfl rfl ?_ ?_ ?_) ?_) | (refine NX.k 17 ?_; first | refine NX.one (One.build0 tabOk rfl rfl) ?_) | (refine NX.k 18 ?_; first | refine NX.one (One.fieldRat tabOk rfl rfl rfl rfl (by decide) rfl rfl) ?_)) <;> (first | refine AOLg.pass ?_ | (((try simp only [zn]) <;> (try simp (disch := omega) only [zz hA, zb, zy, reduceCtorEq, Bool.false_eq_true, Int.reduceLT, Int.reduceLE, Int.reduceNeg]) <;> (try simp only [zw])) <;> omega)))
        | refine NX.raw ?_)
    | (refine QSg.pass ?_; refine QSg.nx hA tabOk (by conv => lhs; cbv) ?_; first
        | refine QX.done ?_
        | refine QX.gt ?_
        | refine QX.gf ?_
        | (refine QX.gs ?_ ?_ <;> intro hc <;> rw [hc] <;> ((try simp only [zn] at hc) <;> (try simp (disch := omega) only [zz hA, zb, zy, reduceCtorEq, Bool.false_eq_true, Int.reduceLT, Int.reduceLE, Int.reduceNeg] at hc) <;> (try simp only [zw] at hc)) <;> (try (exfalso; omega)))
        | ((first | (refine QX.k 1 ?_; first | refine QX.one rfl (One.elemM hA tabOk rfl rfl rfl rfl ?_ ?_) ?_ | refine QX.one rfl (One.elemOwnM hA tabOk rfl rfl rfl rfl rfl ?_ ?_) ?_) | (refine QX.k 2 ?_; first | refine QX.one rfl (One.clipM tabOk rfl rfl rfl rfl rfl ?_ ?_) ?_ | refine QX.one rfl (One.cut_hM hA tabOk rfl rfl rfl rfl ?_ ?_) ?_ | refine QX.one rfl (One.cut_lM hA tabOk rfl rfl rfl rfl ?_ ?_) ?_ | refine QX.one rfl (One.cut_lhM hA tabOk rfl rfl rfl rfl rfl ?_ ?_ ?_) ?_) | (refine QX.k 3 ?_; first | refine QX.one rfl (One.quoM hA rfl rfl rfl ?_) ?_) | (refine QX.k 4 ?_; first | refine QX.one rfl (One.remM hA rfl rfl rfl ?_) ?_) | (refine QX.k 5 ?_; first | refine QX.one rfl (One.shrM hA rfl rfl rfl ?_) ?_) | (refine QX.k 6 ?_; first | refine QX.one rfl (One.bitsM hA rfl rfl rfl rfl) ?_) | (refine QX.k 7 ?_; first | refine QX.one rfl (One.concatM hA rfl rfl rfl ?_) ?_) | (refine QX.k 8 ?_; first | refine QX.one rfl (One.eqBoolM hA tabOk rfl rfl rfl rfl rfl) ?_) | (refine QX.k 9 ?_; first | refine QX.one rfl (One.neBoolM hA tabOk rfl rfl rfl rfl rfl) ?_) | (refine QX.k 10 ?_; first | refine QX.one rfl (One.lenOwnM hA tabOk rfl rfl rfl rfl) ?_) | (refine QX.k 11 ?_; first | refine QX.one rfl (One.appendM hA tabOk _ rfl rfl rfl rfl rfl rfl ?_ ?_) ?_ | refine QX.one rfl (One.appendMM hA tabOk rfl rfl rfl rfl rfl ?_ ?_) ?_ | refine QX.one rfl (One.appendOwnM hA tabOk _ rfl rfl rfl rfl rfl rfl rfl ?_ ?_) ?_ | refine QX.one rfl (One.appendOwnMM hA tabOk rfl rfl rfl rfl rfl rfl ?_ ?_) ?_ | refine QX.one rfl (One.appendOwn0 hA tabOk rfl rfl rfl rfl rfl rfl ?_ ?_) ?_) | (refine QX.k 13 ?_; first | refine QX.one rfl (One.byteM hA tabOk rfl rfl rfl rfl rfl ?_ ?_) ?_) | (refine QX.k 14 ?_; first | refine QX.one rfl (One.loadRatM hA tabOk rfl rfl rfl rfl rfl rfl ?_) ?_) | (refine QX.k 15 ?_; first | refine QX.one rfl (One.storeRatM hA tabOk _ rfl rfl rfl rfl rfl rfl rfl rfl (fun _ => rfl) ?_) ?_) | (refine QX.k 16 ?_; first | refine QX.one rfl (One.makeM hA tabOk encI 0 rfl rfl rfl rfl rfl rfl rfl ?_ ?_ ?_) ?_) | (refine QX.k 17 ?_; first | refine QX.one rfl (One.build0 tabOk rfl rfl) ?_) | (refine QX.k 18 ?_; first | refine QX.one rfl (One.fieldRat tabOk rfl rfl rfl rfl (by decide) rfl rfl) ?_)) <;> (first | refine QSg.pass ?_ | (((try simp only [zn]) <;> (try simp (disch := omega) only [zz hA, zb, zy, reduceCtorEq, Bool.false_eq_true, Int.reduceLT, Int.reduceLE, Int.reduceNeg]) <;> (try simp only [zw])) <;> omega)))
        | refine QX.raw ?_)
    | refine Thn.exit ?_
    | refine Blk.here ?_
    | refine Blk.other (by decide) ?_
    | refine ⟨.inl rfl, _, RetOk.ev tabOk (by conv => lhs; cbv), ?_⟩
    | fail)
  exact rPV_own rfl
theorem class_c (V : List Int) (N : List (Int × Int)) (M ranks : List Int) (hR : RightU V ranks) (z : Int) (h0 : 0 ≤ z) (h1 : z < V.length) (hV : V.length ≤ 1000000) : PureCalls Try.prog 31 [clP A V N M, IP z] (intsP A (thoseM V.length fun k => decide (findU V k = findU V z))) := by
  have hg : ∀ (n : Int) (q1 q2 : AObj), 0 ≤ n → n < V.length → ACalls Try.prog 45 [.ic (.lit (.int .i64 n)), .ptr 0 0, .ptr 1 0] [.var true 25 [.ic (.sl 1 false (hid A (List.map encI V))), .ic (.sl 2 false (hid A (List.map encN N))), .ic (.sl 1 false (hid A (List.map encI M)))], .var true 3 [.ic (.lit (.int .i64 (hid A (findU V z))))], q1, q2]
      (fun x s' => x = .ic (.lit (.bool (hid A (decide (findU V n = findU V z))))) ∧ s' = [.var true 25 [.ic (.sl 1 false (hid A (List.map encI V))), .ic (.sl 2 false (hid A (List.map encN N))), .ic (.sl 1 false (hid A (List.map encI M)))], .var true 3 [.ic (.lit (.int .i64 (hid A (findU V z))))], q1, q2]) := by
    intro n q1 q2 h0 h1
    refine ACalls.of Try.func45 rfl (by kernel_rfl) rfl ?_
    try first | refine AOLg.of [] ?_ | refine QSg.of [] ?_
    repeat' (first
      | (refine AWp.pass ?_; first
          | refine AWp.seq ?_
          | refine AWp.block ?_
          | refine AWp.skip ?_
          | refine AWp.regG [] (by conv => lhs; cbv) ?_
          | refine AWp.cond_t rfl ?_
          | refine AWp.cond_f rfl ?_
          | (refine AWp.cond rfl ?_ ?_ <;> intro hc <;> (try rw [hc]) <;> ((try simp only [zn] at hc) <;> (try simp (disch := omega) only [zz hA, zb, zy, reduceCtorEq, Bool.false_eq_true, Int.reduceLT, Int.reduceLE, Int.reduceNeg] at hc) <;> (try simp only [zw] at hc)) <;> (try (exfalso; omega)))
          | refine AWp.exit ?_
          | refine AWp.ret ⟨.inr rfl, _, RetOk.ev tabOk (by conv => lhs; cbv), ?_⟩
          | refine AWp.drawKG [] 0 rfl (by decide +kernel) (by conv => lhs; cbv) (by conv => lhs; cbv) ?_
          | refine AWp.drawKG [] 1 rfl (by decide +kernel) (by conv => lhs; cbv) (by conv => lhs; cbv) ?_
          | refine AWp.drawKG [] 2 rfl (by decide +kernel) (by conv => lhs; cbv) (by conv => lhs; cbv) ?_
          | refine AWp.drawKG [] 3 rfl (by decide +kernel) (by conv => lhs; cbv) (by conv => lhs; cbv) ?_
          | refine AWp.drawKG [] 4 rfl (by decide +kernel) (by conv => lhs; cbv) (by conv => lhs; cbv) ?_
          | refine AWp.drawKG [] 5 rfl (by decide +kernel) (by conv => lhs; cbv) (by conv => lhs; cbv) ?_
          | refine AWp.drawKG [] 6 rfl (by decide +kernel) (by conv => lhs; cbv) (by conv => lhs; cbv) ?_
          | refine AWp.drawKG [] 8 rfl (by decide +kernel) (by conv => lhs; cbv) (by conv => lhs; cbv) ?_)
      | (refine AOLg.pass ?_; refine AOLg.nx hA tabOk (by conv => lhs; cbv) ?_; first
          | refine NX.done ?_
          | refine NX.gt ?_
          | refine NX.gf ?_
          | (refine NX.gs ?_ ?_ <;> intro hc <;> rw [hc] <;> ((try simp only [zn] at hc) <;> (try simp (disch := omega) only [zz hA, zb, zy, reduceCtorEq, Bool.false_eq_true, Int.reduceLT, Int.reduceLE, Int.reduceNeg] at hc) <;> (try simp only [zw] at hc)) <;> (try (exfalso; omega)))
          | (refine NX.kC ?_; first | (with_reducible refine NX.call (find_c hA V N M ranks hR n h0 h1) ?_) | ((first | refine NX.call (find_c hA V N M ranks hR n h0 h1) ?_)) | fail)
          | (refine NX.kO ?_; (first | refine NX.callO (find_c hA V N M ranks hR n h0 h1) (by simp [allEq]) rfl ?_))
          | ((first | (refine NX.k 1 ?_; first | refine NX.one (One.elemM hA tabOk rfl rfl rfl rfl ?_ ?_) ?_ | refine NX.one (One.elemOwnM hA tabOk rfl rfl rfl rfl rfl ?_ ?_) ?_) | (refine NX.k 2 ?_; first | refine NX.one (One.clipM tabOk rfl rfl rfl rfl rfl ?_ ?_) ?_ | refine NX.one (One.cut_hM hA tabOk rfl rfl rfl rfl ?_ ?_) ?_ | refine NX.one (One.cut_lM hA tabOk rfl rfl rfl rfl ?_ ?_) ?_ | refine NX.one (One.cut_lhM hA tabOk rfl rfl rfl rfl rfl ?_ ?_ ?_) ?_) | (refine NX.k 3 ?_; first | refine NX.one (One.quoM hA rfl rfl rfl ?_) ?_) | (refine NX.k 4 ?_; first | refine NX.one (One.remM hA rfl rfl rfl ?_) ?_) | (refine NX.k 5 ?_; first | refine NX.one (One.shrM hA rfl rfl rfl ?_) ?_) | (refine NX.k 6 ?_; first | refine NX.one (One.bitsM hA rfl rfl rfl rfl) ?_) | (refine NX.k 7 ?_; first | refine NX.one (One.concatM hA rfl rfl rfl ?_) ?_) | (refine NX.k 8 ?_; first | refine NX.one (One.eqBoolM hA tabOk rfl rfl rfl rfl rfl) ?_) | (refine NX.k 9 ?_; first | refine NX.one (One.neBoolM hA tabOk rfl rfl rfl rfl rfl) ?_) | (refine NX.k 10 ?_; first | refine NX.one (One.lenOwnM hA tabOk rfl rfl rfl rfl) ?_) | (refine NX.k 11 ?_; first | refine NX.one (One.appendM hA tabOk _ rfl rfl rfl rfl rfl rfl ?_ ?_) ?_ | refine NX.one (One.appendMM hA tabOk rfl rfl rfl rfl rfl ?_ ?_) ?_ | refine NX.one (One.appendOwnM hA tabOk _ rfl rfl rfl rfl rfl rfl rfl ?_ ?_) ?_ | refine NX.one (One.appendOwnMM hA tabOk rfl rfl rfl rfl rfl rfl ?_ ?_) ?_ | refine NX.one (One.appendOwn0 hA tabOk rfl rfl rfl rfl rfl rfl ?_ ?_) ?_) | (refine NX.k 13 ?_; first | refine NX.one (One.byteM hA tabOk rfl rfl rfl rfl rfl ?_ ?_) ?_) | (refine NX.k 14 ?_; first | refine NX.one (One.loadRatM hA tabOk rfl rfl rfl rfl rfl rfl ?_) ?_) | (refine NX.k 15 ?_; first | refine NX.one (One.storeRatM hA tabOk _ rfl rfl rfl rfl rfl rfl rfl rfl (fun _ => rfl) ?_) ?_) | (refine NX.k 16 ?_; first | refine NX.one (One.makeM hA tabOk encI 0 rfl rfl rfl rfl rfl rfl rfl ?_ ?_ ?_) ?_) | (refine NX.k 17 ?_; first | refine NX.one (One.build0 tabOk rfl rfl) ?_) | (refine NX.k 18 ?_; first | refine NX.one (One.fieldRat tabOk rfl rfl rfl rfl (by decide) rfl rfl) ?_)) <;> (first | refine AOLg.pass ?_ | (((try simp only [zn]) <;> (try simp (disch := omega) only [zz hA, zb, zy, reduceCtorEq, Bool.false_eq_true, Int.reduceLT, Int.reduceLE, Int.reduceNeg]) <;> (try simp only [zw])) <;> omega)))
          | refine NX.raw ?_)
      | (refine QSg.pass ?_; refine QSg.nx hA tabOk (by conv => lhs; cbv) ?_; first
          | refine QX.done ?_
          | refine QX.gt ?_
          | refine QX.gf ?_
          | (refine QX.gs ?_ ?_ <;> intro hc <;> rw [hc] <;> ((try simp only [zn] at hc) <;> (try simp (disch := omega) only [zz hA, zb, zy, reduceCtorEq, Bool.false_eq_true, Int.reduceLT, Int.reduceLE, Int.reduceNeg] at hc) <;> (try simp only [zw] at hc)) <;> (try (exfalso; omega)))
          | (refine QX.kC ?_; first | (with_reducible refine QX.call (find_c hA V N M ranks hR n h0 h1) rfl ?_) | ((first | refine QX.call (find_c hA V N M ranks hR n h0 h1) rfl ?_)) | fail)
          | (refine QX.kO ?_; (first | refine QX.callO (find_c hA V N M ranks hR n h0 h1) rfl (by simp [allEq]) rfl ?_))
          | ((first | (refine QX.k 1 ?_; first | refine QX.one rfl (One.elemM hA tabOk rfl rfl rfl rfl ?_ ?_) ?_ | refine QX.one rfl (One.elemOwnM hA tabOk rfl rfl rfl rfl rfl ?_ ?_) ?_) | (refine QX.k 2 ?_; first | refine QX.one rfl (One.clipM tabOk rfl rfl rfl rfl rfl ?_ ?_) ?_ | refine QX.one rfl (One.cut_hM hA tabOk rfl rfl rfl rfl ?_ ?_) ?_ | refine QX.one rfl (One.cut_lM hA tabOk rfl rfl rfl rfl ?_ ?_) ?_ | refine QX.one rfl (One.cut_lhM hA tabOk rfl rfl rfl rfl rfl ?_ ?_ ?_) ?_) | (refine QX.k 3 ?_; first | refine QX.one rfl (One.quoM hA rfl rfl rfl ?_) ?_) | (refine QX.k 4 ?_; first | refine QX.one rfl (One.remM hA rfl rfl rfl ?_) ?_) | (refine QX.k 5 ?_; first | refine QX.one rfl (One.shrM hA rfl rfl rfl ?_) ?_) | (refine QX.k 6 ?_; first | refine QX.one rfl (One.bitsM hA rfl rfl rfl rfl) ?_) | (refine QX.k 7 ?_; first | refine QX.one rfl (One.concatM hA rfl rfl rfl ?_) ?_) | (refine QX.k 8 ?_; first | refine QX.one rfl (One.eqBoolM hA tabOk rfl rfl rfl rfl rfl) ?_) | (refine QX.k 9 ?_; first | refine QX.one rfl (One.neBoolM hA tabOk rfl rfl rfl rfl rfl) ?_) | (refine QX.k 10 ?_; first | refine QX.one rfl (One.lenOwnM hA tabOk rfl rfl rfl rfl) ?_) | (refine QX.k 11 ?_; first | refine QX.one rfl (One.appendM hA tabOk _ rfl rfl rfl rfl rfl rfl ?_ ?_) ?_ | refine QX.one rfl (One.appendMM hA tabOk rfl rfl rfl rfl rfl ?_ ?_) ?_ | refine QX.one rfl (One.appendOwnM hA tabOk _ rfl rfl rfl rfl rfl rfl rfl ?_ ?_) ?_ | refine QX.one rfl (One.appendOwnMM hA tabOk rfl rfl rfl rfl rfl rfl ?_ ?_) ?_ | refine QX.one rfl (One.appendOwn0 hA tabOk rfl rfl rfl rfl rfl rfl ?_ ?_) ?_) | (refine QX.k 13 ?_; first | refine QX.one rfl (One.byteM hA tabOk rfl rfl rfl rfl rfl ?_ ?_) ?_) | (refine QX.k 14 ?_; first | refine QX.one rfl (One.loadRatM hA tabOk rfl rfl rfl rfl rfl rfl ?_) ?_) | (refine QX.k 15 ?_; first | refine QX.one rfl (One.storeRatM hA tabOk _ rfl rfl rfl rfl rfl rfl rfl rfl (fun _ => rfl) ?_) ?_) | (refine QX.k 16 ?_; first | refine QX.one rfl (One.makeM hA tabOk encI 0 rfl rfl rfl rfl rfl rfl rfl ?_ ?_ ?_) ?_) | (refine QX.k 17 ?_; first | refine QX.one rfl (One.build0 tabOk rfl rfl) ?_) | (refine QX.k 18 ?_; first | refine QX.one rfl (One.fieldRat tabOk rfl rfl rfl rfl (by decide) rfl rfl) ?_)) <;> (first | refine QSg.pass ?_ | (((try simp only [zn]) <;> (try simp (disch := omega) only [zz hA, zb, zy, reduceCtorEq, Bool.false_eq_true, Int.reduceLT, Int.reduceLE, Int.reduceNeg]) <;> (try simp only [zw])) <;> omega)))
          | refine QX.raw ?_)
      | refine Thn.exit ?_
      | refine Blk.here ?_
      | refine Blk.other (by decide) ?_
      | refine ⟨.inl rfl, _, RetOk.ev tabOk (by conv => lhs; cbv), ?_⟩
      | fail)
    exact ⟨by simp [hA, real, hid], rfl⟩
  refine PureCalls.of Try.func31 rfl (by kernel_rfl) rfl ?_
  try first | refine AOLg.of [] ?_ | refine QSg.of [] ?_
  repeat' (first
    | (refine AWp.pass ?_; first
        | refine AWp.seq ?_
        | refine AWp.block ?_
        | refine AWp.skip ?_
        | refine AWp.regG [] (by conv => lhs; cbv) ?_
        | refine AWp.cond_t rfl ?_
        | refine AWp.cond_f rfl ?_
        | (refine AWp.cond rfl ?_ ?_ <;> intro hc <;> (try rw [hc]) <;> ((try simp only [zn] at hc) <;> (try simp (disch := omega) only [zz hA, zb, zy, reduceCtorEq, Bool.false_eq_true, Int.reduceLT, Int.reduceLE, Int.reduceNeg] at hc) <;> (try simp only [zw] at hc)) <;> (try (exfalso; omega)))
        | refine AWp.exit ?_
        | refine AWp.ret ⟨.inr rfl, _, RetOk.ev tabOk (by conv => lhs; cbv), ?_⟩
        | refine AWp.drawKG [] 0 rfl (by decide +kernel) (by conv => lhs; cbv) (by conv => lhs; cbv) ?_
        | refine AWp.drawKG [] 1 rfl (by decide +kernel) (by conv => lhs; cbv) (by conv => lhs; cbv) ?_
        | refine AWp.drawKG [] 2 rfl (by decide +kernel) (by conv => lhs; cbv) (by conv => lhs; cbv) ?_
        | refine AWp.drawKG [] 3 rfl (by decide +kernel) (by conv => lhs; cbv) (by conv => lhs; cbv) ?_
        | refine AWp.drawKG [] 4 rfl (by decide +kernel) (by conv => lhs; cbv) (by conv => lhs; cbv) ?_
        | refine AWp.drawKG [] 5 rfl (by decide +kernel) (by conv => lhs; cbv) (by conv => lhs; cbv) ?_
        | refine AWp.drawKG [] 6 rfl (by decide +kernel) (by conv => lhs; cbv) (by conv => lhs; cbv) ?_
        | refine AWp.drawKG [] 8 rfl (by decide +kernel) (by conv => lhs; cbv) (by conv => lhs; cbv) ?_)
    | (refine AOLg.pass ?_; refine AOLg.nx hA tabOk (by conv => lhs; cbv) ?_; first
        | refine NX.done ?_
        | refine NX.gt ?_
        | refine NX.gf ?_
        | (refine NX.gs ?_ ?_ <;> intro hc <;> rw [hc] <;> ((try simp only [zn] at hc) <;> (try simp (disch := omega) only [zz hA, zb, zy, reduceCtorEq, Bool.false_eq_true, Int.reduceLT, Int.reduceLE, Int.reduceNeg] at hc) <;> (try simp only [zw] at hc)) <;> (try (exfalso; omega)))
        | (refine NX.kC ?_; first | (with_reducible refine NX.call (find_c hA V N M ranks hR z h0 h1) ?_) | ((first | refine NX.call (find_c hA V N M ranks hR z h0 h1) ?_)) | fail)
        | (refine NX.kO ?_; (first | refine NX.callO (find_c hA V N M ranks hR z h0 h1) (by simp [allEq]) rfl ?_))
        | ((first | (refine NX.k 1 ?_; first | refine NX.one (One.elemM hA tabOk rfl rfl rfl rfl ?_ ?_) ?_ | refine NX.one (One.elemOwnM hA tabOk rfl rfl rfl rfl rfl ?_ ?_) ?_) | (refine NX.k 2 ?_; first | refine NX.one (One.clipM tabOk rfl rfl rfl rfl rfl ?_ ?_) ?_ | refine NX.one (One.cut_hM hA tabOk rfl rfl rfl rfl ?_ ?_) ?_ | refine NX.one (One.cut_lM hA tabOk rfl rfl rfl rfl ?_ ?_) ?_ | refine NX.one (One.cut_lhM hA tabOk rfl rfl rfl rfl rfl ?_ ?_ ?_) ?_) | (refine NX.k 3 ?_; first | refine NX.one (One.quoM hA rfl rfl rfl ?_) ?_) | (refine NX.k 4 ?_; first | refine NX.one (One.remM hA rfl rfl rfl ?_) ?_) | (refine NX.k 5 ?_; first | refine NX.one (One.shrM hA rfl rfl rfl ?_) ?_) | (refine NX.k 6 ?_; first | refine NX.one (One.bitsM hA rfl rfl rfl rfl) ?_) | (refine NX.k 7 ?_; first | refine NX.one (One.concatM hA rfl rfl rfl ?_) ?_) | (refine NX.k 8 ?_; first | refine NX.one (One.eqBoolM hA tabOk rfl rfl rfl rfl rfl) ?_) | (refine NX.k 9 ?_; first | refine NX.one (One.neBoolM hA tabOk rfl rfl rfl rfl rfl) ?_) | (refine NX.k 10 ?_; first | refine NX.one (One.lenOwnM hA tabOk rfl rfl rfl rfl) ?_) | (refine NX.k 11 ?_; first | refine NX.one (One.appendM hA tabOk _ rfl rfl rfl rfl rfl rfl ?_ ?_) ?_ | refine NX.one (One.appendMM hA tabOk rfl rfl rfl rfl rfl ?_ ?_) ?_ | refine NX.one (One.appendOwnM hA tabOk _ rfl rfl rfl rfl rfl rfl rfl ?_ ?_) ?_ | refine NX.one (One.appendOwnMM hA tabOk rfl rfl rfl rfl rfl rfl ?_ ?_) ?_ | refine NX.one (One.appendOwn0 hA tabOk rfl rfl rfl rfl rfl rfl ?_ ?_) ?_) | (refine NX.k 13 ?_; first | refine NX.one (One.byteM hA tabOk rfl rfl rfl rfl rfl ?_ ?_) ?_) | (refine NX.k 14 ?_; first | refine NX.one (One.loadRatM hA tabOk rfl rfl rfl rfl rfl rfl ?_) ?_) | (refine NX.k 15 ?_; first | refine NX.one (One.storeRatM hA tabOk _ rfl rfl rfl rfl rfl rfl rfl rfl (fun _ => rfl) ?_) ?_) | (refine NX.k 16 ?_; first | refine NX.one (One.makeM hA tabOk encI 0 rfl rfl rfl rfl rfl rfl rfl ?_ ?_ ?_) ?_) | (refine NX.k 17 ?_; first | refine NX.one (One.build0 tabOk rfl rfl) ?_) | (refine NX.k 18 ?_; first | refine NX.one (One.fieldRat tabOk rfl rfl rfl rfl (by decide) rfl rfl) ?_)) <;> (first | refine AOLg.pass ?_ | (((try simp only [zn]) <;> (try simp (disch := omega) only [zz hA, zb, zy, reduceCtorEq, Bool.false_eq_true, Int.reduceLT, Int.reduceLE, Int.reduceNeg]) <;> (try simp only [zw])) <;> omega)))
        | refine NX.raw ?_)
    | (refine QSg.pass ?_; refine QSg.nx hA tabOk (by conv => lhs; cbv) ?_; first
        | refine QX.done ?_
        | refine QX.gt ?_
        | refine QX.gf ?_
        | (refine QX.gs ?_ ?_ <;> intro hc <;> rw [hc] <;> ((try simp only [zn] at hc) <;> (try simp (disch := omega) only [zz hA, zb, zy, reduceCtorEq, Bool.false_eq_true, Int.reduceLT, Int.reduceLE, Int.reduceNeg] at hc) <;> (try simp only [zw] at hc)) <;> (try (exfalso; omega)))
        | (refine QX.kC ?_; first | (with_reducible refine QX.call (find_c hA V N M ranks hR z h0 h1) rfl ?_) | ((first | refine QX.call (find_c hA V N M ranks hR z h0 h1) rfl ?_)) | fail)
        | (refine QX.kO ?_; (first | refine QX.callO (find_c hA V N M ranks hR z h0 h1) rfl (by simp [allEq]) rfl ?_))
        | ((first | (refine QX.k 1 ?_; first | refine QX.one rfl (One.elemM hA tabOk rfl rfl rfl rfl ?_ ?_) ?_ | refine QX.one rfl (One.elemOwnM hA tabOk rfl rfl rfl rfl rfl ?_ ?_) ?_) | (refine QX.k 2 ?_; first | refine QX.one rfl (One.clipM tabOk rfl rfl rfl rfl rfl ?_ ?_) ?_ | refine QX.one rfl (One.cut_hM hA tabOk rfl rfl rfl rfl ?_ ?_) ?_ | refine QX.one rfl (One.cut_lM hA tabOk rfl rfl rfl rfl ?_ ?_) ?_ | refine QX.one rfl (One.cut_lhM hA tabOk rfl rfl rfl rfl rfl ?_ ?_ ?_) ?_) | (refine QX.k 3 ?_; first | refine QX.one rfl (One.quoM hA rfl rfl rfl ?_) ?_) | (refine QX.k 4 ?_; first | refine QX.one rfl (One.remM hA rfl rfl rfl ?_) ?_) | (refine QX.k 5 ?_; first | refine QX.one rfl (One.shrM hA rfl rfl rfl ?_) ?_) | (refine QX.k 6 ?_; first | refine QX.one rfl (One.bitsM hA rfl rfl rfl rfl) ?_) | (refine QX.k 7 ?_; first | refine QX.one rfl (One.concatM hA rfl rfl rfl ?_) ?_) | (refine QX.k 8 ?_; first | refine QX.one rfl (One.eqBoolM hA tabOk rfl rfl rfl rfl rfl) ?_) | (refine QX.k 9 ?_; first | refine QX.one rfl (One.neBoolM hA tabOk rfl rfl rfl rfl rfl) ?_) | (refine QX.k 10 ?_; first | refine QX.one rfl (One.lenOwnM hA tabOk rfl rfl rfl rfl) ?_) | (refine QX.k 11 ?_; first | refine QX.one rfl (One.appendM hA tabOk _ rfl rfl rfl rfl rfl rfl ?_ ?_) ?_ | refine QX.one rfl (One.appendMM hA tabOk rfl rfl rfl rfl rfl ?_ ?_) ?_ | refine QX.one rfl (One.appendOwnM hA tabOk _ rfl rfl rfl rfl rfl rfl rfl ?_ ?_) ?_ | refine QX.one rfl (One.appendOwnMM hA tabOk rfl rfl rfl rfl rfl rfl ?_ ?_) ?_ | refine QX.one rfl (One.appendOwn0 hA tabOk rfl rfl rfl rfl rfl rfl ?_ ?_) ?_) | (refine QX.k 13 ?_; first | refine QX.one rfl (One.byteM hA tabOk rfl rfl rfl rfl rfl ?_ ?_) ?_) | (refine QX.k 14 ?_; first | refine QX.one rfl (One.loadRatM hA tabOk rfl rfl rfl rfl rfl rfl ?_) ?_) | (refine QX.k 15 ?_; first | refine QX.one rfl (One.storeRatM hA tabOk _ rfl rfl rfl rfl rfl rfl rfl rfl (fun _ => rfl) ?_) ?_) | (refine QX.k 16 ?_; first | refine QX.one rfl (One.makeM hA tabOk encI 0 rfl rfl rfl rfl rfl rfl rfl ?_ ?_ ?_) ?_) | (refine QX.k 17 ?_; first | refine QX.one rfl (One.build0 tabOk rfl rfl) ?_) | (refine QX.k 18 ?_; first | refine QX.one rfl (One.fieldRat tabOk rfl rfl rfl rfl (by decide) rfl rfl) ?_)) <;> (first | refine QSg.pass ?_ | (((try simp only [zn]) <;> (try simp (disch := omega) only [zz hA, zb, zy, reduceCtorEq, Bool.false_eq_true, Int.reduceLT, Int.reduceLE, Int.reduceNeg]) <;> (try simp only [zw])) <;> omega)))
        | refine QX.raw ?_)
    | refine Thn.exit ?_
    | refine Blk.here ?_
    | refine Blk.other (by decide) ?_
    | refine ⟨.inl rfl, _, RetOk.ev tabOk (by conv => lhs; cbv), ?_⟩
    | fail)
  refine AOL.scall rfl rfl (those_2 hA V N M _ _ (fun k => decide (findU V k = findU V z)) _ _ hV hg) ?_
  rintro y st' ⟨ver, q, rfl, rfl⟩
  refine AOL.norm (by conv => lhs; cbv) ?_
  try first | refine AOLg.of [] ?_ | refine QSg.of [] ?_
  repeat' (first
    | (refine AWp.pass ?_; first
        | refine AWp.seq ?_
        | refine AWp.block ?_
        | refine AWp.skip ?_
        | refine AWp.regG [] (by conv => lhs; cbv) ?_
        | refine AWp.cond_t rfl ?_
        | refine AWp.cond_f rfl ?_
        | (refine AWp.cond rfl ?_ ?_ <;> intro hc <;> (try rw [hc]) <;> ((try simp only [zn] at hc) <;> (try simp (disch := omega) only [zz hA, zb, zy, reduceCtorEq, Bool.false_eq_true, Int.reduceLT, Int.reduceLE, Int.reduceNeg] at hc) <;> (try simp only [zw] at hc)) <;> (try (exfalso; omega)))
        | refine AWp.exit ?_
        | refine AWp.ret ⟨.inr rfl, _, RetOk.ev tabOk (by conv => lhs; cbv), ?_⟩
        | refine AWp.drawKG [] 0 rfl (by decide +kernel) (by conv => lhs; cbv) (by conv => lhs; cbv) ?_
        | refine AWp.drawKG [] 1 rfl (by decide +kernel) (by conv => lhs; cbv) (by conv => lhs; cbv) ?_
        | refine AWp.drawKG [] 2 rfl (by decide +kernel) (by conv => lhs; cbv) (by conv => lhs; cbv) ?_
        | refine AWp.drawKG [] 3 rfl (by decide +kernel) (by conv => lhs; cbv) (by conv => lhs; cbv) ?_
        | refine AWp.drawKG [] 4 rfl (by decide +kernel) (by conv => lhs; cbv) (by conv => lhs; cbv) ?_
        | refine AWp.drawKG [] 5 rfl (by decide +kernel) (by conv => lhs; cbv) (by conv => lhs; cbv) ?_
        | refine AWp.drawKG [] 6 rfl (by decide +kernel) (by conv => lhs; cbv) (by conv => lhs; cbv) ?_
        | refine AWp.drawKG [] 8 rfl (by decide +kernel) (by conv => lhs; cbv) (by conv => lhs; cbv) ?_)
    | (refine AOLg.pass ?_; refine AOLg.nx hA tabOk (by conv => lhs; cbv) ?_; first
        | refine NX.done ?_
        | refine NX.gt ?_
        | refine NX.gf ?_
        | (refine NX.gs ?_ ?_ <;> intro hc <;> rw [hc] <;> ((try simp only [zn] at hc) <;> (try simp (disch := omega) only [zz hA, zb, zy, reduceCtorEq, Bool.false_eq_true, Int.reduceLT, Int.reduceLE, Int.reduceNeg] at hc) <;> (try simp only [zw] at hc)) <;> (try (exfalso; omega)))
        | ((first | (refine NX.k 1 ?_; first | refine NX.one (One.elemM hA tabOk rfl rfl rfl rfl ?_ ?_) ?_ | refine NX.one (One.elemOwnM hA tabOk rfl rfl rfl rfl rfl ?_ ?_) ?_) | (refine NX.k 2 ?_; first | refine NX.one (One.clipM tabOk rfl rfl rfl rfl rfl ?_ ?_) ?_ | refine NX.one (One.cut_hM hA tabOk rfl rfl rfl rfl ?_ ?_) ?_ | refine NX.one (One.cut_lM hA tabOk rfl rfl rfl rfl ?_ ?_) ?_ | refine NX.one (One.cut_lhM hA tabOk rfl rfl rfl rfl rfl ?_ ?_ ?_) ?_) | (refine NX.k 3 ?_; first | refine NX.one (One.quoM hA rfl rfl rfl ?_) ?_) | (refine NX.k 4 ?_; first | refine NX.one (One.remM hA rfl rfl rfl ?_) ?_) | (refine NX.k 5 ?_; first | refine NX.one (One.shrM hA rfl rfl rfl ?_) ?_) | (refine NX.k 6 ?_; first | refine NX.one (One.bitsM hA rfl rfl rfl rfl) ?_) | (refine NX.k 7 ?_; first | refine NX.one (One.concatM hA rfl rfl rfl ?_) ?_) | (refine NX.k 8 ?_; first | refine NX.one (One.eqBoolM hA tabOk rfl rfl rfl rfl rfl) ?_) | (refine NX.k 9 ?_; first | refine NX.one (One.neBoolM hA tabOk rfl rfl rfl rfl rfl) ?_) | (refine NX.k 10 ?_; first | refine NX.one (One.lenOwnM hA tabOk rfl rfl rfl rfl) ?_) | (refine NX.k 11 ?_; first | refine NX.one (One.appendM hA tabOk _ rfl rfl rfl rfl rfl rfl ?_ ?_) ?_ | refine NX.one (One.appendMM hA tabOk rfl rfl rfl rfl rfl ?_ ?_) ?_ | refine NX.one (One.appendOwnM hA tabOk _ rfl rfl rfl rfl rfl rfl rfl ?_ ?_) ?_ | refine NX.one (One.appendOwnMM hA tabOk rfl rfl rfl rfl rfl rfl ?_ ?_) ?_ | refine NX.one (One.appendOwn0 hA tabOk rfl rfl rfl rfl rfl rfl ?_ ?_) ?_) | (refine NX.k 13 ?_; first | refine NX.one (One.byteM hA tabOk rfl rfl rfl rfl rfl ?_ ?_) ?_) | (refine NX.k 14 ?_; first | refine NX.one (One.loadRatM hA tabOk rfl rfl rfl rfl rfl rfl ?_) ?_) | (refine NX.k 15 ?_; first | refine NX.one (One.storeRatM hA tabOk _ rfl rfl rfl rfl rfl rfl rfl rfl (fun _ => rfl) ?_) ?_) | (refine NX.k 16 ?_; first | refine NX.one (One.makeM hA tabOk encI 0 rfl rfl rfl rfl rfl rfl rfl ?_ ?_ ?_) ?_) | (refine NX.k 17 ?_; first | refine NX.one (One.build0 tabOk rfl rfl) ?_) | (refine NX.k 18 ?_; first | refine NX.one (One.fieldRat tabOk rfl rfl rfl rfl (by decide) rfl rfl) ?_)) <;> (first | refine AOLg.pass ?_ | (((try simp only [zn]) <;> (try simp (disch := omega) only [zz hA, zb, zy, reduceCtorEq, Bool.false_eq_true, Int.reduceLT, Int.reduceLE, Int.reduceNeg]) <;> (try simp only [zw])) <;> omega)))
        | refine NX.raw ?_)
    | (refine QSg.pass ?_; refine QSg.nx hA tabOk (by conv => lhs; cbv) ?_; first
        | refine QX.done ?_
        | refine QX.gt ?_
        | refine QX.gf ?_
        | (refine QX.gs ?_ ?_ <;> intro hc <;> rw [hc] <;> ((try simp only [zn] at hc) <;> (try simp (disch := omega) only [zz hA, zb, zy, reduceCtorEq, Bool.false_eq_true, Int.reduceLT, Int.reduceLE, Int.reduceNeg] at hc) <;> (try simp only [zw] at hc)) <;> (try (exfalso; omega)))
        | ((first | (refine QX.k 1 ?_; first | refine QX.one rfl (One.elemM hA tabOk rfl rfl rfl rfl ?_ ?_) ?_ | refine QX.one rfl (One.elemOwnM hA tabOk rfl rfl rfl rfl rfl ?_ ?_) ?_) | (refine QX.k 2 ?_; first | refine QX.one rfl (One.clipM tabOk rfl rfl rfl rfl rfl ?_ ?_) ?_ | refine QX.one rfl (One.cut_hM hA tabOk rfl rfl rfl rfl ?_ ?_) ?_ | refine QX.one rfl (One.cut_lM hA tabOk rfl rfl rfl rfl ?_ ?_) ?_ | refine QX.one rfl (One.cut_lhM hA tabOk rfl rfl rfl rfl rfl ?_ ?_ ?_) ?_) | (refine QX.k 3 ?_; first | refine QX.one rfl (One.quoM hA rfl rfl rfl ?_) ?_) | (refine QX.k 4 ?_; first | refine QX.one rfl (One.remM hA rfl rfl rfl ?_) ?_) | (refine QX.k 5 ?_; first | refine QX.one rfl (One.shrM hA rfl rfl rfl ?_) ?_) | (refine QX.k 6 ?_; first | refine QX.one rfl (One.bitsM hA rfl rfl rfl rfl) ?_) | (refine QX.k 7 ?_; first | refine QX.one rfl (One.concatM hA rfl rfl rfl ?_) ?_) | (refine QX.k 8 ?_; first | refine QX.one rfl (One.eqBoolM hA tabOk rfl rfl rfl rfl rfl) ?_) | (refine QX.k 9 ?_; first | refine QX.one rfl (One.neBoolM hA tabOk rfl rfl rfl rfl rfl) ?_) | (refine QX.k 10 ?_; first | refine QX.one rfl (One.lenOwnM hA tabOk rfl rfl rfl rfl) ?_) | (refine QX.k 11 ?_; first | refine QX.one rfl (One.appendM hA tabOk _ rfl rfl rfl rfl rfl rfl ?_ ?_) ?_ | refine QX.one rfl (One.appendMM hA tabOk rfl rfl rfl rfl rfl ?_ ?_) ?_ | refine QX.one rfl (One.appendOwnM hA tabOk _ rfl rfl rfl rfl rfl rfl rfl ?_ ?_) ?_ | refine QX.one rfl (One.appendOwnMM hA tabOk rfl rfl rfl rfl rfl rfl ?_ ?_) ?_ | refine QX.one rfl (One.appendOwn0 hA tabOk rfl rfl rfl rfl rfl rfl ?_ ?_) ?_) | (refine QX.k 13 ?_; first | refine QX.one rfl (One.byteM hA tabOk rfl rfl rfl rfl rfl ?_ ?_) ?_) | (refine QX.k 14 ?_; first | refine QX.one rfl (One.loadRatM hA tabOk rfl rfl rfl rfl rfl rfl ?_) ?_) | (refine QX.k 15 ?_; first | refine QX.one rfl (One.storeRatM hA tabOk _ rfl rfl rfl rfl rfl rfl rfl rfl (fun _ => rfl) ?_) ?_) | (refine QX.k 16 ?_; first | refine QX.one rfl (One.makeM hA tabOk encI 0 rfl rfl rfl rfl rfl rfl rfl ?_ ?_ ?_) ?_) | (refine QX.k 17 ?_; first | refine QX.one rfl (One.build0 tabOk rfl rfl) ?_) | (refine QX.k 18 ?_; first | refine QX.one rfl (One.fieldRat tabOk rfl rfl rfl rfl (by decide) rfl rfl) ?_)) <;> (first | refine QSg.pass ?_ | (((try simp only [zn]) <;> (try simp (disch := omega) only [zz hA, zb, zy, reduceCtorEq, Bool.false_eq_true, Int.reduceLT, Int.reduceLE, Int.reduceNeg]) <;> (try simp only [zw])) <;> omega)))
        | refine QX.raw ?_)
    | refine Thn.exit ?_
    | refine Blk.here ?_
    | refine Blk.other (by decide) ?_
    | refine ⟨.inl rfl, _, RetOk.ev tabOk (by conv => lhs; cbv), ?_⟩
    | fail)
  exact rPV_own rfl
end Go.Proofs.Ytinehodamekjgaa.Aw

/- Contracts of package uf, part 4: which cells are classes. -/
set_option linter.unusedVariables false
set_option linter.unusedSimpArgs false
namespace Go.Proofs.Ytinehodamekjgaa.Aw
open Go Go.RowKit
set_option maxRecDepth 10000
attribute [local irreducible] AWp AOL QS One AOLg QSg NX QX
def okU (V ranks : List Int) (n : Nat) : Bool := decide (V.getD n default = n) || (decide (0 ≤ V.getD n default) && decide (V.getD n default < V.length) && lessM ranks (V.getD n default) n)
def rightB (V ranks : List Int) : Bool := (List.range V.length).all (okU V ranks)
theorem rightB_iff (V ranks : List Int) : rightB V ranks = true ↔ RightU V ranks := by
  unfold rightB
  rw [List.all_eq_true]
  constructor
  · intro h
    refine ⟨fun n hn => ?_⟩
    have := h n (List.mem_range.2 hn)
    simpa [okU, and_assoc] using this
  · intro h n hn
    have := h.ok n (List.mem_range.1 hn)
    simpa [okU, and_assoc] using this
theorem rightB_false {V ranks : List Int} {n : Nat} (hn : n < V.length) (h : okU V ranks n = false) : rightB V ranks = false := by
  cases hb : rightB V ranks with
  | false => rfl
  | true =>
    unfold rightB at hb
    rw [List.all_eq_true] at hb
    rw [hb n (List.mem_range.2 hn)] at h
    cases h
theorem rightB_all {V ranks : List Int} (h : ∀ n, n < V.length → okU V ranks n = true) : rightB V ranks = true := by
  unfold rightB
  rw [List.all_eq_true]
  exact fun n hn => h n (List.mem_range.1 hn)
variable {A : Ar} (hA : A = real)
include hA
theorem refLess_c (ranks : List Int) (a b : Int) (hr : ranks.length ≤ 1000000) : PureCalls Try.prog 41 [intsP A ranks, IP a, IP b] (BP (hid A (lessM ranks a b))) := by
  have e1 : ∀ z : Int, ¬ z < 0 → ¬ (ranks.length : Int) ≤ z → rankM ranks z = ranks.getD z.toNat default := fun z h1 h2 => by rw [rankM, if_neg (by omega)]
  have e2 : ∀ z : Int, z < 0 ∨ (ranks.length : Int) ≤ z → rankM ranks z = 0 := fun z h => by rw [rankM, if_pos h]
  have e3 : (∀ z : Int, (z < 0 ∨ (ranks.length : Int) ≤ z) ∨ (0 ≤ z ∧ z < ranks.length)) := fun z => by omega
  refine PureCalls.of Try.func41 rfl (by kernel_rfl) rfl ?_
  try first | refine AOLg.of [] ?_ | refine QSg.of [] ?_
  repeat' (first
    | (refine AWp.pass ?_; first
        | refine AWp.seq ?_
        | refine AWp.block ?_
        | refine AWp.skip ?_
        | refine AWp.regG [] (by conv => lhs; cbv) ?_
        | refine AWp.cond_t rfl ?_
        | refine AWp.cond_f rfl ?_
        | (refine AWp.cond rfl ?_ ?_ <;> intro hc <;> (try rw [hc]) <;> ((try simp only [zn] at hc) <;> (try simp (disch := omega) only [zz hA, zb, zy, reduceCtorEq, Bool.false_eq_true, Int.reduceLT, Int.reduceLE, Int.reduceNeg] at hc) <;> (try simp only [zw] at hc)) <;> (try (exfalso; omega)))
        | refine AWp.exit ?_
        | refine AWp.ret ⟨.inr rfl, _, RetOk.ev tabOk (by conv => lhs; cbv), ?_⟩
        | refine AWp.drawKG [] 0 rfl (by decide +kernel) (by conv => lhs; cbv) (by conv => lhs; cbv) ?_
        | refine AWp.drawKG [] 1 rfl (by decide +kernel) (by conv => lhs; cbv) (by conv => lhs; cbv) ?_
        | refine AWp.drawKG [] 2 rfl (by decide +kernel) (by conv => lhs; cbv) (by conv => lhs; cbv) ?_
        | refine AWp.drawKG [] 3 rfl (by decide +kernel) (by conv => lhs; cbv) (by conv => lhs; cbv) ?_
        | refine AWp.drawKG [] 4 rfl (by decide +kernel) (by conv => lhs; cbv) (by conv => lhs; cbv) ?_
        | refine AWp.drawKG [] 5 rfl (by decide +kernel) (by conv => lhs; cbv) (by conv => lhs; cbv) ?_
        | refine AWp.drawKG [] 6 rfl (by decide +kernel) (by conv => lhs; cbv) (by conv => lhs; cbv) ?_
        | refine AWp.drawKG [] 8 rfl (by decide +kernel) (by conv => lhs; cbv) (by conv => lhs; cbv) ?_)
    | (refine AOLg.pass ?_; refine AOLg.nx hA tabOk (by conv => lhs; cbv) ?_; first
        | refine NX.done ?_
        | refine NX.gt ?_
        | refine NX.gf ?_
        | (refine NX.gs ?_ ?_ <;> intro hc <;> rw [hc] <;> ((try simp only [zn] at hc) <;> (try simp (disch := omega) only [zz hA, zb, zy, reduceCtorEq, Bool.false_eq_true, Int.reduceLT, Int.reduceLE, Int.reduceNeg] at hc) <;> (try simp only [zw] at hc)) <;> (try (exfalso; omega)))
        | ((first | (refine NX.k 1 ?_; first | refine NX.one (One.elemM hA tabOk rfl rfl rfl rfl ?_ ?_) ?_ | refine NX.one (One.elemOwnM hA tabOk rfl rfl rfl rfl rfl ?_ ?_) ?_) | (refine NX.k 2 ?_; first | refine NX.one (One.clipM tabOk rfl rfl rfl rfl rfl ?_ ?_) ?_ | refine NX.one (One.cut_hM hA tabOk rfl rfl rfl rfl ?_ ?_) ?_ | refine NX.one (One.cut_lM hA tabOk rfl rfl rfl rfl ?_ ?_) ?_ | refine NX.one (One.cut_lhM hA tabOk rfl rfl rfl rfl rfl ?_ ?_ ?_) ?_) | (refine NX.k 3 ?_; first | refine NX.one (One.quoM hA rfl rfl rfl ?_) ?_) | (refine NX.k 4 ?_; first | refine NX.one (One.remM hA rfl rfl rfl ?_) ?_) | (refine NX.k 5 ?_; first | refine NX.one (One.shrM hA rfl rfl rfl ?_) ?_) | (refine NX.k 6 ?_; first | refine NX.one (One.bitsM hA rfl rfl rfl rfl) ?_) | (refine NX.k 7 ?_; first | refine NX.one (One.concatM hA rfl rfl rfl ?_) ?_) | (refine NX.k 8 ?_; first | refine NX.one (One.eqBoolM hA tabOk rfl rfl rfl rfl rfl) ?_) | (refine NX.k 9 ?_; first | refine NX.one (One.neBoolM hA tabOk rfl rfl rfl rfl rfl) ?_) | (refine NX.k 10 ?_; first | refine NX.one (One.lenOwnM hA tabOk rfl rfl rfl rfl) ?_) | (refine NX.k 11 ?_; first | refine NX.one (One.appendM hA tabOk _ rfl rfl rfl rfl rfl rfl ?_ ?_) ?_ | refine NX.one (One.appendMM hA tabOk rfl rfl rfl rfl rfl ?_ ?_) ?_ | refine NX.one (One.appendOwnM hA tabOk _ rfl rfl rfl rfl rfl rfl rfl ?_ ?_) ?_ | refine NX.one (One.appendOwnMM hA tabOk rfl rfl rfl rfl rfl rfl ?_ ?_) ?_ | refine NX.one (One.appendOwn0 hA tabOk rfl rfl rfl rfl rfl rfl ?_ ?_) ?_) | (refine NX.k 13 ?_; first | refine NX.one (One.byteM hA tabOk rfl rfl rfl rfl rfl ?_ ?_) ?_) | (refine NX.k 14 ?_; first | refine NX.one (One.loadRatM hA tabOk rfl rfl rfl rfl rfl rfl ?_) ?_) | (refine NX.k 15 ?_; first | refine NX.one (One.storeRatM hA tabOk _ rfl rfl rfl rfl rfl rfl rfl rfl (fun _ => rfl) ?_) ?_) | (refine NX.k 16 ?_; first | refine NX.one (One.makeM hA tabOk encI 0 rfl rfl rfl rfl rfl rfl rfl ?_ ?_ ?_) ?_) | (refine NX.k 17 ?_; first | refine NX.one (One.build0 tabOk rfl rfl) ?_) | (refine NX.k 18 ?_; first | refine NX.one (One.fieldRat tabOk rfl rfl rfl rfl (by decide) rfl rfl) ?_)) <;> (first | refine AOLg.pass ?_ | (((try simp only [zn]) <;> (try simp (disch := omega) only [zz hA, zb, zy, reduceCtorEq, Bool.false_eq_true, Int.reduceLT, Int.reduceLE, Int.reduceNeg]) <;> (try simp only [zw])) <;> omega)))
        | refine NX.raw ?_)
    | (refine QSg.pass ?_; refine QSg.nx hA tabOk (by conv => lhs; cbv) ?_; first
        | refine QX.done ?_
        | refine QX.gt ?_
        | refine QX.gf ?_
        | (refine QX.gs ?_ ?_ <;> intro hc <;> rw [hc] <;> ((try simp only [zn] at hc) <;> (try simp (disch := omega) only [zz hA, zb, zy, reduceCtorEq, Bool.false_eq_true, Int.reduceLT, Int.reduceLE, Int.reduceNeg] at hc) <;> (try simp only [zw] at hc)) <;> (try (exfalso; omega)))
        | ((first | (refine QX.k 1 ?_; first | refine QX.one rfl (One.elemM hA tabOk rfl rfl rfl rfl ?_ ?_) ?_ | refine QX.one rfl (One.elemOwnM hA tabOk rfl rfl rfl rfl rfl ?_ ?_) ?_) | (refine QX.k 2 ?_; first | refine QX.one rfl (One.clipM tabOk rfl rfl rfl rfl rfl ?_ ?_) ?_ | refine QX.one rfl (One.cut_hM hA tabOk rfl rfl rfl rfl ?_ ?_) ?_ | refine QX.one rfl (One.cut_lM hA tabOk rfl rfl rfl rfl ?_ ?_) ?_ | refine QX.one rfl (One.cut_lhM hA tabOk rfl rfl rfl rfl rfl ?_ ?_ ?_) ?_) | (refine QX.k 3 ?_; first | refine QX.one rfl (One.quoM hA rfl rfl rfl ?_) ?_) | (refine QX.k 4 ?_; first | refine QX.one rfl (One.remM hA rfl rfl rfl ?_) ?_) | (refine QX.k 5 ?_; first | refine QX.one rfl (One.shrM hA rfl rfl rfl ?_) ?_) | (refine QX.k 6 ?_; first | refine QX.one rfl (One.bitsM hA rfl rfl rfl rfl) ?_) | (refine QX.k 7 ?_; first | refine QX.one rfl (One.concatM hA rfl rfl rfl ?_) ?_) | (refine QX.k 8 ?_; first | refine QX.one rfl (One.eqBoolM hA tabOk rfl rfl rfl rfl rfl) ?_) | (refine QX.k 9 ?_; first | refine QX.one rfl (One.neBoolM hA tabOk rfl rfl rfl rfl rfl) ?_) | (refine QX.k 10 ?_; first | refine QX.one rfl (One.lenOwnM hA tabOk rfl rfl rfl rfl) ?_) | (refine QX.k 11 ?_; first | refine QX.one rfl (One.appendM hA tabOk _ rfl rfl rfl rfl rfl rfl ?_ ?_) ?_ | refine QX.one rfl (One.appendMM hA tabOk rfl rfl rfl rfl rfl ?_ ?_) ?_ | refine QX.one rfl (One.appendOwnM hA tabOk _ rfl rfl rfl rfl rfl rfl rfl ?_ ?_) ?_ | refine QX.one rfl (One.appendOwnMM hA tabOk rfl rfl rfl rfl rfl rfl ?_ ?_) ?_ | refine QX.one rfl (One.appendOwn0 hA tabOk rfl rfl rfl rfl rfl rfl ?_ ?_) ?_) | (refine QX.k 13 ?_; first | refine QX.one rfl (One.byteM hA tabOk rfl rfl rfl rfl rfl ?_ ?_) ?_) | (refine QX.k 14 ?_; first | refine QX.one rfl (One.loadRatM hA tabOk rfl rfl rfl rfl rfl rfl ?_) ?_) | (refine QX.k 15 ?_; first | refine QX.one rfl (One.storeRatM hA tabOk _ rfl rfl rfl rfl rfl rfl rfl rfl (fun _ => rfl) ?_) ?_) | (refine QX.k 16 ?_; first | refine QX.one rfl (One.makeM hA tabOk encI 0 rfl rfl rfl rfl rfl rfl rfl ?_ ?_ ?_) ?_) | (refine QX.k 17 ?_; first | refine QX.one rfl (One.build0 tabOk rfl rfl) ?_) | (refine QX.k 18 ?_; first | refine QX.one rfl (One.fieldRat tabOk rfl rfl rfl rfl (by decide) rfl rfl) ?_)) <;> (first | refine QSg.pass ?_ | (((try simp only [zn]) <;> (try simp (disch := omega) only [zz hA, zb, zy, reduceCtorEq, Bool.false_eq_true, Int.reduceLT, Int.reduceLE, Int.reduceNeg]) <;> (try simp only [zw])) <;> omega)))
        | refine QX.raw ?_)
    | refine Thn.exit ?_
    | refine Blk.here ?_
    | refine Blk.other (by decide) ?_
    | refine ⟨.inl rfl, _, RetOk.ev tabOk (by conv => lhs; cbv), ?_⟩
    | fail)
  all_goals
    refine rPV_then (by conv => lhs; cbv) ?_
    ((try simp only [zn]) <;> (try simp (disch := omega) only [zz hA, zb, zy, reduceCtorEq, Bool.false_eq_true, Int.reduceLT, Int.reduceLE, Int.reduceNeg, lessM]) <;> (try simp only [zw]))
    rcases e3 a with ha | ha <;> rcases e3 b with hb | hb
    all_goals first
      | (exfalso; omega)
      | skip
    all_goals first
      | rw [e2 a ha, e2 b hb]
      | rw [e2 a ha, e1 b (by omega) (by omega)]
      | rw [e1 a (by omega) (by omega), e2 b hb]
      | rw [e1 a (by omega) (by omega), e1 b (by omega) (by omega)]
    all_goals clear e1 e2 e3
    all_goals refine congrArg (fun b => PV.c (IC.lit (Value.bool b))) ?_
    all_goals rw [Bool.eq_iff_iff]
    all_goals simp only [hid_eq hA, Bool.or_eq_true, Bool.and_eq_true, decide_eq_true_eq]
    all_goals first | omega | (simp; done) | (simp; omega)
theorem refURight_c (c : Cl) (hc : c.small) (ranks : List Int) (hr : ranks.length ≤ 1000000) : PureCalls Try.prog 25 [clP A c.V c.N c.M, intsP A ranks] (BP (hid A (rightB c.V ranks && c.right))) := by
  have hrr : PureCalls Try.prog 15 [clP A c.V c.N c.M] (BP (hid A c.right)) := by rw [clP_eq hA c, hid_eq hA]; exact refRight hA c hc
  have hv := hc.v
  refine PureCalls.of Try.func25 rfl (by kernel_rfl) rfl ?_
  try first | refine AOLg.of [] ?_ | refine QSg.of [] ?_
  repeat' (first
    | (refine AWp.pass ?_; first
        | refine AWp.seq ?_
        | refine AWp.block ?_
        | refine AWp.skip ?_
        | refine AWp.regG [] (by conv => lhs; cbv) ?_
        | refine AWp.cond_t rfl ?_
        | refine AWp.cond_f rfl ?_
        | (refine AWp.cond rfl ?_ ?_ <;> intro hc <;> (try rw [hc]) <;> ((try simp only [zn] at hc) <;> (try simp (disch := omega) only [zz hA, zb, zy, reduceCtorEq, Bool.false_eq_true, Int.reduceLT, Int.reduceLE, Int.reduceNeg] at hc) <;> (try simp only [zw] at hc)) <;> (try (exfalso; omega)))
        | refine AWp.exit ?_
        | refine AWp.ret ⟨.inr rfl, _, RetOk.ev tabOk (by conv => lhs; cbv), ?_⟩
        | refine AWp.drawKG [] 0 rfl (by decide +kernel) (by conv => lhs; cbv) (by conv => lhs; cbv) ?_
        | refine AWp.drawKG [] 1 rfl (by decide +kernel) (by conv => lhs; cbv) (by conv => lhs; cbv) ?_
        | refine AWp.drawKG [] 2 rfl (by decide +kernel) (by conv => lhs; cbv) (by conv => lhs; cbv) ?_
        | refine AWp.drawKG [] 3 rfl (by decide +kernel) (by conv => lhs; cbv) (by conv => lhs; cbv) ?_
        | refine AWp.drawKG [] 4 rfl (by decide +kernel) (by conv => lhs; cbv) (by conv => lhs; cbv) ?_
        | refine AWp.drawKG [] 5 rfl (by decide +kernel) (by conv => lhs; cbv) (by conv => lhs; cbv) ?_
        | refine AWp.drawKG [] 6 rfl (by decide +kernel) (by conv => lhs; cbv) (by conv => lhs; cbv) ?_
        | refine AWp.drawKG [] 8 rfl (by decide +kernel) (by conv => lhs; cbv) (by conv => lhs; cbv) ?_)
    | (refine AOLg.pass ?_; refine AOLg.nx hA tabOk (by conv => lhs; cbv) ?_; first
        | refine NX.done ?_
        | refine NX.gt ?_
        | refine NX.gf ?_
        | (refine NX.gs ?_ ?_ <;> intro hc <;> rw [hc] <;> ((try simp only [zn] at hc) <;> (try simp (disch := omega) only [zz hA, zb, zy, reduceCtorEq, Bool.false_eq_true, Int.reduceLT, Int.reduceLE, Int.reduceNeg] at hc) <;> (try simp only [zw] at hc)) <;> (try (exfalso; omega)))
        | ((first | (refine NX.k 1 ?_; first | refine NX.one (One.elemM hA tabOk rfl rfl rfl rfl ?_ ?_) ?_ | refine NX.one (One.elemOwnM hA tabOk rfl rfl rfl rfl rfl ?_ ?_) ?_) | (refine NX.k 2 ?_; first | refine NX.one (One.clipM tabOk rfl rfl rfl rfl rfl ?_ ?_) ?_ | refine NX.one (One.cut_hM hA tabOk rfl rfl rfl rfl ?_ ?_) ?_ | refine NX.one (One.cut_lM hA tabOk rfl rfl rfl rfl ?_ ?_) ?_ | refine NX.one (One.cut_lhM hA tabOk rfl rfl rfl rfl rfl ?_ ?_ ?_) ?_) | (refine NX.k 3 ?_; first | refine NX.one (One.quoM hA rfl rfl rfl ?_) ?_) | (refine NX.k 4 ?_; first | refine NX.one (One.remM hA rfl rfl rfl ?_) ?_) | (refine NX.k 5 ?_; first | refine NX.one (One.shrM hA rfl rfl rfl ?_) ?_) | (refine NX.k 6 ?_; first | refine NX.one (One.bitsM hA rfl rfl rfl rfl) ?_) | (refine NX.k 7 ?_; first | refine NX.one (One.concatM hA rfl rfl rfl ?_) ?_) | (refine NX.k 8 ?_; first | refine NX.one (One.eqBoolM hA tabOk rfl rfl rfl rfl rfl) ?_) | (refine NX.k 9 ?_; first | refine NX.one (One.neBoolM hA tabOk rfl rfl rfl rfl rfl) ?_) | (refine NX.k 10 ?_; first | refine NX.one (One.lenOwnM hA tabOk rfl rfl rfl rfl) ?_) | (refine NX.k 11 ?_; first | refine NX.one (One.appendM hA tabOk _ rfl rfl rfl rfl rfl rfl ?_ ?_) ?_ | refine NX.one (One.appendMM hA tabOk rfl rfl rfl rfl rfl ?_ ?_) ?_ | refine NX.one (One.appendOwnM hA tabOk _ rfl rfl rfl rfl rfl rfl rfl ?_ ?_) ?_ | refine NX.one (One.appendOwnMM hA tabOk rfl rfl rfl rfl rfl rfl ?_ ?_) ?_ | refine NX.one (One.appendOwn0 hA tabOk rfl rfl rfl rfl rfl rfl ?_ ?_) ?_) | (refine NX.k 13 ?_; first | refine NX.one (One.byteM hA tabOk rfl rfl rfl rfl rfl ?_ ?_) ?_) | (refine NX.k 14 ?_; first | refine NX.one (One.loadRatM hA tabOk rfl rfl rfl rfl rfl rfl ?_) ?_) | (refine NX.k 15 ?_; first | refine NX.one (One.storeRatM hA tabOk _ rfl rfl rfl rfl rfl rfl rfl rfl (fun _ => rfl) ?_) ?_) | (refine NX.k 16 ?_; first | refine NX.one (One.makeM hA tabOk encI 0 rfl rfl rfl rfl rfl rfl rfl ?_ ?_ ?_) ?_) | (refine NX.k 17 ?_; first | refine NX.one (One.build0 tabOk rfl rfl) ?_) | (refine NX.k 18 ?_; first | refine NX.one (One.fieldRat tabOk rfl rfl rfl rfl (by decide) rfl rfl) ?_)) <;> (first | refine AOLg.pass ?_ | (((try simp only [zn]) <;> (try simp (disch := omega) only [zz hA, zb, zy, reduceCtorEq, Bool.false_eq_true, Int.reduceLT, Int.reduceLE, Int.reduceNeg]) <;> (try simp only [zw])) <;> omega)))
        | refine NX.raw ?_)
    | (refine QSg.pass ?_; refine QSg.nx hA tabOk (by conv => lhs; cbv) ?_; first
        | refine QX.done ?_
        | refine QX.gt ?_
        | refine QX.gf ?_
        | (refine QX.gs ?_ ?_ <;> intro hc <;> rw [hc] <;> ((try simp only [zn] at hc) <;> (try simp (disch := omega) only [zz hA, zb, zy, reduceCtorEq, Bool.false_eq_true, Int.reduceLT, Int.reduceLE, Int.reduceNeg] at hc) <;> (try simp only [zw] at hc)) <;> (try (exfalso; omega)))
        | ((first | (refine QX.k 1 ?_; first | refine QX.one rfl (One.elemM hA tabOk rfl rfl rfl rfl ?_ ?_) ?_ | refine QX.one rfl (One.elemOwnM hA tabOk rfl rfl rfl rfl rfl ?_ ?_) ?_) | (refine QX.k 2 ?_; first | refine QX.one rfl (One.clipM tabOk rfl rfl rfl rfl rfl ?_ ?_) ?_ | refine QX.one rfl (One.cut_hM hA tabOk rfl rfl rfl rfl ?_ ?_) ?_ | refine QX.one rfl (One.cut_lM hA tabOk rfl rfl rfl rfl ?_ ?_) ?_ | refine QX.one rfl (One.cut_lhM hA tabOk rfl rfl rfl rfl rfl ?_ ?_ ?_) ?_) | (refine QX.k 3 ?_; first | refine QX.one rfl (One.quoM hA rfl rfl rfl ?_) ?_) | (refine QX.k 4 ?_; first | refine QX.one rfl (One.remM hA rfl rfl rfl ?_) ?_) | (refine QX.k 5 ?_; first | refine QX.one rfl (One.shrM hA rfl rfl rfl ?_) ?_) | (refine QX.k 6 ?_; first | refine QX.one rfl (One.bitsM hA rfl rfl rfl rfl) ?_) | (refine QX.k 7 ?_; first | refine QX.one rfl (One.concatM hA rfl rfl rfl ?_) ?_) | (refine QX.k 8 ?_; first | refine QX.one rfl (One.eqBoolM hA tabOk rfl rfl rfl rfl rfl) ?_) | (refine QX.k 9 ?_; first | refine QX.one rfl (One.neBoolM hA tabOk rfl rfl rfl rfl rfl) ?_) | (refine QX.k 10 ?_; first | refine QX.one rfl (One.lenOwnM hA tabOk rfl rfl rfl rfl) ?_) | (refine QX.k 11 ?_; first | refine QX.one rfl (One.appendM hA tabOk _ rfl rfl rfl rfl rfl rfl ?_ ?_) ?_ | refine QX.one rfl (One.appendMM hA tabOk rfl rfl rfl rfl rfl ?_ ?_) ?_ | refine QX.one rfl (One.appendOwnM hA tabOk _ rfl rfl rfl rfl rfl rfl rfl ?_ ?_) ?_ | refine QX.one rfl (One.appendOwnMM hA tabOk rfl rfl rfl rfl rfl rfl ?_ ?_) ?_ | refine QX.one rfl (One.appendOwn0 hA tabOk rfl rfl rfl rfl rfl rfl ?_ ?_) ?_) | (refine QX.k 13 ?_; first | refine QX.one rfl (One.byteM hA tabOk rfl rfl rfl rfl rfl ?_ ?_) ?_) | (refine QX.k 14 ?_; first | refine QX.one rfl (One.loadRatM hA tabOk rfl rfl rfl rfl rfl rfl ?_) ?_) | (refine QX.k 15 ?_; first | refine QX.one rfl (One.storeRatM hA tabOk _ rfl rfl rfl rfl rfl rfl rfl rfl (fun _ => rfl) ?_) ?_) | (refine QX.k 16 ?_; first | refine QX.one rfl (One.makeM hA tabOk encI 0 rfl rfl rfl rfl rfl rfl rfl ?_ ?_ ?_) ?_) | (refine QX.k 17 ?_; first | refine QX.one rfl (One.build0 tabOk rfl rfl) ?_) | (refine QX.k 18 ?_; first | refine QX.one rfl (One.fieldRat tabOk rfl rfl rfl rfl (by decide) rfl rfl) ?_)) <;> (first | refine QSg.pass ?_ | (((try simp only [zn]) <;> (try simp (disch := omega) only [zz hA, zb, zy, reduceCtorEq, Bool.false_eq_true, Int.reduceLT, Int.reduceLE, Int.reduceNeg]) <;> (try simp only [zw])) <;> omega)))
        | refine QX.raw ?_)
    | refine Thn.exit ?_
    | refine Blk.here ?_
    | refine Blk.other (by decide) ?_
    | refine ⟨.inl rfl, _, RetOk.ev tabOk (by conv => lhs; cbv), ?_⟩
    | fail)
  refine AWp.loopU (fun k : Nat => [(5, .ic (.lit (.int .i64 (hid A (cN k)))))]) (fun _ => [.var true 25 [.ic (.sl 1 false (hid A (List.map encI c.V))), .ic (.sl 2 false (hid A (List.map encN c.N))), .ic (.sl 1 false (hid A (List.map encI c.M)))]]) (fun k => c.V.length - k) (fun k => k ≤ c.V.length ∧ ∀ n, n < k → okU c.V ranks n = true) 0 (by conv => lhs; cbv) ⟨Nat.zero_le _, by simp⟩ (by (repeat' (first | exact subE.nil | refine subE.cons rfl ?_ | refine subE.int rfl ?_ ?_ | refine subE.bool rfl ?_ ?_ | refine subE.str rfl ?_ ?_ | refine subE.sl rfl ?_ ?_)) <;> simp [hA, real, hid, cN]) rfl ?_
  rintro k ⟨hk, hok⟩
  try first | refine AOLg.of [] ?_ | refine QSg.of [] ?_
  repeat' (first
    | (refine AWp.pass ?_; first
        | refine AWp.seq ?_
        | refine AWp.block ?_
        | refine AWp.skip ?_
        | refine AWp.regG [] (by conv => lhs; cbv) ?_
        | refine AWp.cond_t rfl ?_
        | refine AWp.cond_f rfl ?_
        | (refine AWp.cond rfl ?_ ?_ <;> intro hc <;> (try rw [hc]) <;> ((try simp only [zn] at hc) <;> (try simp (disch := omega) only [zz hA, zb, zy, reduceCtorEq, Bool.false_eq_true, Int.reduceLT, Int.reduceLE, Int.reduceNeg] at hc) <;> (try simp only [zw] at hc)) <;> (try (exfalso; omega)))
        | refine AWp.exit ?_
        | refine AWp.ret ⟨.inr rfl, _, RetOk.ev tabOk (by conv => lhs; cbv), ?_⟩
        | refine AWp.drawKG [] 0 rfl (by decide +kernel) (by conv => lhs; cbv) (by conv => lhs; cbv) ?_
        | refine AWp.drawKG [] 1 rfl (by decide +kernel) (by conv => lhs; cbv) (by conv => lhs; cbv) ?_
        | refine AWp.drawKG [] 2 rfl (by decide +kernel) (by conv => lhs; cbv) (by conv => lhs; cbv) ?_
        | refine AWp.drawKG [] 3 rfl (by decide +kernel) (by conv => lhs; cbv) (by conv => lhs; cbv) ?_
        | refine AWp.drawKG [] 4 rfl (by decide +kernel) (by conv => lhs; cbv) (by conv => lhs; cbv) ?_
        | refine AWp.drawKG [] 5 rfl (by decide +kernel) (by conv => lhs; cbv) (by conv => lhs; cbv) ?_
        | refine AWp.drawKG [] 6 rfl (by decide +kernel) (by conv => lhs; cbv) (by conv => lhs; cbv) ?_
        | refine AWp.drawKG [] 8 rfl (by decide +kernel) (by conv => lhs; cbv) (by conv => lhs; cbv) ?_)
    | (refine AOLg.pass ?_; refine AOLg.nx hA tabOk (by conv => lhs; cbv) ?_; first
        | refine NX.done ?_
        | refine NX.gt ?_
        | refine NX.gf ?_
        | (refine NX.gs ?_ ?_ <;> intro hc <;> rw [hc] <;> ((try simp only [zn] at hc) <;> (try simp (disch := omega) only [zz hA, zb, zy, reduceCtorEq, Bool.false_eq_true, Int.reduceLT, Int.reduceLE, Int.reduceNeg] at hc) <;> (try simp only [zw] at hc)) <;> (try (exfalso; omega)))
        | (refine NX.kC ?_; first | (with_reducible refine NX.call (refLess_c hA ranks _ _ hr) ?_) | (with_reducible refine NX.call (hrr) ?_) | ((first | refine NX.call (refLess_c hA ranks _ _ hr) ?_ | refine NX.call (hrr) ?_)) | fail)
        | (refine NX.kO ?_; (first | refine NX.callO (refLess_c hA ranks _ _ hr) (by simp [allEq]) rfl ?_ | refine NX.callO (hrr) (by simp [allEq]) rfl ?_))
        | ((first | (refine NX.k 1 ?_; first | refine NX.one (One.elemM hA tabOk rfl rfl rfl rfl ?_ ?_) ?_ | refine NX.one (One.elemOwnM hA tabOk rfl rfl rfl rfl rfl ?_ ?_) ?_) | (refine NX.k 2 ?_; first | refine NX.one (One.clipM tabOk rfl rfl rfl rfl rfl ?_ ?_) ?_ | refine NX.one (One.cut_hM hA tabOk rfl rfl rfl rfl ?_ ?_) ?_ | refine NX.one (One.cut_lM hA tabOk rfl rfl rfl rfl ?_ ?_) ?_ | refine NX.one (One.cut_lhM hA tabOk rfl rfl rfl rfl rfl ?_ ?_ ?_) ?_) | (refine NX.k 3 ?_; first | refine NX.one (One.quoM hA rfl rfl rfl ?_) ?_) | (refine NX.k 4 ?_; first | refine NX.one (One.remM hA rfl rfl rfl ?_) ?_) | (refine NX.k 5 ?_; first | refine NX.one (One.shrM hA rfl rfl rfl ?_) ?_) | (refine NX.k 6 ?_; first | refine NX.one (One.bitsM hA rfl rfl rfl rfl) ?_) | (refine NX.k 7 ?_; first | refine NX.one (One.concatM hA rfl rfl rfl ?_) ?_) | (refine NX.k 8 ?_; first | refine NX.one (One.eqBoolM hA tabOk rfl rfl rfl rfl rfl) ?_) | (refine NX.k 9 ?_; first | refine NX.one (One.neBoolM hA tabOk rfl rfl rfl rfl rfl) ?_) | (refine NX.k 10 ?_; first | refine NX.one (One.lenOwnM hA tabOk rfl rfl rfl rfl) ?_) | (refine NX.k 11 ?_; first | refine NX.one (One.appendM hA tabOk _ rfl rfl rfl rfl rfl rfl ?_ ?_) ?_ | refine NX.one (One.appendMM hA tabOk rfl rfl rfl rfl rfl ?_ ?_) ?_ | refine NX.one (One.appendOwnM hA tabOk _ rfl rfl rfl rfl rfl rfl rfl ?_ ?_) ?_ | refine NX.one (One.appendOwnMM hA tabOk rfl rfl rfl rfl rfl rfl ?_ ?_) ?_ | refine NX.one (One.appendOwn0 hA tabOk rfl rfl rfl rfl rfl rfl ?_ ?_) ?_) | (refine NX.k 13 ?_; first | refine NX.one (One.byteM hA tabOk rfl rfl rfl rfl rfl ?_ ?_) ?_) | (refine NX.k 14 ?_; first | refine NX.one (One.loadRatM hA tabOk rfl rfl rfl rfl rfl rfl ?_) ?_) | (refine NX.k 15 ?_; first | refine NX.one (One.storeRatM hA tabOk _ rfl rfl rfl rfl rfl rfl rfl rfl (fun _ => rfl) ?_) ?_) | (refine NX.k 16 ?_; first | refine NX.one (One.makeM hA tabOk encI 0 rfl rfl rfl rfl rfl rfl rfl ?_ ?_ ?_) ?_) | (refine NX.k 17 ?_; first | refine NX.one (One.build0 tabOk rfl rfl) ?_) | (refine NX.k 18 ?_; first | refine NX.one (One.fieldRat tabOk rfl rfl rfl rfl (by decide) rfl rfl) ?_)) <;> (first | refine AOLg.pass ?_ | (((try simp only [zn]) <;> (try simp (disch := omega) only [zz hA, zb, zy, reduceCtorEq, Bool.false_eq_true, Int.reduceLT, Int.reduceLE, Int.reduceNeg]) <;> (try simp only [zw])) <;> omega)))
        | refine NX.raw ?_)
    | (refine QSg.pass ?_; refine QSg.nx hA tabOk (by conv => lhs; cbv) ?_; first
        | refine QX.done ?_
        | refine QX.gt ?_
        | refine QX.gf ?_
        | (refine QX.gs ?_ ?_ <;> intro hc <;> rw [hc] <;> ((try simp only [zn] at hc) <;> (try simp (disch := omega) only [zz hA, zb, zy, reduceCtorEq, Bool.false_eq_true, Int.reduceLT, Int.reduceLE, Int.reduceNeg] at hc) <;> (try simp only [zw] at hc)) <;> (try (exfalso; omega)))
        | (refine QX.kC ?_; first | (with_reducible refine QX.call (refLess_c hA ranks _ _ hr) rfl ?_) | (with_reducible refine QX.call (hrr) rfl ?_) | ((first | refine QX.call (refLess_c hA ranks _ _ hr) rfl ?_ | refine QX.call (hrr) rfl ?_)) | fail)
        | (refine QX.kO ?_; (first | refine QX.callO (refLess_c hA ranks _ _ hr) rfl (by simp [allEq]) rfl ?_ | refine QX.callO (hrr) rfl (by simp [allEq]) rfl ?_))
        | ((first | (refine QX.k 1 ?_; first | refine QX.one rfl (One.elemM hA tabOk rfl rfl rfl rfl ?_ ?_) ?_ | refine QX.one rfl (One.elemOwnM hA tabOk rfl rfl rfl rfl rfl ?_ ?_) ?_) | (refine QX.k 2 ?_; first | refine QX.one rfl (One.clipM tabOk rfl rfl rfl rfl rfl ?_ ?_) ?_ | refine QX.one rfl (One.cut_hM hA tabOk rfl rfl rfl rfl ?_ ?_) ?_ | refine QX.one rfl (One.cut_lM hA tabOk rfl rfl rfl rfl ?_ ?_) ?_ | refine QX.one rfl (One.cut_lhM hA tabOk rfl rfl rfl rfl rfl ?_ ?_ ?_) ?_) | (refine QX.k 3 ?_; first | refine QX.one rfl (One.quoM hA rfl rfl rfl ?_) ?_) | (refine QX.k 4 ?_; first | refine QX.one rfl (One.remM hA rfl rfl rfl ?_) ?_) | (refine QX.k 5 ?_; first | refine QX.one rfl (One.shrM hA rfl rfl rfl ?_) ?_) | (refine QX.k 6 ?_; first | refine QX.one rfl (One.bitsM hA rfl rfl rfl rfl) ?_) | (refine QX.k 7 ?_; first | refine QX.one rfl (One.concatM hA rfl rfl rfl ?_) ?_) | (refine QX.k 8 ?_; first | refine QX.one rfl (One.eqBoolM hA tabOk rfl rfl rfl rfl rfl) ?_) | (refine QX.k 9 ?_; first | refine QX.one rfl (One.neBoolM hA tabOk rfl rfl rfl rfl rfl) ?_) | (refine QX.k 10 ?_; first | refine QX.one rfl (One.lenOwnM hA tabOk rfl rfl rfl rfl) ?_) | (refine QX.k 11 ?_; first | refine QX.one rfl (One.appendM hA tabOk _ rfl rfl rfl rfl rfl rfl ?_ ?_) ?_ | refine QX.one rfl (One.appendMM hA tabOk rfl rfl rfl rfl rfl ?_ ?_) ?_ | refine QX.one rfl (One.appendOwnM hA tabOk _ rfl rfl rfl rfl rfl rfl rfl ?_ ?_) ?_ | refine QX.one rfl (One.appendOwnMM hA tabOk rfl rfl rfl rfl rfl rfl ?_ ?_) ?_ | refine QX.one rfl (One.appendOwn0 hA tabOk rfl rfl rfl rfl rfl rfl ?_ ?_) ?_) | (refine QX.k 13 ?_; first | refine QX.one rfl (One.byteM hA tabOk rfl rfl rfl rfl rfl ?_ ?_) ?_) | (refine QX.k 14 ?_; first | refine QX.one rfl (One.loadRatM hA tabOk rfl rfl rfl rfl rfl rfl ?_) ?_) | (refine QX.k 15 ?_; first | refine QX.one rfl (One.storeRatM hA tabOk _ rfl rfl rfl rfl rfl rfl rfl rfl (fun _ => rfl) ?_) ?_) | (refine QX.k 16 ?_; first | refine QX.one rfl (One.makeM hA tabOk encI 0 rfl rfl rfl rfl rfl rfl rfl ?_ ?_ ?_) ?_) | (refine QX.k 17 ?_; first | refine QX.one rfl (One.build0 tabOk rfl rfl) ?_) | (refine QX.k 18 ?_; first | refine QX.one rfl (One.fieldRat tabOk rfl rfl rfl rfl (by decide) rfl rfl) ?_)) <;> (first | refine QSg.pass ?_ | (((try simp only [zn]) <;> (try simp (disch := omega) only [zz hA, zb, zy, reduceCtorEq, Bool.false_eq_true, Int.reduceLT, Int.reduceLE, Int.reduceNeg]) <;> (try simp only [zw])) <;> omega)))
        | refine QX.raw ?_)
    | refine Thn.exit ?_
    | refine Blk.here ?_
    | refine Blk.other (by decide) ?_
    | refine ⟨.inl rfl, _, RetOk.ev tabOk (by conv => lhs; cbv), ?_⟩
    | fail)
  · refine ⟨k + 1, ?_, ?_, rfl, rfl, ?_, (by repeat' (first | exact subE.nil | refine subE.cons rfl ?_))⟩ <;> (try omega)
    repeat' (first | exact subE.nil | refine subE.cons rfl ?_ | refine subE.int rfl ?_ ?_ | refine subE.bool rfl ?_ ?_ | refine subE.str rfl ?_ ?_ | refine subE.sl rfl ?_ ?_)
    · refine ⟨by omega, fun n hn => ?_⟩
      rcases Nat.lt_or_ge n k with h | h
      · exact hok n h
      · obtain rfl : n = k := by omega
        simp [okU]
        left
        assumption
    · (((try simp only [zn]) <;> (try simp (disch := omega) only [zz hA, zb, zy, reduceCtorEq, Bool.false_eq_true, Int.reduceLT, Int.reduceLE, Int.reduceNeg]) <;> (try simp only [zw])) <;> omega)
  · rw [rightB_false (n := k) (by omega) (by rw [okU, decide_eq_false (by assumption), decide_eq_false (by omega)]; rfl)]
    refine rPV_then (by conv => lhs; cbv) ?_
    simp [hA, real, hid]
  · rw [rightB_false (n := k) (by omega) (by rw [okU, decide_eq_false (by assumption), decide_eq_false (p := c.V.getD k default < c.V.length) (by omega)]; simp)]
    refine rPV_then (by conv => lhs; cbv) ?_
    simp [hA, real, hid]
  · rename_i h1 h2 h3 h4
    rw [rightB_false (n := k) (by omega) (by rw [okU, decide_eq_false h2, hc]; simp)]
    refine rPV_then (by conv => lhs; cbv) ?_
    simp [hA, real, hid]
  · rename_i h1 h2 h3 h4
    refine ⟨k + 1, ?_, ?_, rfl, rfl, ?_, (by repeat' (first | exact subE.nil | refine subE.cons rfl ?_))⟩ <;> (try omega)
    repeat' (first | exact subE.nil | refine subE.cons rfl ?_ | refine subE.int rfl ?_ ?_ | refine subE.bool rfl ?_ ?_ | refine subE.str rfl ?_ ?_ | refine subE.sl rfl ?_ ?_)
    · refine ⟨by omega, fun n hn => ?_⟩
      rcases Nat.lt_or_ge n k with h | h
      · exact hok n h
      · obtain rfl : n = k := by omega
        rw [okU, decide_eq_true (p := 0 ≤ c.V.getD n default) (by omega), decide_eq_true (p := c.V.getD n default < c.V.length) (by omega)]
        simp
        exact .inr (by assumption)
    · (((try simp only [zn]) <;> (try simp (disch := omega) only [zz hA, zb, zy, reduceCtorEq, Bool.false_eq_true, Int.reduceLT, Int.reduceLE, Int.reduceNeg]) <;> (try simp only [zw])) <;> omega)
  · rw [rightB_all fun n hn => hok n (by omega)]
    refine rPV_then (by conv => lhs; cbv) ?_
    simp [hA, real, hid]
theorem ordered_1 (p0 : AObj) (ranks : List Int) : ACalls Try.prog 42 [.ic (.sl 1 false (hid A (List.map encI ranks)))] [p0]
    (fun x s' => x = .fn (.func 50) [] [.ptr 2 0] ∧ s' = [p0, .var true 22 [.ic (.sl 1 false (hid A (List.map encI ranks)))], .var true 83 [.fn (.func 49) [] [.ptr 1 0]]]) := by
  refine ACalls.of Try.func42 rfl (by kernel_rfl) rfl ?_
  try first | refine AOLg.of [] ?_ | refine QSg.of [] ?_
  repeat' (first
    | (refine AWp.pass ?_; first
        | refine AWp.seq ?_
        | refine AWp.block ?_
        | refine AWp.skip ?_
        | refine AWp.regG [] (by conv => lhs; cbv) ?_
        | refine AWp.cond_t rfl ?_
        | refine AWp.cond_f rfl ?_
        | (refine AWp.cond rfl ?_ ?_ <;> intro hc <;> (try rw [hc]) <;> ((try simp only [zn] at hc) <;> (try simp (disch := omega) only [zz hA, zb, zy, reduceCtorEq, Bool.false_eq_true, Int.reduceLT, Int.reduceLE, Int.reduceNeg] at hc) <;> (try simp only [zw] at hc)) <;> (try (exfalso; omega)))
        | refine AWp.exit ?_
        | refine AWp.ret ⟨.inr rfl, _, RetOk.ev tabOk (by conv => lhs; cbv), ?_⟩
        | refine AWp.drawKG [] 0 rfl (by decide +kernel) (by conv => lhs; cbv) (by conv => lhs; cbv) ?_
        | refine AWp.drawKG [] 1 rfl (by decide +kernel) (by conv => lhs; cbv) (by conv => lhs; cbv) ?_
        | refine AWp.drawKG [] 2 rfl (by decide +kernel) (by conv => lhs; cbv) (by conv => lhs; cbv) ?_
        | refine AWp.drawKG [] 3 rfl (by decide +kernel) (by conv => lhs; cbv) (by conv => lhs; cbv) ?_
        | refine AWp.drawKG [] 4 rfl (by decide +kernel) (by conv => lhs; cbv) (by conv => lhs; cbv) ?_
        | refine AWp.drawKG [] 5 rfl (by decide +kernel) (by conv => lhs; cbv) (by conv => lhs; cbv) ?_
        | refine AWp.drawKG [] 6 rfl (by decide +kernel) (by conv => lhs; cbv) (by conv => lhs; cbv) ?_
        | refine AWp.drawKG [] 8 rfl (by decide +kernel) (by conv => lhs; cbv) (by conv => lhs; cbv) ?_)
    | (refine AOLg.pass ?_; refine AOLg.nx hA tabOk (by conv => lhs; cbv) ?_; first
        | refine NX.done ?_
        | refine NX.gt ?_
        | refine NX.gf ?_
        | (refine NX.gs ?_ ?_ <;> intro hc <;> rw [hc] <;> ((try simp only [zn] at hc) <;> (try simp (disch := omega) only [zz hA, zb, zy, reduceCtorEq, Bool.false_eq_true, Int.reduceLT, Int.reduceLE, Int.reduceNeg] at hc) <;> (try simp only [zw] at hc)) <;> (try (exfalso; omega)))
        | ((first | (refine NX.k 1 ?_; first | refine NX.one (One.elemM hA tabOk rfl rfl rfl rfl ?_ ?_) ?_ | refine NX.one (One.elemOwnM hA tabOk rfl rfl rfl rfl rfl ?_ ?_) ?_) | (refine NX.k 2 ?_; first | refine NX.one (One.clipM tabOk rfl rfl rfl rfl rfl ?_ ?_) ?_ | refine NX.one (One.cut_hM hA tabOk rfl rfl rfl rfl ?_ ?_) ?_ | refine NX.one (One.cut_lM hA tabOk rfl rfl rfl rfl ?_ ?_) ?_ | refine NX.one (One.cut_lhM hA tabOk rfl rfl rfl rfl rfl ?_ ?_ ?_) ?_) | (refine NX.k 3 ?_; first | refine NX.one (One.quoM hA rfl rfl rfl ?_) ?_) | (refine NX.k 4 ?_; first | refine NX.one (One.remM hA rfl rfl rfl ?_) ?_) | (refine NX.k 5 ?_; first | refine NX.one (One.shrM hA rfl rfl rfl ?_) ?_) | (refine NX.k 6 ?_; first | refine NX.one (One.bitsM hA rfl rfl rfl rfl) ?_) | (refine NX.k 7 ?_; first | refine NX.one (One.concatM hA rfl rfl rfl ?_) ?_) | (refine NX.k 8 ?_; first | refine NX.one (One.eqBoolM hA tabOk rfl rfl rfl rfl rfl) ?_) | (refine NX.k 9 ?_; first | refine NX.one (One.neBoolM hA tabOk rfl rfl rfl rfl rfl) ?_) | (refine NX.k 10 ?_; first | refine NX.one (One.lenOwnM hA tabOk rfl rfl rfl rfl) ?_) | (refine NX.k 11 ?_; first | refine NX.one (One.appendM hA tabOk _ rfl rfl rfl rfl rfl rfl ?_ ?_) ?_ | refine NX.one (One.appendMM hA tabOk rfl rfl rfl rfl rfl ?_ ?_) ?_ | refine NX.one (One.appendOwnM hA tabOk _ rfl rfl rfl rfl rfl rfl rfl ?_ ?_) ?_ | refine NX.one (One.appendOwnMM hA tabOk rfl rfl rfl rfl rfl rfl ?_ ?_) ?_ | refine NX.one (One.appendOwn0 hA tabOk rfl rfl rfl rfl rfl rfl ?_ ?_) ?_) | (refine NX.k 13 ?_; first | refine NX.one (One.byteM hA tabOk rfl rfl rfl rfl rfl ?_ ?_) ?_) | (refine NX.k 14 ?_; first | refine NX.one (One.loadRatM hA tabOk rfl rfl rfl rfl rfl rfl ?_) ?_) | (refine NX.k 15 ?_; first | refine NX.one (One.storeRatM hA tabOk _ rfl rfl rfl rfl rfl rfl rfl rfl (fun _ => rfl) ?_) ?_) | (refine NX.k 16 ?_; first | refine NX.one (One.makeM hA tabOk encI 0 rfl rfl rfl rfl rfl rfl rfl ?_ ?_ ?_) ?_) | (refine NX.k 17 ?_; first | refine NX.one (One.build0 tabOk rfl rfl) ?_) | (refine NX.k 18 ?_; first | refine NX.one (One.fieldRat tabOk rfl rfl rfl rfl (by decide) rfl rfl) ?_)) <;> (first | refine AOLg.pass ?_ | (((try simp only [zn]) <;> (try simp (disch := omega) only [zz hA, zb, zy, reduceCtorEq, Bool.false_eq_true, Int.reduceLT, Int.reduceLE, Int.reduceNeg]) <;> (try simp only [zw])) <;> omega)))
        | refine NX.raw ?_)
    | (refine QSg.pass ?_; refine QSg.nx hA tabOk (by conv => lhs; cbv) ?_; first
        | refine QX.done ?_
        | refine QX.gt ?_
        | refine QX.gf ?_
        | (refine QX.gs ?_ ?_ <;> intro hc <;> rw [hc] <;> ((try simp only [zn] at hc) <;> (try simp (disch := omega) only [zz hA, zb, zy, reduceCtorEq, Bool.false_eq_true, Int.reduceLT, Int.reduceLE, Int.reduceNeg] at hc) <;> (try simp only [zw] at hc)) <;> (try (exfalso; omega)))
        | ((first | (refine QX.k 1 ?_; first | refine QX.one rfl (One.elemM hA tabOk rfl rfl rfl rfl ?_ ?_) ?_ | refine QX.one rfl (One.elemOwnM hA tabOk rfl rfl rfl rfl rfl ?_ ?_) ?_) | (refine QX.k 2 ?_; first | refine QX.one rfl (One.clipM tabOk rfl rfl rfl rfl rfl ?_ ?_) ?_ | refine QX.one rfl (One.cut_hM hA tabOk rfl rfl rfl rfl ?_ ?_) ?_ | refine QX.one rfl (One.cut_lM hA tabOk rfl rfl rfl rfl ?_ ?_) ?_ | refine QX.one rfl (One.cut_lhM hA tabOk rfl rfl rfl rfl rfl ?_ ?_ ?_) ?_) | (refine QX.k 3 ?_; first | refine QX.one rfl (One.quoM hA rfl rfl rfl ?_) ?_) | (refine QX.k 4 ?_; first | refine QX.one rfl (One.remM hA rfl rfl rfl ?_) ?_) | (refine QX.k 5 ?_; first | refine QX.one rfl (One.shrM hA rfl rfl rfl ?_) ?_) | (refine QX.k 6 ?_; first | refine QX.one rfl (One.bitsM hA rfl rfl rfl rfl) ?_) | (refine QX.k 7 ?_; first | refine QX.one rfl (One.concatM hA rfl rfl rfl ?_) ?_) | (refine QX.k 8 ?_; first | refine QX.one rfl (One.eqBoolM hA tabOk rfl rfl rfl rfl rfl) ?_) | (refine QX.k 9 ?_; first | refine QX.one rfl (One.neBoolM hA tabOk rfl rfl rfl rfl rfl) ?_) | (refine QX.k 10 ?_; first | refine QX.one rfl (One.lenOwnM hA tabOk rfl rfl rfl rfl) ?_) | (refine QX.k 11 ?_; first | refine QX.one rfl (One.appendM hA tabOk _ rfl rfl rfl rfl rfl rfl ?_ ?_) ?_ | refine QX.one rfl (One.appendMM hA tabOk rfl rfl rfl rfl rfl ?_ ?_) ?_ | refine QX.one rfl (One.appendOwnM hA tabOk _ rfl rfl rfl rfl rfl rfl rfl ?_ ?_) ?_ | refine QX.one rfl (One.appendOwnMM hA tabOk rfl rfl rfl rfl rfl rfl ?_ ?_) ?_ | refine QX.one rfl (One.appendOwn0 hA tabOk rfl rfl rfl rfl rfl rfl ?_ ?_) ?_) | (refine QX.k 13 ?_; first | refine QX.one rfl (One.byteM hA tabOk rfl rfl rfl rfl rfl ?_ ?_) ?_) | (refine QX.k 14 ?_; first | refine QX.one rfl (One.loadRatM hA tabOk rfl rfl rfl rfl rfl rfl ?_) ?_) | (refine QX.k 15 ?_; first | refine QX.one rfl (One.storeRatM hA tabOk _ rfl rfl rfl rfl rfl rfl rfl rfl (fun _ => rfl) ?_) ?_) | (refine QX.k 16 ?_; first | refine QX.one rfl (One.makeM hA tabOk encI 0 rfl rfl rfl rfl rfl rfl rfl ?_ ?_ ?_) ?_) | (refine QX.k 17 ?_; first | refine QX.one rfl (One.build0 tabOk rfl rfl) ?_) | (refine QX.k 18 ?_; first | refine QX.one rfl (One.fieldRat tabOk rfl rfl rfl rfl (by decide) rfl rfl) ?_)) <;> (first | refine QSg.pass ?_ | (((try simp only [zn]) <;> (try simp (disch := omega) only [zz hA, zb, zy, reduceCtorEq, Bool.false_eq_true, Int.reduceLT, Int.reduceLE, Int.reduceNeg]) <;> (try simp only [zw])) <;> omega)))
        | refine QX.raw ?_)
    | refine Thn.exit ?_
    | refine Blk.here ?_
    | refine Blk.other (by decide) ?_
    | refine ⟨.inl rfl, _, RetOk.ev tabOk (by conv => lhs; cbv), ?_⟩
    | fail)
  exact ⟨rfl, rfl⟩
theorem uright_c (c : Cl) (hc : c.small) (ranks : List Int) (hr : ranks.length ≤ 1000000) : PureCalls Try.prog 40 [clP A c.V c.N c.M, intsP A ranks] (BP (hid A (rightB c.V ranks && c.right))) := by
  have hrr : PureCalls Try.prog 33 [clP A c.V c.N c.M] (BP (hid A c.right)) := by rw [clP_eq hA c, hid_eq hA]; exact trailRight hA c hc
  have hv := hc.v
  refine PureCalls.of Try.func40 rfl (by kernel_rfl) rfl ?_
  try first | refine AOLg.of [] ?_ | refine QSg.of [] ?_
  repeat' (first
    | (refine AWp.pass ?_; first
        | refine AWp.seq ?_
        | refine AWp.block ?_
        | refine AWp.skip ?_
        | refine AWp.regG [] (by conv => lhs; cbv) ?_
        | refine AWp.cond_t rfl ?_
        | refine AWp.cond_f rfl ?_
        | (refine AWp.cond rfl ?_ ?_ <;> intro hc <;> (try rw [hc]) <;> ((try simp only [zn] at hc) <;> (try simp (disch := omega) only [zz hA, zb, zy, reduceCtorEq, Bool.false_eq_true, Int.reduceLT, Int.reduceLE, Int.reduceNeg] at hc) <;> (try simp only [zw] at hc)) <;> (try (exfalso; omega)))
        | refine AWp.exit ?_
        | refine AWp.ret ⟨.inr rfl, _, RetOk.ev tabOk (by conv => lhs; cbv), ?_⟩
        | refine AWp.drawKG [] 0 rfl (by decide +kernel) (by conv => lhs; cbv) (by conv => lhs; cbv) ?_
        | refine AWp.drawKG [] 1 rfl (by decide +kernel) (by conv => lhs; cbv) (by conv => lhs; cbv) ?_
        | refine AWp.drawKG [] 2 rfl (by decide +kernel) (by conv => lhs; cbv) (by conv => lhs; cbv) ?_
        | refine AWp.drawKG [] 3 rfl (by decide +kernel) (by conv => lhs; cbv) (by conv => lhs; cbv) ?_
        | refine AWp.drawKG [] 4 rfl (by decide +kernel) (by conv => lhs; cbv) (by conv => lhs; cbv) ?_
        | refine AWp.drawKG [] 5 rfl (by decide +kernel) (by conv => lhs; cbv) (by conv => lhs; cbv) ?_
        | refine AWp.drawKG [] 6 rfl (by decide +kernel) (by conv => lhs; cbv) (by conv => lhs; cbv) ?_
        | refine AWp.drawKG [] 8 rfl (by decide +kernel) (by conv => lhs; cbv) (by conv => lhs; cbv) ?_)
    | (refine AOLg.pass ?_; refine AOLg.nx hA tabOk (by conv => lhs; cbv) ?_; first
        | refine NX.done ?_
        | refine NX.gt ?_
        | refine NX.gf ?_
        | (refine NX.gs ?_ ?_ <;> intro hc <;> rw [hc] <;> ((try simp only [zn] at hc) <;> (try simp (disch := omega) only [zz hA, zb, zy, reduceCtorEq, Bool.false_eq_true, Int.reduceLT, Int.reduceLE, Int.reduceNeg] at hc) <;> (try simp only [zw] at hc)) <;> (try (exfalso; omega)))
        | ((first | (refine NX.k 1 ?_; first | refine NX.one (One.elemM hA tabOk rfl rfl rfl rfl ?_ ?_) ?_ | refine NX.one (One.elemOwnM hA tabOk rfl rfl rfl rfl rfl ?_ ?_) ?_) | (refine NX.k 2 ?_; first | refine NX.one (One.clipM tabOk rfl rfl rfl rfl rfl ?_ ?_) ?_ | refine NX.one (One.cut_hM hA tabOk rfl rfl rfl rfl ?_ ?_) ?_ | refine NX.one (One.cut_lM hA tabOk rfl rfl rfl rfl ?_ ?_) ?_ | refine NX.one (One.cut_lhM hA tabOk rfl rfl rfl rfl rfl ?_ ?_ ?_) ?_) | (refine NX.k 3 ?_; first | refine NX.one (One.quoM hA rfl rfl rfl ?_) ?_) | (refine NX.k 4 ?_; first | refine NX.one (One.remM hA rfl rfl rfl ?_) ?_) | (refine NX.k 5 ?_; first | refine NX.one (One.shrM hA rfl rfl rfl ?_) ?_) | (refine NX.k 6 ?_; first | refine NX.one (One.bitsM hA rfl rfl rfl rfl) ?_) | (refine NX.k 7 ?_; first | refine NX.one (One.concatM hA rfl rfl rfl ?_) ?_) | (refine NX.k 8 ?_; first | refine NX.one (One.eqBoolM hA tabOk rfl rfl rfl rfl rfl) ?_) | (refine NX.k 9 ?_; first | refine NX.one (One.neBoolM hA tabOk rfl rfl rfl rfl rfl) ?_) | (refine NX.k 10 ?_; first | refine NX.one (One.lenOwnM hA tabOk rfl rfl rfl rfl) ?_) | (refine NX.k 11 ?_; first | refine NX.one (One.appendM hA tabOk _ rfl rfl rfl rfl rfl rfl ?_ ?_) ?_ | refine NX.one (One.appendMM hA tabOk rfl rfl rfl rfl rfl ?_ ?_) ?_ | refine NX.one (One.appendOwnM hA tabOk _ rfl rfl rfl rfl rfl rfl rfl ?_ ?_) ?_ | refine NX.one (One.appendOwnMM hA tabOk rfl rfl rfl rfl rfl rfl ?_ ?_) ?_ | refine NX.one (One.appendOwn0 hA tabOk rfl rfl rfl rfl rfl rfl ?_ ?_) ?_) | (refine NX.k 13 ?_; first | refine NX.one (One.byteM hA tabOk rfl rfl rfl rfl rfl ?_ ?_) ?_) | (refine NX.k 14 ?_; first | refine NX.one (One.loadRatM hA tabOk rfl rfl rfl rfl rfl rfl ?_) ?_) | (refine NX.k 15 ?_; first | refine NX.one (One.storeRatM hA tabOk _ rfl rfl rfl rfl rfl rfl rfl rfl (fun _ => rfl) ?_) ?_) | (refine NX.k 16 ?_; first | refine NX.one (One.makeM hA tabOk encI 0 rfl rfl rfl rfl rfl rfl rfl ?_ ?_ ?_) ?_) | (refine NX.k 17 ?_; first | refine NX.one (One.build0 tabOk rfl rfl) ?_) | (refine NX.k 18 ?_; first | refine NX.one (One.fieldRat tabOk rfl rfl rfl rfl (by decide) rfl rfl) ?_)) <;> (first | refine AOLg.pass ?_ | (((try simp only [zn]) <;> (try simp (disch := omega) only [zz hA, zb, zy, reduceCtorEq, Bool.false_eq_true, Int.reduceLT, Int.reduceLE, Int.reduceNeg]) <;> (try simp only [zw])) <;> omega)))
        | refine NX.raw ?_)
    | (refine QSg.pass ?_; refine QSg.nx hA tabOk (by conv => lhs; cbv) ?_; first
        | refine QX.done ?_
        | refine QX.gt ?_
        | refine QX.gf ?_
        | (refine QX.gs ?_ ?_ <;> intro hc <;> rw [hc] <;> ((try simp only [zn] at hc) <;> (try simp (disch := omega) only [zz hA, zb, zy, reduceCtorEq, Bool.false_eq_true, Int.reduceLT, Int.reduceLE, Int.reduceNeg] at hc) <;> (try simp only [zw] at hc)) <;> (try (exfalso; omega)))
        | ((first | (refine QX.k 1 ?_; first | refine QX.one rfl (One.elemM hA tabOk rfl rfl rfl rfl ?_ ?_) ?_ | refine QX.one rfl (One.elemOwnM hA tabOk rfl rfl rfl rfl rfl ?_ ?_) ?_) | (refine QX.k 2 ?_; first | refine QX.one rfl (One.clipM tabOk rfl rfl rfl rfl rfl ?_ ?_) ?_ | refine QX.one rfl (One.cut_hM hA tabOk rfl rfl rfl rfl ?_ ?_) ?_ | refine QX.one rfl (One.cut_lM hA tabOk rfl rfl rfl rfl ?_ ?_) ?_ | refine QX.one rfl (One.cut_lhM hA tabOk rfl rfl rfl rfl rfl ?_ ?_ ?_) ?_) | (refine QX.k 3 ?_; first | refine QX.one rfl (One.quoM hA rfl rfl rfl ?_) ?_) | (refine QX.k 4 ?_; first | refine QX.one rfl (One.remM hA rfl rfl rfl ?_) ?_) | (refine QX.k 5 ?_; first | refine QX.one rfl (One.shrM hA rfl rfl rfl ?_) ?_) | (refine QX.k 6 ?_; first | refine QX.one rfl (One.bitsM hA rfl rfl rfl rfl) ?_) | (refine QX.k 7 ?_; first | refine QX.one rfl (One.concatM hA rfl rfl rfl ?_) ?_) | (refine QX.k 8 ?_; first | refine QX.one rfl (One.eqBoolM hA tabOk rfl rfl rfl rfl rfl) ?_) | (refine QX.k 9 ?_; first | refine QX.one rfl (One.neBoolM hA tabOk rfl rfl rfl rfl rfl) ?_) | (refine QX.k 10 ?_; first | refine QX.one rfl (One.lenOwnM hA tabOk rfl rfl rfl rfl) ?_) | (refine QX.k 11 ?_; first | refine QX.one rfl (One.appendM hA tabOk _ rfl rfl rfl rfl rfl rfl ?_ ?_) ?_ | refine QX.one rfl (One.appendMM hA tabOk rfl rfl rfl rfl rfl ?_ ?_) ?_ | refine QX.one rfl (One.appendOwnM hA tabOk _ rfl rfl rfl rfl rfl rfl rfl ?_ ?_) ?_ | refine QX.one rfl (One.appendOwnMM hA tabOk rfl rfl rfl rfl rfl rfl ?_ ?_) ?_ | refine QX.one rfl (One.appendOwn0 hA tabOk rfl rfl rfl rfl rfl rfl ?_ ?_) ?_) | (refine QX.k 13 ?_; first | refine QX.one rfl (One.byteM hA tabOk rfl rfl rfl rfl rfl ?_ ?_) ?_) | (refine QX.k 14 ?_; first | refine QX.one rfl (One.loadRatM hA tabOk rfl rfl rfl rfl rfl rfl ?_) ?_) | (refine QX.k 15 ?_; first | refine QX.one rfl (One.storeRatM hA tabOk _ rfl rfl rfl rfl rfl rfl rfl rfl (fun _ => rfl) ?_) ?_) | (refine QX.k 16 ?_; first | refine QX.one rfl (One.makeM hA tabOk encI 0 rfl rfl rfl rfl rfl rfl rfl ?_ ?_ ?_) ?_) | (refine QX.k 17 ?_; first | refine QX.one rfl (One.build0 tabOk rfl rfl) ?_) | (refine QX.k 18 ?_; first | refine QX.one rfl (One.fieldRat tabOk rfl rfl rfl rfl (by decide) rfl rfl) ?_)) <;> (first | refine QSg.pass ?_ | (((try simp only [zn]) <;> (try simp (disch := omega) only [zz hA, zb, zy, reduceCtorEq, Bool.false_eq_true, Int.reduceLT, Int.reduceLE, Int.reduceNeg]) <;> (try simp only [zw])) <;> omega)))
        | refine QX.raw ?_)
    | refine Thn.exit ?_
    | refine Blk.here ?_
    | refine Blk.other (by decide) ?_
    | refine ⟨.inl rfl, _, RetOk.ev tabOk (by conv => lhs; cbv), ?_⟩
    | fail)
  refine AOL.scall rfl rfl (ordered_1 hA _ ranks) ?_
  rintro y st' ⟨rfl, rfl⟩
  refine AOL.norm (by conv => lhs; cbv) ?_
  try first | refine AOLg.of [] ?_ | refine QSg.of [] ?_
  repeat' (first
    | (refine AWp.pass ?_; first
        | refine AWp.seq ?_
        | refine AWp.block ?_
        | refine AWp.skip ?_
        | refine AWp.regG [] (by conv => lhs; cbv) ?_
        | refine AWp.cond_t rfl ?_
        | refine AWp.cond_f rfl ?_
        | (refine AWp.cond rfl ?_ ?_ <;> intro hc <;> (try rw [hc]) <;> ((try simp only [zn] at hc) <;> (try simp (disch := omega) only [zz hA, zb, zy, reduceCtorEq, Bool.false_eq_true, Int.reduceLT, Int.reduceLE, Int.reduceNeg] at hc) <;> (try simp only [zw] at hc)) <;> (try (exfalso; omega)))
        | refine AWp.exit ?_
        | refine AWp.ret ⟨.inr rfl, _, RetOk.ev tabOk (by conv => lhs; cbv), ?_⟩
        | refine AWp.drawKG [] 0 rfl (by decide +kernel) (by conv => lhs; cbv) (by conv => lhs; cbv) ?_
        | refine AWp.drawKG [] 1 rfl (by decide +kernel) (by conv => lhs; cbv) (by conv => lhs; cbv) ?_
        | refine AWp.drawKG [] 2 rfl (by decide +kernel) (by conv => lhs; cbv) (by conv => lhs; cbv) ?_
        | refine AWp.drawKG [] 3 rfl (by decide +kernel) (by conv => lhs; cbv) (by conv => lhs; cbv) ?_
        | refine AWp.drawKG [] 4 rfl (by decide +kernel) (by conv => lhs; cbv) (by conv => lhs; cbv) ?_
        | refine AWp.drawKG [] 5 rfl (by decide +kernel) (by conv => lhs; cbv) (by conv => lhs; cbv) ?_
        | refine AWp.drawKG [] 6 rfl (by decide +kernel) (by conv => lhs; cbv) (by conv => lhs; cbv) ?_
        | refine AWp.drawKG [] 8 rfl (by decide +kernel) (by conv => lhs; cbv) (by conv => lhs; cbv) ?_)
    | (refine AOLg.pass ?_; refine AOLg.nx hA tabOk (by conv => lhs; cbv) ?_; first
        | refine NX.done ?_
        | refine NX.gt ?_
        | refine NX.gf ?_
        | (refine NX.gs ?_ ?_ <;> intro hc <;> rw [hc] <;> ((try simp only [zn] at hc) <;> (try simp (disch := omega) only [zz hA, zb, zy, reduceCtorEq, Bool.false_eq_true, Int.reduceLT, Int.reduceLE, Int.reduceNeg] at hc) <;> (try simp only [zw] at hc)) <;> (try (exfalso; omega)))
        | ((first | (refine NX.k 1 ?_; first | refine NX.one (One.elemM hA tabOk rfl rfl rfl rfl ?_ ?_) ?_ | refine NX.one (One.elemOwnM hA tabOk rfl rfl rfl rfl rfl ?_ ?_) ?_) | (refine NX.k 2 ?_; first | refine NX.one (One.clipM tabOk rfl rfl rfl rfl rfl ?_ ?_) ?_ | refine NX.one (One.cut_hM hA tabOk rfl rfl rfl rfl ?_ ?_) ?_ | refine NX.one (One.cut_lM hA tabOk rfl rfl rfl rfl ?_ ?_) ?_ | refine NX.one (One.cut_lhM hA tabOk rfl rfl rfl rfl rfl ?_ ?_ ?_) ?_) | (refine NX.k 3 ?_; first | refine NX.one (One.quoM hA rfl rfl rfl ?_) ?_) | (refine NX.k 4 ?_; first | refine NX.one (One.remM hA rfl rfl rfl ?_) ?_) | (refine NX.k 5 ?_; first | refine NX.one (One.shrM hA rfl rfl rfl ?_) ?_) | (refine NX.k 6 ?_; first | refine NX.one (One.bitsM hA rfl rfl rfl rfl) ?_) | (refine NX.k 7 ?_; first | refine NX.one (One.concatM hA rfl rfl rfl ?_) ?_) | (refine NX.k 8 ?_; first | refine NX.one (One.eqBoolM hA tabOk rfl rfl rfl rfl rfl) ?_) | (refine NX.k 9 ?_; first | refine NX.one (One.neBoolM hA tabOk rfl rfl rfl rfl rfl) ?_) | (refine NX.k 10 ?_; first | refine NX.one (One.lenOwnM hA tabOk rfl rfl rfl rfl) ?_) | (refine NX.k 11 ?_; first | refine NX.one (One.appendM hA tabOk _ rfl rfl rfl rfl rfl rfl ?_ ?_) ?_ | refine NX.one (One.appendMM hA tabOk rfl rfl rfl rfl rfl ?_ ?_) ?_ | refine NX.one (One.appendOwnM hA tabOk _ rfl rfl rfl rfl rfl rfl rfl ?_ ?_) ?_ | refine NX.one (One.appendOwnMM hA tabOk rfl rfl rfl rfl rfl rfl ?_ ?_) ?_ | refine NX.one (One.appendOwn0 hA tabOk rfl rfl rfl rfl rfl rfl ?_ ?_) ?_) | (refine NX.k 13 ?_; first | refine NX.one (One.byteM hA tabOk rfl rfl rfl rfl rfl ?_ ?_) ?_) | (refine NX.k 14 ?_; first | refine NX.one (One.loadRatM hA tabOk rfl rfl rfl rfl rfl rfl ?_) ?_) | (refine NX.k 15 ?_; first | refine NX.one (One.storeRatM hA tabOk _ rfl rfl rfl rfl rfl rfl rfl rfl (fun _ => rfl) ?_) ?_) | (refine NX.k 16 ?_; first | refine NX.one (One.makeM hA tabOk encI 0 rfl rfl rfl rfl rfl rfl rfl ?_ ?_ ?_) ?_) | (refine NX.k 17 ?_; first | refine NX.one (One.build0 tabOk rfl rfl) ?_) | (refine NX.k 18 ?_; first | refine NX.one (One.fieldRat tabOk rfl rfl rfl rfl (by decide) rfl rfl) ?_)) <;> (first | refine AOLg.pass ?_ | (((try simp only [zn]) <;> (try simp (disch := omega) only [zz hA, zb, zy, reduceCtorEq, Bool.false_eq_true, Int.reduceLT, Int.reduceLE, Int.reduceNeg]) <;> (try simp only [zw])) <;> omega)))
        | refine NX.raw ?_)
    | (refine QSg.pass ?_; refine QSg.nx hA tabOk (by conv => lhs; cbv) ?_; first
        | refine QX.done ?_
        | refine QX.gt ?_
        | refine QX.gf ?_
        | (refine QX.gs ?_ ?_ <;> intro hc <;> rw [hc] <;> ((try simp only [zn] at hc) <;> (try simp (disch := omega) only [zz hA, zb, zy, reduceCtorEq, Bool.false_eq_true, Int.reduceLT, Int.reduceLE, Int.reduceNeg] at hc) <;> (try simp only [zw] at hc)) <;> (try (exfalso; omega)))
        | ((first | (refine QX.k 1 ?_; first | refine QX.one rfl (One.elemM hA tabOk rfl rfl rfl rfl ?_ ?_) ?_ | refine QX.one rfl (One.elemOwnM hA tabOk rfl rfl rfl rfl rfl ?_ ?_) ?_) | (refine QX.k 2 ?_; first | refine QX.one rfl (One.clipM tabOk rfl rfl rfl rfl rfl ?_ ?_) ?_ | refine QX.one rfl (One.cut_hM hA tabOk rfl rfl rfl rfl ?_ ?_) ?_ | refine QX.one rfl (One.cut_lM hA tabOk rfl rfl rfl rfl ?_ ?_) ?_ | refine QX.one rfl (One.cut_lhM hA tabOk rfl rfl rfl rfl rfl ?_ ?_ ?_) ?_) | (refine QX.k 3 ?_; first | refine QX.one rfl (One.quoM hA rfl rfl rfl ?_) ?_) | (refine QX.k 4 ?_; first | refine QX.one rfl (One.remM hA rfl rfl rfl ?_) ?_) | (refine QX.k 5 ?_; first | refine QX.one rfl (One.shrM hA rfl rfl rfl ?_) ?_) | (refine QX.k 6 ?_; first | refine QX.one rfl (One.bitsM hA rfl rfl rfl rfl) ?_) | (refine QX.k 7 ?_; first | refine QX.one rfl (One.concatM hA rfl rfl rfl ?_) ?_) | (refine QX.k 8 ?_; first | refine QX.one rfl (One.eqBoolM hA tabOk rfl rfl rfl rfl rfl) ?_) | (refine QX.k 9 ?_; first | refine QX.one rfl (One.neBoolM hA tabOk rfl rfl rfl rfl rfl) ?_) | (refine QX.k 10 ?_; first | refine QX.one rfl (One.lenOwnM hA tabOk rfl rfl rfl rfl) ?_) | (refine QX.k 11 ?_; first | refine QX.one rfl (One.appendM hA tabOk _ rfl rfl rfl rfl rfl rfl ?_ ?_) ?_ | refine QX.one rfl (One.appendMM hA tabOk rfl rfl rfl rfl rfl ?_ ?_) ?_ | refine QX.one rfl (One.appendOwnM hA tabOk _ rfl rfl rfl rfl rfl rfl rfl ?_ ?_) ?_ | refine QX.one rfl (One.appendOwnMM hA tabOk rfl rfl rfl rfl rfl rfl ?_ ?_) ?_ | refine QX.one rfl (One.appendOwn0 hA tabOk rfl rfl rfl rfl rfl rfl ?_ ?_) ?_) | (refine QX.k 13 ?_; first | refine QX.one rfl (One.byteM hA tabOk rfl rfl rfl rfl rfl ?_ ?_) ?_) | (refine QX.k 14 ?_; first | refine QX.one rfl (One.loadRatM hA tabOk rfl rfl rfl rfl rfl rfl ?_) ?_) | (refine QX.k 15 ?_; first | refine QX.one rfl (One.storeRatM hA tabOk _ rfl rfl rfl rfl rfl rfl rfl rfl (fun _ => rfl) ?_) ?_) | (refine QX.k 16 ?_; first | refine QX.one rfl (One.makeM hA tabOk encI 0 rfl rfl rfl rfl rfl rfl rfl ?_ ?_ ?_) ?_) | (refine QX.k 17 ?_; first | refine QX.one rfl (One.build0 tabOk rfl rfl) ?_) | (refine QX.k 18 ?_; first | refine QX.one rfl (One.fieldRat tabOk rfl rfl rfl rfl (by decide) rfl rfl) ?_)) <;> (first | refine QSg.pass ?_ | (((try simp only [zn]) <;> (try simp (disch := omega) only [zz hA, zb, zy, reduceCtorEq, Bool.false_eq_true, Int.reduceLT, Int.reduceLE, Int.reduceNeg]) <;> (try simp only [zw])) <;> omega)))
        | refine QX.raw ?_)
    | refine Thn.exit ?_
    | refine Blk.here ?_
    | refine Blk.other (by decide) ?_
    | refine ⟨.inl rfl, _, RetOk.ev tabOk (by conv => lhs; cbv), ?_⟩
    | fail)
  refine AWp.loopU (fun k : Nat => [(13, .ic (.lit (.int .i64 (hid A (cN k)))))]) (fun _ => [.var true 25 [.ic (.sl 1 false (hid A (List.map encI c.V))), .ic (.sl 2 false (hid A (List.map encN c.N))), .ic (.sl 1 false (hid A (List.map encI c.M)))], .var true 22 [.ic (.sl 1 false (hid A (List.map encI ranks)))], .var true 83 [.fn (.func 49) [] [.ptr 1 0]]]) (fun k => c.V.length - k) (fun k => k ≤ c.V.length ∧ ∀ n, n < k → okU c.V ranks n = true) 0 (by conv => lhs; cbv) ⟨Nat.zero_le _, by simp⟩ (by (repeat' (first | exact subE.nil | refine subE.cons rfl ?_ | refine subE.int rfl ?_ ?_ | refine subE.bool rfl ?_ ?_ | refine subE.str rfl ?_ ?_ | refine subE.sl rfl ?_ ?_)) <;> simp [hA, real, hid, cN]) rfl ?_
  rintro k ⟨hk, hok⟩
  try first | refine AOLg.of [] ?_ | refine QSg.of [] ?_
  repeat' (first
    | (refine AWp.pass ?_; first
        | refine AWp.seq ?_
        | refine AWp.block ?_
        | refine AWp.skip ?_
        | refine AWp.regG [] (by conv => lhs; cbv) ?_
        | refine AWp.cond_t rfl ?_
        | refine AWp.cond_f rfl ?_
        | (refine AWp.cond rfl ?_ ?_ <;> intro hc <;> (try rw [hc]) <;> ((try simp only [zn] at hc) <;> (try simp (disch := omega) only [zz hA, zb, zy, reduceCtorEq, Bool.false_eq_true, Int.reduceLT, Int.reduceLE, Int.reduceNeg] at hc) <;> (try simp only [zw] at hc)) <;> (try (exfalso; omega)))
        | refine AWp.exit ?_
        | refine AWp.ret ⟨.inr rfl, _, RetOk.ev tabOk (by conv => lhs; cbv), ?_⟩
        | refine AWp.drawKG [] 0 rfl (by decide +kernel) (by conv => lhs; cbv) (by conv => lhs; cbv) ?_
        | refine AWp.drawKG [] 1 rfl (by decide +kernel) (by conv => lhs; cbv) (by conv => lhs; cbv) ?_
        | refine AWp.drawKG [] 2 rfl (by decide +kernel) (by conv => lhs; cbv) (by conv => lhs; cbv) ?_
        | refine AWp.drawKG [] 3 rfl (by decide +kernel) (by conv => lhs; cbv) (by conv => lhs; cbv) ?_
        | refine AWp.drawKG [] 4 rfl (by decide +kernel) (by conv => lhs; cbv) (by conv => lhs; cbv) ?_
        | refine AWp.drawKG [] 5 rfl (by decide +kernel) (by conv => lhs; cbv) (by conv => lhs; cbv) ?_
        | refine AWp.drawKG [] 6 rfl (by decide +kernel) (by conv => lhs; cbv) (by conv => lhs; cbv) ?_
        | refine AWp.drawKG [] 8 rfl (by decide +kernel) (by conv => lhs; cbv) (by conv => lhs; cbv) ?_)
    | (refine AOLg.pass ?_; refine AOLg.nx hA tabOk (by conv => lhs; cbv) ?_; first
        | refine NX.done ?_
        | refine NX.gt ?_
        | refine NX.gf ?_
        | (refine NX.gs ?_ ?_ <;> intro hc <;> rw [hc] <;> ((try simp only [zn] at hc) <;> (try simp (disch := omega) only [zz hA, zb, zy, reduceCtorEq, Bool.false_eq_true, Int.reduceLT, Int.reduceLE, Int.reduceNeg] at hc) <;> (try simp only [zw] at hc)) <;> (try (exfalso; omega)))
        | (refine NX.kC ?_; first | (with_reducible refine NX.call (hrr) ?_) | ((first | refine NX.call (hrr) ?_)) | fail)
        | (refine NX.kO ?_; (first | refine NX.callO (hrr) (by simp [allEq]) rfl ?_))
        | ((first | (refine NX.k 1 ?_; first | refine NX.one (One.elemM hA tabOk rfl rfl rfl rfl ?_ ?_) ?_ | refine NX.one (One.elemOwnM hA tabOk rfl rfl rfl rfl rfl ?_ ?_) ?_) | (refine NX.k 2 ?_; first | refine NX.one (One.clipM tabOk rfl rfl rfl rfl rfl ?_ ?_) ?_ | refine NX.one (One.cut_hM hA tabOk rfl rfl rfl rfl ?_ ?_) ?_ | refine NX.one (One.cut_lM hA tabOk rfl rfl rfl rfl ?_ ?_) ?_ | refine NX.one (One.cut_lhM hA tabOk rfl rfl rfl rfl rfl ?_ ?_ ?_) ?_) | (refine NX.k 3 ?_; first | refine NX.one (One.quoM hA rfl rfl rfl ?_) ?_) | (refine NX.k 4 ?_; first | refine NX.one (One.remM hA rfl rfl rfl ?_) ?_) | (refine NX.k 5 ?_; first | refine NX.one (One.shrM hA rfl rfl rfl ?_) ?_) | (refine NX.k 6 ?_; first | refine NX.one (One.bitsM hA rfl rfl rfl rfl) ?_) | (refine NX.k 7 ?_; first | refine NX.one (One.concatM hA rfl rfl rfl ?_) ?_) | (refine NX.k 8 ?_; first | refine NX.one (One.eqBoolM hA tabOk rfl rfl rfl rfl rfl) ?_) | (refine NX.k 9 ?_; first | refine NX.one (One.neBoolM hA tabOk rfl rfl rfl rfl rfl) ?_) | (refine NX.k 10 ?_; first | refine NX.one (One.lenOwnM hA tabOk rfl rfl rfl rfl) ?_) | (refine NX.k 11 ?_; first | refine NX.one (One.appendM hA tabOk _ rfl rfl rfl rfl rfl rfl ?_ ?_) ?_ | refine NX.one (One.appendMM hA tabOk rfl rfl rfl rfl rfl ?_ ?_) ?_ | refine NX.one (One.appendOwnM hA tabOk _ rfl rfl rfl rfl rfl rfl rfl ?_ ?_) ?_ | refine NX.one (One.appendOwnMM hA tabOk rfl rfl rfl rfl rfl rfl ?_ ?_) ?_ | refine NX.one (One.appendOwn0 hA tabOk rfl rfl rfl rfl rfl rfl ?_ ?_) ?_) | (refine NX.k 13 ?_; first | refine NX.one (One.byteM hA tabOk rfl rfl rfl rfl rfl ?_ ?_) ?_) | (refine NX.k 14 ?_; first | refine NX.one (One.loadRatM hA tabOk rfl rfl rfl rfl rfl rfl ?_) ?_) | (refine NX.k 15 ?_; first | refine NX.one (One.storeRatM hA tabOk _ rfl rfl rfl rfl rfl rfl rfl rfl (fun _ => rfl) ?_) ?_) | (refine NX.k 16 ?_; first | refine NX.one (One.makeM hA tabOk encI 0 rfl rfl rfl rfl rfl rfl rfl ?_ ?_ ?_) ?_) | (refine NX.k 17 ?_; first | refine NX.one (One.build0 tabOk rfl rfl) ?_) | (refine NX.k 18 ?_; first | refine NX.one (One.fieldRat tabOk rfl rfl rfl rfl (by decide) rfl rfl) ?_)) <;> (first | refine AOLg.pass ?_ | (((try simp only [zn]) <;> (try simp (disch := omega) only [zz hA, zb, zy, reduceCtorEq, Bool.false_eq_true, Int.reduceLT, Int.reduceLE, Int.reduceNeg]) <;> (try simp only [zw])) <;> omega)))
        | (refine NX.one (One.fcall 1 (ord2_c hA ranks _ _ hr) rfl rfl rfl rfl rfl rfl rfl rfl) ?_)
        | refine NX.raw ?_)
    | (refine QSg.pass ?_; refine QSg.nx hA tabOk (by conv => lhs; cbv) ?_; first
        | refine QX.done ?_
        | refine QX.gt ?_
        | refine QX.gf ?_
        | (refine QX.gs ?_ ?_ <;> intro hc <;> rw [hc] <;> ((try simp only [zn] at hc) <;> (try simp (disch := omega) only [zz hA, zb, zy, reduceCtorEq, Bool.false_eq_true, Int.reduceLT, Int.reduceLE, Int.reduceNeg] at hc) <;> (try simp only [zw] at hc)) <;> (try (exfalso; omega)))
        | (refine QX.kC ?_; first | (with_reducible refine QX.call (hrr) rfl ?_) | ((first | refine QX.call (hrr) rfl ?_)) | fail)
        | (refine QX.kO ?_; (first | refine QX.callO (hrr) rfl (by simp [allEq]) rfl ?_))
        | ((first | (refine QX.k 1 ?_; first | refine QX.one rfl (One.elemM hA tabOk rfl rfl rfl rfl ?_ ?_) ?_ | refine QX.one rfl (One.elemOwnM hA tabOk rfl rfl rfl rfl rfl ?_ ?_) ?_) | (refine QX.k 2 ?_; first | refine QX.one rfl (One.clipM tabOk rfl rfl rfl rfl rfl ?_ ?_) ?_ | refine QX.one rfl (One.cut_hM hA tabOk rfl rfl rfl rfl ?_ ?_) ?_ | refine QX.one rfl (One.cut_lM hA tabOk rfl rfl rfl rfl ?_ ?_) ?_ | refine QX.one rfl (One.cut_lhM hA tabOk rfl rfl rfl rfl rfl ?_ ?_ ?_) ?_) | (refine QX.k 3 ?_; first | refine QX.one rfl (One.quoM hA rfl rfl rfl ?_) ?_) | (refine QX.k 4 ?_; first | refine QX.one rfl (One.remM hA rfl rfl rfl ?_) ?_) | (refine QX.k 5 ?_; first | refine QX.one rfl (One.shrM hA rfl rfl rfl ?_) ?_) | (refine QX.k 6 ?_; first | refine QX.one rfl (One.bitsM hA rfl rfl rfl rfl) ?_) | (refine QX.k 7 ?_; first | refine QX.one rfl (One.concatM hA rfl rfl rfl ?_) ?_) | (refine QX.k 8 ?_; first | refine QX.one rfl (One.eqBoolM hA tabOk rfl rfl rfl rfl rfl) ?_) | (refine QX.k 9 ?_; first | refine QX.one rfl (One.neBoolM hA tabOk rfl rfl rfl rfl rfl) ?_) | (refine QX.k 10 ?_; first | refine QX.one rfl (One.lenOwnM hA tabOk rfl rfl rfl rfl) ?_) | (refine QX.k 11 ?_; first | refine QX.one rfl (One.appendM hA tabOk _ rfl rfl rfl rfl rfl rfl ?_ ?_) ?_ | refine QX.one rfl (One.appendMM hA tabOk rfl rfl rfl rfl rfl ?_ ?_) ?_ | refine QX.one rfl (One.appendOwnM hA tabOk _ rfl rfl rfl rfl rfl rfl rfl ?_ ?_) ?_ | refine QX.one rfl (One.appendOwnMM hA tabOk rfl rfl rfl rfl rfl rfl ?_ ?_) ?_ | refine QX.one rfl (One.appendOwn0 hA tabOk rfl rfl rfl rfl rfl rfl ?_ ?_) ?_) | (refine QX.k 13 ?_; first | refine QX.one rfl (One.byteM hA tabOk rfl rfl rfl rfl rfl ?_ ?_) ?_) | (refine QX.k 14 ?_; first | refine QX.one rfl (One.loadRatM hA tabOk rfl rfl rfl rfl rfl rfl ?_) ?_) | (refine QX.k 15 ?_; first | refine QX.one rfl (One.storeRatM hA tabOk _ rfl rfl rfl rfl rfl rfl rfl rfl (fun _ => rfl) ?_) ?_) | (refine QX.k 16 ?_; first | refine QX.one rfl (One.makeM hA tabOk encI 0 rfl rfl rfl rfl rfl rfl rfl ?_ ?_ ?_) ?_) | (refine QX.k 17 ?_; first | refine QX.one rfl (One.build0 tabOk rfl rfl) ?_) | (refine QX.k 18 ?_; first | refine QX.one rfl (One.fieldRat tabOk rfl rfl rfl rfl (by decide) rfl rfl) ?_)) <;> (first | refine QSg.pass ?_ | (((try simp only [zn]) <;> (try simp (disch := omega) only [zz hA, zb, zy, reduceCtorEq, Bool.false_eq_true, Int.reduceLT, Int.reduceLE, Int.reduceNeg]) <;> (try simp only [zw])) <;> omega)))
        | (refine QX.one rfl (One.fcall 1 (ord2_c hA ranks _ _ hr) rfl rfl rfl rfl rfl rfl rfl rfl) ?_)
        | refine QX.raw ?_)
    | refine Thn.exit ?_
    | refine Blk.here ?_
    | refine Blk.other (by decide) ?_
    | refine ⟨.inl rfl, _, RetOk.ev tabOk (by conv => lhs; cbv), ?_⟩
    | fail)
  · rw [rightB_false (n := k) (by omega) (by rw [okU, decide_eq_false (by assumption), decide_eq_false (by omega)]; rfl)]
    refine rPV_then (by conv => lhs; cbv) ?_
    simp [hA, real, hid]
  · rw [rightB_false (n := k) (by omega) (by rw [okU, decide_eq_false (by assumption), decide_eq_false (p := c.V.getD k default < c.V.length) (by omega)]; simp)]
    refine rPV_then (by conv => lhs; cbv) ?_
    simp [hA, real, hid]
  · rename_i h1 h2 h3 h4
    rw [rightB_false (n := k) (by omega) (by rw [okU, decide_eq_false h2, hc]; simp)]
    refine rPV_then (by conv => lhs; cbv) ?_
    simp [hA, real, hid]
  · rename_i h1 h2 h3 h4
    refine ⟨k + 1, ?_, ?_, rfl, rfl, ?_, (by repeat' (first | exact subE.nil | refine subE.cons rfl ?_))⟩ <;> (try omega)
    repeat' (first | exact subE.nil | refine subE.cons rfl ?_ | refine subE.int rfl ?_ ?_ | refine subE.bool rfl ?_ ?_ | refine subE.str rfl ?_ ?_ | refine subE.sl rfl ?_ ?_)
    · refine ⟨by omega, fun n hn => ?_⟩
      rcases Nat.lt_or_ge n k with h | h
      · exact hok n h
      · obtain rfl : n = k := by omega
        rw [okU, decide_eq_true (p := 0 ≤ c.V.getD n default) (by omega), decide_eq_true (p := c.V.getD n default < c.V.length) (by omega)]
        simp
        exact .inr (by assumption)
    · (((try simp only [zn]) <;> (try simp (disch := omega) only [zz hA, zb, zy, reduceCtorEq, Bool.false_eq_true, Int.reduceLT, Int.reduceLE, Int.reduceNeg]) <;> (try simp only [zw])) <;> omega)
  · refine ⟨k + 1, ?_, ?_, rfl, rfl, ?_, (by repeat' (first | exact subE.nil | refine subE.cons rfl ?_))⟩ <;> (try omega)
    repeat' (first | exact subE.nil | refine subE.cons rfl ?_ | refine subE.int rfl ?_ ?_ | refine subE.bool rfl ?_ ?_ | refine subE.str rfl ?_ ?_ | refine subE.sl rfl ?_ ?_)
    · refine ⟨by omega, fun n hn => ?_⟩
      rcases Nat.lt_or_ge n k with h | h
      · exact hok n h
      · obtain rfl : n = k := by omega
        simp [okU]
        left
        assumption
    · (((try simp only [zn]) <;> (try simp (disch := omega) only [zz hA, zb, zy, reduceCtorEq, Bool.false_eq_true, Int.reduceLT, Int.reduceLE, Int.reduceNeg]) <;> (try simp only [zw])) <;> omega)
  · rw [rightB_all fun n hn => hok n (by omega)]
    refine rPV_then (by conv => lhs; cbv) ?_
    simp [hA, real, hid]
end Go.Proofs.Ytinehodamekjgaa.Aw

/- Contracts of the statements of uf: few, there, the example. -/
set_option linter.unusedVariables false
set_option linter.unusedSimpArgs false
namespace Go.Proofs.Ytinehodamekjgaa.Aw
open Go Go.RowKit
set_option maxRecDepth 10000
attribute [local irreducible] AWp AOL QS One AOLg QSg NX QX
variable {A : Ar} (hA : A = real)
include hA
theorem there_c (V : List Int) (N : List (Int × Int)) (M : List Int) (n : Int) : PureCalls Try.prog 26 [clP A V N M, IP n] (BP (hid A (decide (0 ≤ n ∧ n < V.length)))) := by
  refine PureCalls.of Try.func26 rfl (by kernel_rfl) rfl ?_
  try first | refine AOLg.of [] ?_ | refine QSg.of [] ?_
  repeat' (first
    | (refine AWp.pass ?_; first
        | refine AWp.seq ?_
        | refine AWp.block ?_
        | refine AWp.skip ?_
        | refine AWp.regG [] (by conv => lhs; cbv) ?_
        | refine AWp.cond_t rfl ?_
        | refine AWp.cond_f rfl ?_
        | (refine AWp.cond rfl ?_ ?_ <;> intro hc <;> (try rw [hc]) <;> ((try simp only [zn] at hc) <;> (try simp (disch := omega) only [zz hA, zb, zy, reduceCtorEq, Bool.false_eq_true, Int.reduceLT, Int.reduceLE, Int.reduceNeg] at hc) <;> (try simp only [zw] at hc)) <;> (try (exfalso; omega)))
        | refine AWp.exit ?_
        | refine AWp.ret ⟨.inr rfl, _, RetOk.ev tabOk (by conv => lhs; cbv), ?_⟩
        | refine AWp.drawKG [] 0 rfl (by decide +kernel) (by conv => lhs; cbv) (by conv => lhs; cbv) ?_
        | refine AWp.drawKG [] 1 rfl (by decide +kernel) (by conv => lhs; cbv) (by conv => lhs; cbv) ?_
        | refine AWp.drawKG [] 2 rfl (by decide +kernel) (by conv => lhs; cbv) (by conv => lhs; cbv) ?_
        | refine AWp.drawKG [] 3 rfl (by decide +kernel) (by conv => lhs; cbv) (by conv => lhs; cbv) ?_
        | refine AWp.drawKG [] 4 rfl (by decide +kernel) (by conv => lhs; cbv) (by conv => lhs; cbv) ?_
        | refine AWp.drawKG [] 5 rfl (by decide +kernel) (by conv => lhs; cbv) (by conv => lhs; cbv) ?_
        | refine AWp.drawKG [] 6 rfl (by decide +kernel) (by conv => lhs; cbv) (by conv => lhs; cbv) ?_
        | refine AWp.drawKG [] 8 rfl (by decide +kernel) (by conv => lhs; cbv) (by conv => lhs; cbv) ?_)
    | (refine AOLg.pass ?_; refine AOLg.nx hA tabOk (by conv => lhs; cbv) ?_; first
        | refine NX.done ?_
        | refine NX.gt ?_
        | refine NX.gf ?_
        | (refine NX.gs ?_ ?_ <;> intro hc <;> rw [hc] <;> ((try simp only [zn] at hc) <;> (try simp (disch := omega) only [zz hA, zb, zy, reduceCtorEq, Bool.false_eq_true, Int.reduceLT, Int.reduceLE, Int.reduceNeg] at hc) <;> (try simp only [zw] at hc)) <;> (try (exfalso; omega)))
        | ((first | (refine NX.k 1 ?_; first | refine NX.one (One.elemM hA tabOk rfl rfl rfl rfl ?_ ?_) ?_ | refine NX.one (One.elemOwnM hA tabOk rfl rfl rfl rfl rfl ?_ ?_) ?_) | (refine NX.k 2 ?_; first | refine NX.one (One.clipM tabOk rfl rfl rfl rfl rfl ?_ ?_) ?_ | refine NX.one (One.cut_hM hA tabOk rfl rfl rfl rfl ?_ ?_) ?_ | refine NX.one (One.cut_lM hA tabOk rfl rfl rfl rfl ?_ ?_) ?_ | refine NX.one (One.cut_lhM hA tabOk rfl rfl rfl rfl rfl ?_ ?_ ?_) ?_) | (refine NX.k 3 ?_; first | refine NX.one (One.quoM hA rfl rfl rfl ?_) ?_) | (refine NX.k 4 ?_; first | refine NX.one (One.remM hA rfl rfl rfl ?_) ?_) | (refine NX.k 5 ?_; first | refine NX.one (One.shrM hA rfl rfl rfl ?_) ?_) | (refine NX.k 6 ?_; first | refine NX.one (One.bitsM hA rfl rfl rfl rfl) ?_) | (refine NX.k 7 ?_; first | refine NX.one (One.concatM hA rfl rfl rfl ?_) ?_) | (refine NX.k 8 ?_; first | refine NX.one (One.eqBoolM hA tabOk rfl rfl rfl rfl rfl) ?_) | (refine NX.k 9 ?_; first | refine NX.one (One.neBoolM hA tabOk rfl rfl rfl rfl rfl) ?_) | (refine NX.k 10 ?_; first | refine NX.one (One.lenOwnM hA tabOk rfl rfl rfl rfl) ?_) | (refine NX.k 11 ?_; first | refine NX.one (One.appendM hA tabOk _ rfl rfl rfl rfl rfl rfl ?_ ?_) ?_ | refine NX.one (One.appendMM hA tabOk rfl rfl rfl rfl rfl ?_ ?_) ?_ | refine NX.one (One.appendOwnM hA tabOk _ rfl rfl rfl rfl rfl rfl rfl ?_ ?_) ?_ | refine NX.one (One.appendOwnMM hA tabOk rfl rfl rfl rfl rfl rfl ?_ ?_) ?_ | refine NX.one (One.appendOwn0 hA tabOk rfl rfl rfl rfl rfl rfl ?_ ?_) ?_) | (refine NX.k 13 ?_; first | refine NX.one (One.byteM hA tabOk rfl rfl rfl rfl rfl ?_ ?_) ?_) | (refine NX.k 14 ?_; first | refine NX.one (One.loadRatM hA tabOk rfl rfl rfl rfl rfl rfl ?_) ?_) | (refine NX.k 15 ?_; first | refine NX.one (One.storeRatM hA tabOk _ rfl rfl rfl rfl rfl rfl rfl rfl (fun _ => rfl) ?_) ?_) | (refine NX.k 16 ?_; first | refine NX.one (One.makeM hA tabOk encI 0 rfl rfl rfl rfl rfl rfl rfl ?_ ?_ ?_) ?_) | (refine NX.k 17 ?_; first | refine NX.one (One.build0 tabOk rfl rfl) ?_) | (refine NX.k 18 ?_; first | refine NX.one (One.fieldRat tabOk rfl rfl rfl rfl (by decide) rfl rfl) ?_)) <;> (first | refine AOLg.pass ?_ | (((try simp only [zn]) <;> (try simp (disch := omega) only [zz hA, zb, zy, reduceCtorEq, Bool.false_eq_true, Int.reduceLT, Int.reduceLE, Int.reduceNeg]) <;> (try simp only [zw])) <;> omega)))
        | refine NX.raw ?_)
    | (refine QSg.pass ?_; refine QSg.nx hA tabOk (by conv => lhs; cbv) ?_; first
        | refine QX.done ?_
        | refine QX.gt ?_
        | refine QX.gf ?_
        | (refine QX.gs ?_ ?_ <;> intro hc <;> rw [hc] <;> ((try simp only [zn] at hc) <;> (try simp (disch := omega) only [zz hA, zb, zy, reduceCtorEq, Bool.false_eq_true, Int.reduceLT, Int.reduceLE, Int.reduceNeg] at hc) <;> (try simp only [zw] at hc)) <;> (try (exfalso; omega)))
        | ((first | (refine QX.k 1 ?_; first | refine QX.one rfl (One.elemM hA tabOk rfl rfl rfl rfl ?_ ?_) ?_ | refine QX.one rfl (One.elemOwnM hA tabOk rfl rfl rfl rfl rfl ?_ ?_) ?_) | (refine QX.k 2 ?_; first | refine QX.one rfl (One.clipM tabOk rfl rfl rfl rfl rfl ?_ ?_) ?_ | refine QX.one rfl (One.cut_hM hA tabOk rfl rfl rfl rfl ?_ ?_) ?_ | refine QX.one rfl (One.cut_lM hA tabOk rfl rfl rfl rfl ?_ ?_) ?_ | refine QX.one rfl (One.cut_lhM hA tabOk rfl rfl rfl rfl rfl ?_ ?_ ?_) ?_) | (refine QX.k 3 ?_; first | refine QX.one rfl (One.quoM hA rfl rfl rfl ?_) ?_) | (refine QX.k 4 ?_; first | refine QX.one rfl (One.remM hA rfl rfl rfl ?_) ?_) | (refine QX.k 5 ?_; first | refine QX.one rfl (One.shrM hA rfl rfl rfl ?_) ?_) | (refine QX.k 6 ?_; first | refine QX.one rfl (One.bitsM hA rfl rfl rfl rfl) ?_) | (refine QX.k 7 ?_; first | refine QX.one rfl (One.concatM hA rfl rfl rfl ?_) ?_) | (refine QX.k 8 ?_; first | refine QX.one rfl (One.eqBoolM hA tabOk rfl rfl rfl rfl rfl) ?_) | (refine QX.k 9 ?_; first | refine QX.one rfl (One.neBoolM hA tabOk rfl rfl rfl rfl rfl) ?_) | (refine QX.k 10 ?_; first | refine QX.one rfl (One.lenOwnM hA tabOk rfl rfl rfl rfl) ?_) | (refine QX.k 11 ?_; first | refine QX.one rfl (One.appendM hA tabOk _ rfl rfl rfl rfl rfl rfl ?_ ?_) ?_ | refine QX.one rfl (One.appendMM hA tabOk rfl rfl rfl rfl rfl ?_ ?_) ?_ | refine QX.one rfl (One.appendOwnM hA tabOk _ rfl rfl rfl rfl rfl rfl rfl ?_ ?_) ?_ | refine QX.one rfl (One.appendOwnMM hA tabOk rfl rfl rfl rfl rfl rfl ?_ ?_) ?_ | refine QX.one rfl (One.appendOwn0 hA tabOk rfl rfl rfl rfl rfl rfl ?_ ?_) ?_) | (refine QX.k 13 ?_; first | refine QX.one rfl (One.byteM hA tabOk rfl rfl rfl rfl rfl ?_ ?_) ?_) | (refine QX.k 14 ?_; first | refine QX.one rfl (One.loadRatM hA tabOk rfl rfl rfl rfl rfl rfl ?_) ?_) | (refine QX.k 15 ?_; first | refine QX.one rfl (One.storeRatM hA tabOk _ rfl rfl rfl rfl rfl rfl rfl rfl (fun _ => rfl) ?_) ?_) | (refine QX.k 16 ?_; first | refine QX.one rfl (One.makeM hA tabOk encI 0 rfl rfl rfl rfl rfl rfl rfl ?_ ?_ ?_) ?_) | (refine QX.k 17 ?_; first | refine QX.one rfl (One.build0 tabOk rfl rfl) ?_) | (refine QX.k 18 ?_; first | refine QX.one rfl (One.fieldRat tabOk rfl rfl rfl rfl (by decide) rfl rfl) ?_)) <;> (first | refine QSg.pass ?_ | (((try simp only [zn]) <;> (try simp (disch := omega) only [zz hA, zb, zy, reduceCtorEq, Bool.false_eq_true, Int.reduceLT, Int.reduceLE, Int.reduceNeg]) <;> (try simp only [zw])) <;> omega)))
        | refine QX.raw ?_)
    | refine Thn.exit ?_
    | refine Blk.here ?_
    | refine Blk.other (by decide) ?_
    | refine ⟨.inl rfl, _, RetOk.ev tabOk (by conv => lhs; cbv), ?_⟩
    | fail)
  all_goals
    refine rPV_then (by conv => lhs; cbv) ?_
    ((try simp only [zn]) <;> (try simp (disch := omega) only [zz hA, zb, zy, reduceCtorEq, Bool.false_eq_true, Int.reduceLT, Int.reduceLE, Int.reduceNeg]) <;> (try simp only [zw]))
    simp_all [hid, real]
    try omega
theorem ufew_c (V : List Int) (N : List (Int × Int)) (M ranks : List Int) (hV : V.length ≤ 140737488351232) (hN : N.length ≤ 140737488351232) (hM : M.length ≤ 140737488351232) : PureCalls Try.prog 24 [clP A V N M, intsP A ranks] (BP (hid A (decide (V.length + N.length + M.length ≤ 500 ∧ ranks.length ≤ 200)))) := by
  have hf : PureCalls Try.prog 14 [clP A V N M] (BP (hid A (decide (V.length + N.length + M.length ≤ 500)))) := by
    have := few_c hA (hid A (List.map encI V)) (hid A (List.map encN N)) (hid A (List.map encI M)) (by simpa [hid_eq hA] using hV) (by simpa [hid_eq hA] using hN) (by simpa [hid_eq hA] using hM)
    simp only [clP, hid_eq hA, List.length_map] at this ⊢
    exact this
  refine PureCalls.of Try.func24 rfl (by kernel_rfl) rfl ?_
  try first | refine AOLg.of [] ?_ | refine QSg.of [] ?_
  repeat' (first
    | (refine AWp.pass ?_; first
        | refine AWp.seq ?_
        | refine AWp.block ?_
        | refine AWp.skip ?_
        | refine AWp.regG [] (by conv => lhs; cbv) ?_
        | refine AWp.cond_t rfl ?_
        | refine AWp.cond_f rfl ?_
        | (refine AWp.cond rfl ?_ ?_ <;> intro hc <;> (try rw [hc]) <;> ((try simp only [zn] at hc) <;> (try simp (disch := omega) only [zz hA, zb, zy, reduceCtorEq, Bool.false_eq_true, Int.reduceLT, Int.reduceLE, Int.reduceNeg] at hc) <;> (try simp only [zw] at hc)) <;> (try (exfalso; omega)))
        | refine AWp.exit ?_
        | refine AWp.ret ⟨.inr rfl, _, RetOk.ev tabOk (by conv => lhs; cbv), ?_⟩
        | refine AWp.drawKG [] 0 rfl (by decide +kernel) (by conv => lhs; cbv) (by conv => lhs; cbv) ?_
        | refine AWp.drawKG [] 1 rfl (by decide +kernel) (by conv => lhs; cbv) (by conv => lhs; cbv) ?_
        | refine AWp.drawKG [] 2 rfl (by decide +kernel) (by conv => lhs; cbv) (by conv => lhs; cbv) ?_
        | refine AWp.drawKG [] 3 rfl (by decide +kernel) (by conv => lhs; cbv) (by conv => lhs; cbv) ?_
        | refine AWp.drawKG [] 4 rfl (by decide +kernel) (by conv => lhs; cbv) (by conv => lhs; cbv) ?_
        | refine AWp.drawKG [] 5 rfl (by decide +kernel) (by conv => lhs; cbv) (by conv => lhs; cbv) ?_
        | refine AWp.drawKG [] 6 rfl (by decide +kernel) (by conv => lhs; cbv) (by conv => lhs; cbv) ?_
        | refine AWp.drawKG [] 8 rfl (by decide +kernel) (by conv => lhs; cbv) (by conv => lhs; cbv) ?_)
    | (refine AOLg.pass ?_; refine AOLg.nx hA tabOk (by conv => lhs; cbv) ?_; first
        | refine NX.done ?_
        | refine NX.gt ?_
        | refine NX.gf ?_
        | (refine NX.gs ?_ ?_ <;> intro hc <;> rw [hc] <;> ((try simp only [zn] at hc) <;> (try simp (disch := omega) only [zz hA, zb, zy, reduceCtorEq, Bool.false_eq_true, Int.reduceLT, Int.reduceLE, Int.reduceNeg] at hc) <;> (try simp only [zw] at hc)) <;> (try (exfalso; omega)))
        | (refine NX.kC ?_; first | (with_reducible refine NX.call (hf) ?_) | ((first | refine NX.call (hf) ?_)) | fail)
        | (refine NX.kO ?_; (first | refine NX.callO (hf) (by simp [allEq]) rfl ?_))
        | ((first | (refine NX.k 1 ?_; first | refine NX.one (One.elemM hA tabOk rfl rfl rfl rfl ?_ ?_) ?_ | refine NX.one (One.elemOwnM hA tabOk rfl rfl rfl rfl rfl ?_ ?_) ?_) | (refine NX.k 2 ?_; first | refine NX.one (One.clipM tabOk rfl rfl rfl rfl rfl ?_ ?_) ?_ | refine NX.one (One.cut_hM hA tabOk rfl rfl rfl rfl ?_ ?_) ?_ | refine NX.one (One.cut_lM hA tabOk rfl rfl rfl rfl ?_ ?_) ?_ | refine NX.one (One.cut_lhM hA tabOk rfl rfl rfl rfl rfl ?_ ?_ ?_) ?_) | (refine NX.k 3 ?_; first | refine NX.one (One.quoM hA rfl rfl rfl ?_) ?_) | (refine NX.k 4 ?_; first | refine NX.one (One.remM hA rfl rfl rfl ?_) ?_) | (refine NX.k 5 ?_; first | refine NX.one (One.shrM hA rfl rfl rfl ?_) ?_) | (refine NX.k 6 ?_; first | refine NX.one (One.bitsM hA rfl rfl rfl rfl) ?_) | (refine NX.k 7 ?_; first | refine NX.one (One.concatM hA rfl rfl rfl ?_) ?_) | (refine NX.k 8 ?_; first | refine NX.one (One.eqBoolM hA tabOk rfl rfl rfl rfl rfl) ?_) | (refine NX.k 9 ?_; first | refine NX.one (One.neBoolM hA tabOk rfl rfl rfl rfl rfl) ?_) | (refine NX.k 10 ?_; first | refine NX.one (One.lenOwnM hA tabOk rfl rfl rfl rfl) ?_) | (refine NX.k 11 ?_; first | refine NX.one (One.appendM hA tabOk _ rfl rfl rfl rfl rfl rfl ?_ ?_) ?_ | refine NX.one (One.appendMM hA tabOk rfl rfl rfl rfl rfl ?_ ?_) ?_ | refine NX.one (One.appendOwnM hA tabOk _ rfl rfl rfl rfl rfl rfl rfl ?_ ?_) ?_ | refine NX.one (One.appendOwnMM hA tabOk rfl rfl rfl rfl rfl rfl ?_ ?_) ?_ | refine NX.one (One.appendOwn0 hA tabOk rfl rfl rfl rfl rfl rfl ?_ ?_) ?_) | (refine NX.k 13 ?_; first | refine NX.one (One.byteM hA tabOk rfl rfl rfl rfl rfl ?_ ?_) ?_) | (refine NX.k 14 ?_; first | refine NX.one (One.loadRatM hA tabOk rfl rfl rfl rfl rfl rfl ?_) ?_) | (refine NX.k 15 ?_; first | refine NX.one (One.storeRatM hA tabOk _ rfl rfl rfl rfl rfl rfl rfl rfl (fun _ => rfl) ?_) ?_) | (refine NX.k 16 ?_; first | refine NX.one (One.makeM hA tabOk encI 0 rfl rfl rfl rfl rfl rfl rfl ?_ ?_ ?_) ?_) | (refine NX.k 17 ?_; first | refine NX.one (One.build0 tabOk rfl rfl) ?_) | (refine NX.k 18 ?_; first | refine NX.one (One.fieldRat tabOk rfl rfl rfl rfl (by decide) rfl rfl) ?_)) <;> (first | refine AOLg.pass ?_ | (((try simp only [zn]) <;> (try simp (disch := omega) only [zz hA, zb, zy, reduceCtorEq, Bool.false_eq_true, Int.reduceLT, Int.reduceLE, Int.reduceNeg]) <;> (try simp only [zw])) <;> omega)))
        | refine NX.raw ?_)
    | (refine QSg.pass ?_; refine QSg.nx hA tabOk (by conv => lhs; cbv) ?_; first
        | refine QX.done ?_
        | refine QX.gt ?_
        | refine QX.gf ?_
        | (refine QX.gs ?_ ?_ <;> intro hc <;> rw [hc] <;> ((try simp only [zn] at hc) <;> (try simp (disch := omega) only [zz hA, zb, zy, reduceCtorEq, Bool.false_eq_true, Int.reduceLT, Int.reduceLE, Int.reduceNeg] at hc) <;> (try simp only [zw] at hc)) <;> (try (exfalso; omega)))
        | (refine QX.kC ?_; first | (with_reducible refine QX.call (hf) rfl ?_) | ((first | refine QX.call (hf) rfl ?_)) | fail)
        | (refine QX.kO ?_; (first | refine QX.callO (hf) rfl (by simp [allEq]) rfl ?_))
        | ((first | (refine QX.k 1 ?_; first | refine QX.one rfl (One.elemM hA tabOk rfl rfl rfl rfl ?_ ?_) ?_ | refine QX.one rfl (One.elemOwnM hA tabOk rfl rfl rfl rfl rfl ?_ ?_) ?_) | (refine QX.k 2 ?_; first | refine QX.one rfl (One.clipM tabOk rfl rfl rfl rfl rfl ?_ ?_) ?_ | refine QX.one rfl (One.cut_hM hA tabOk rfl rfl rfl rfl ?_ ?_) ?_ | refine QX.one rfl (One.cut_lM hA tabOk rfl rfl rfl rfl ?_ ?_) ?_ | refine QX.one rfl (One.cut_lhM hA tabOk rfl rfl rfl rfl rfl ?_ ?_ ?_) ?_) | (refine QX.k 3 ?_; first | refine QX.one rfl (One.quoM hA rfl rfl rfl ?_) ?_) | (refine QX.k 4 ?_; first | refine QX.one rfl (One.remM hA rfl rfl rfl ?_) ?_) | (refine QX.k 5 ?_; first | refine QX.one rfl (One.shrM hA rfl rfl rfl ?_) ?_) | (refine QX.k 6 ?_; first | refine QX.one rfl (One.bitsM hA rfl rfl rfl rfl) ?_) | (refine QX.k 7 ?_; first | refine QX.one rfl (One.concatM hA rfl rfl rfl ?_) ?_) | (refine QX.k 8 ?_; first | refine QX.one rfl (One.eqBoolM hA tabOk rfl rfl rfl rfl rfl) ?_) | (refine QX.k 9 ?_; first | refine QX.one rfl (One.neBoolM hA tabOk rfl rfl rfl rfl rfl) ?_) | (refine QX.k 10 ?_; first | refine QX.one rfl (One.lenOwnM hA tabOk rfl rfl rfl rfl) ?_) | (refine QX.k 11 ?_; first | refine QX.one rfl (One.appendM hA tabOk _ rfl rfl rfl rfl rfl rfl ?_ ?_) ?_ | refine QX.one rfl (One.appendMM hA tabOk rfl rfl rfl rfl rfl ?_ ?_) ?_ | refine QX.one rfl (One.appendOwnM hA tabOk _ rfl rfl rfl rfl rfl rfl rfl ?_ ?_) ?_ | refine QX.one rfl (One.appendOwnMM hA tabOk rfl rfl rfl rfl rfl rfl ?_ ?_) ?_ | refine QX.one rfl (One.appendOwn0 hA tabOk rfl rfl rfl rfl rfl rfl ?_ ?_) ?_) | (refine QX.k 13 ?_; first | refine QX.one rfl (One.byteM hA tabOk rfl rfl rfl rfl rfl ?_ ?_) ?_) | (refine QX.k 14 ?_; first | refine QX.one rfl (One.loadRatM hA tabOk rfl rfl rfl rfl rfl rfl ?_) ?_) | (refine QX.k 15 ?_; first | refine QX.one rfl (One.storeRatM hA tabOk _ rfl rfl rfl rfl rfl rfl rfl rfl (fun _ => rfl) ?_) ?_) | (refine QX.k 16 ?_; first | refine QX.one rfl (One.makeM hA tabOk encI 0 rfl rfl rfl rfl rfl rfl rfl ?_ ?_ ?_) ?_) | (refine QX.k 17 ?_; first | refine QX.one rfl (One.build0 tabOk rfl rfl) ?_) | (refine QX.k 18 ?_; first | refine QX.one rfl (One.fieldRat tabOk rfl rfl rfl rfl (by decide) rfl rfl) ?_)) <;> (first | refine QSg.pass ?_ | (((try simp only [zn]) <;> (try simp (disch := omega) only [zz hA, zb, zy, reduceCtorEq, Bool.false_eq_true, Int.reduceLT, Int.reduceLE, Int.reduceNeg]) <;> (try simp only [zw])) <;> omega)))
        | refine QX.raw ?_)
    | refine Thn.exit ?_
    | refine Blk.here ?_
    | refine Blk.other (by decide) ?_
    | refine ⟨.inl rfl, _, RetOk.ev tabOk (by conv => lhs; cbv), ?_⟩
    | fail)
  all_goals
    refine rPV_then (by conv => lhs; cbv) ?_
    ((try simp only [zn]) <;> (try simp (disch := omega) only [zz hA, zb, zy, reduceCtorEq, Bool.false_eq_true, Int.reduceLT, Int.reduceLE, Int.reduceNeg]) <;> (try simp only [zw]))
    simp_all [hid, real]
    try omega
theorem three_c : PureCalls Try.prog 39 [] (clP A [0, 1, 2] [(-1, 0), (-1, 0), (-1, 0)] []) := by
  have h1 := (add_c hA [] [] [] (by simp) (by simp)).weaken (pvs := [.agg [.sl 0 false [], .sl 0 false [], .sl 0 false []]]) (by
    simp only [clP, hid_eq hA]
    exact .cons (.agg (.cons (.nil _ _ _) (.cons (.nil _ _ _) (.cons (.nil _ _ _) .nil)))) .nil)
  have h2 := add_c hA [0] [(-1, 0)] [] (by simp) (by simp)
  have h3 := add_c hA [0, 1] [(-1, 0), (-1, 0)] [] (by simp) (by simp)
  refine PureCalls.of Try.func39 rfl (by kernel_rfl) rfl ?_
  try first | refine AOLg.of [] ?_ | refine QSg.of [] ?_
  repeat' (first
    | (refine AWp.pass ?_; first
        | refine AWp.seq ?_
        | refine AWp.block ?_
        | refine AWp.skip ?_
        | refine AWp.regG [] (by conv => lhs; cbv) ?_
        | refine AWp.cond_t rfl ?_
        | refine AWp.cond_f rfl ?_
        | (refine AWp.cond rfl ?_ ?_ <;> intro hc <;> (try rw [hc]) <;> ((try simp only [zn] at hc) <;> (try simp (disch := omega) only [zz hA, zb, zy, reduceCtorEq, Bool.false_eq_true, Int.reduceLT, Int.reduceLE, Int.reduceNeg] at hc) <;> (try simp only [zw] at hc)) <;> (try (exfalso; omega)))
        | refine AWp.exit ?_
        | refine AWp.ret ⟨.inr rfl, _, RetOk.ev tabOk (by conv => lhs; cbv), ?_⟩
        | refine AWp.drawKG [] 0 rfl (by decide +kernel) (by conv => lhs; cbv) (by conv => lhs; cbv) ?_
        | refine AWp.drawKG [] 1 rfl (by decide +kernel) (by conv => lhs; cbv) (by conv => lhs; cbv) ?_
        | refine AWp.drawKG [] 2 rfl (by decide +kernel) (by conv => lhs; cbv) (by conv => lhs; cbv) ?_
        | refine AWp.drawKG [] 3 rfl (by decide +kernel) (by conv => lhs; cbv) (by conv => lhs; cbv) ?_
        | refine AWp.drawKG [] 4 rfl (by decide +kernel) (by conv => lhs; cbv) (by conv => lhs; cbv) ?_
        | refine AWp.drawKG [] 5 rfl (by decide +kernel) (by conv => lhs; cbv) (by conv => lhs; cbv) ?_
        | refine AWp.drawKG [] 6 rfl (by decide +kernel) (by conv => lhs; cbv) (by conv => lhs; cbv) ?_
        | refine AWp.drawKG [] 8 rfl (by decide +kernel) (by conv => lhs; cbv) (by conv => lhs; cbv) ?_)
    | (refine AOLg.pass ?_; refine AOLg.nx hA tabOk (by conv => lhs; cbv) ?_; first
        | refine NX.done ?_
        | refine NX.gt ?_
        | refine NX.gf ?_
        | (refine NX.gs ?_ ?_ <;> intro hc <;> rw [hc] <;> ((try simp only [zn] at hc) <;> (try simp (disch := omega) only [zz hA, zb, zy, reduceCtorEq, Bool.false_eq_true, Int.reduceLT, Int.reduceLE, Int.reduceNeg] at hc) <;> (try simp only [zw] at hc)) <;> (try (exfalso; omega)))
        | (refine NX.kC ?_; first | (with_reducible refine NX.call (h1) ?_) | (with_reducible refine NX.call (h2) ?_) | (with_reducible refine NX.call (h3) ?_) | ((first | refine NX.call (h1) ?_ | refine NX.call (h2) ?_ | refine NX.call (h3) ?_)) | fail)
        | (refine NX.kO ?_; (first | refine NX.callO (h1) (by simp [allEq]) rfl ?_ | refine NX.callO (h2) (by simp [allEq]) rfl ?_ | refine NX.callO (h3) (by simp [allEq]) rfl ?_))
        | ((first | (refine NX.k 1 ?_; first | refine NX.one (One.elemM hA tabOk rfl rfl rfl rfl ?_ ?_) ?_ | refine NX.one (One.elemOwnM hA tabOk rfl rfl rfl rfl rfl ?_ ?_) ?_) | (refine NX.k 2 ?_; first | refine NX.one (One.clipM tabOk rfl rfl rfl rfl rfl ?_ ?_) ?_ | refine NX.one (One.cut_hM hA tabOk rfl rfl rfl rfl ?_ ?_) ?_ | refine NX.one (One.cut_lM hA tabOk rfl rfl rfl rfl ?_ ?_) ?_ | refine NX.one (One.cut_lhM hA tabOk rfl rfl rfl rfl rfl ?_ ?_ ?_) ?_) | (refine NX.k 3 ?_; first | refine NX.one (One.quoM hA rfl rfl rfl ?_) ?_) | (refine NX.k 4 ?_; first | refine NX.one (One.remM hA rfl rfl rfl ?_) ?_) | (refine NX.k 5 ?_; first | refine NX.one (One.shrM hA rfl rfl rfl ?_) ?_) | (refine NX.k 6 ?_; first | refine NX.one (One.bitsM hA rfl rfl rfl rfl) ?_) | (refine NX.k 7 ?_; first | refine NX.one (One.concatM hA rfl rfl rfl ?_) ?_) | (refine NX.k 8 ?_; first | refine NX.one (One.eqBoolM hA tabOk rfl rfl rfl rfl rfl) ?_) | (refine NX.k 9 ?_; first | refine NX.one (One.neBoolM hA tabOk rfl rfl rfl rfl rfl) ?_) | (refine NX.k 10 ?_; first | refine NX.one (One.lenOwnM hA tabOk rfl rfl rfl rfl) ?_) | (refine NX.k 11 ?_; first | refine NX.one (One.appendM hA tabOk _ rfl rfl rfl rfl rfl rfl ?_ ?_) ?_ | refine NX.one (One.appendMM hA tabOk rfl rfl rfl rfl rfl ?_ ?_) ?_ | refine NX.one (One.appendOwnM hA tabOk _ rfl rfl rfl rfl rfl rfl rfl ?_ ?_) ?_ | refine NX.one (One.appendOwnMM hA tabOk rfl rfl rfl rfl rfl rfl ?_ ?_) ?_ | refine NX.one (One.appendOwn0 hA tabOk rfl rfl rfl rfl rfl rfl ?_ ?_) ?_) | (refine NX.k 13 ?_; first | refine NX.one (One.byteM hA tabOk rfl rfl rfl rfl rfl ?_ ?_) ?_) | (refine NX.k 14 ?_; first | refine NX.one (One.loadRatM hA tabOk rfl rfl rfl rfl rfl rfl ?_) ?_) | (refine NX.k 15 ?_; first | refine NX.one (One.storeRatM hA tabOk _ rfl rfl rfl rfl rfl rfl rfl rfl (fun _ => rfl) ?_) ?_) | (refine NX.k 16 ?_; first | refine NX.one (One.makeM hA tabOk encI 0 rfl rfl rfl rfl rfl rfl rfl ?_ ?_ ?_) ?_) | (refine NX.k 17 ?_; first | refine NX.one (One.build0 tabOk rfl rfl) ?_) | (refine NX.k 18 ?_; first | refine NX.one (One.fieldRat tabOk rfl rfl rfl rfl (by decide) rfl rfl) ?_)) <;> (first | refine AOLg.pass ?_ | (((try simp only [zn]) <;> (try simp (disch := omega) only [zz hA, zb, zy, reduceCtorEq, Bool.false_eq_true, Int.reduceLT, Int.reduceLE, Int.reduceNeg]) <;> (try simp only [zw])) <;> omega)))
        | refine NX.raw ?_)
    | (refine QSg.pass ?_; refine QSg.nx hA tabOk (by conv => lhs; cbv) ?_; first
        | refine QX.done ?_
        | refine QX.gt ?_
        | refine QX.gf ?_
        | (refine QX.gs ?_ ?_ <;> intro hc <;> rw [hc] <;> ((try simp only [zn] at hc) <;> (try simp (disch := omega) only [zz hA, zb, zy, reduceCtorEq, Bool.false_eq_true, Int.reduceLT, Int.reduceLE, Int.reduceNeg] at hc) <;> (try simp only [zw] at hc)) <;> (try (exfalso; omega)))
        | (refine QX.kC ?_; first | (with_reducible refine QX.call (h1) rfl ?_) | (with_reducible refine QX.call (h2) rfl ?_) | (with_reducible refine QX.call (h3) rfl ?_) | ((first | refine QX.call (h1) rfl ?_ | refine QX.call (h2) rfl ?_ | refine QX.call (h3) rfl ?_)) | fail)
        | (refine QX.kO ?_; (first | refine QX.callO (h1) rfl (by simp [allEq]) rfl ?_ | refine QX.callO (h2) rfl (by simp [allEq]) rfl ?_ | refine QX.callO (h3) rfl (by simp [allEq]) rfl ?_))
        | ((first | (refine QX.k 1 ?_; first | refine QX.one rfl (One.elemM hA tabOk rfl rfl rfl rfl ?_ ?_) ?_ | refine QX.one rfl (One.elemOwnM hA tabOk rfl rfl rfl rfl rfl ?_ ?_) ?_) | (refine QX.k 2 ?_; first | refine QX.one rfl (One.clipM tabOk rfl rfl rfl rfl rfl ?_ ?_) ?_ | refine QX.one rfl (One.cut_hM hA tabOk rfl rfl rfl rfl ?_ ?_) ?_ | refine QX.one rfl (One.cut_lM hA tabOk rfl rfl rfl rfl ?_ ?_) ?_ | refine QX.one rfl (One.cut_lhM hA tabOk rfl rfl rfl rfl rfl ?_ ?_ ?_) ?_) | (refine QX.k 3 ?_; first | refine QX.one rfl (One.quoM hA rfl rfl rfl ?_) ?_) | (refine QX.k 4 ?_; first | refine QX.one rfl (One.remM hA rfl rfl rfl ?_) ?_) | (refine QX.k 5 ?_; first | refine QX.one rfl (One.shrM hA rfl rfl rfl ?_) ?_) | (refine QX.k 6 ?_; first | refine QX.one rfl (One.bitsM hA rfl rfl rfl rfl) ?_) | (refine QX.k 7 ?_; first | refine QX.one rfl (One.concatM hA rfl rfl rfl ?_) ?_) | (refine QX.k 8 ?_; first | refine QX.one rfl (One.eqBoolM hA tabOk rfl rfl rfl rfl rfl) ?_) | (refine QX.k 9 ?_; first | refine QX.one rfl (One.neBoolM hA tabOk rfl rfl rfl rfl rfl) ?_) | (refine QX.k 10 ?_; first | refine QX.one rfl (One.lenOwnM hA tabOk rfl rfl rfl rfl) ?_) | (refine QX.k 11 ?_; first | refine QX.one rfl (One.appendM hA tabOk _ rfl rfl rfl rfl rfl rfl ?_ ?_) ?_ | refine QX.one rfl (One.appendMM hA tabOk rfl rfl rfl rfl rfl ?_ ?_) ?_ | refine QX.one rfl (One.appendOwnM hA tabOk _ rfl rfl rfl rfl rfl rfl rfl ?_ ?_) ?_ | refine QX.one rfl (One.appendOwnMM hA tabOk rfl rfl rfl rfl rfl rfl ?_ ?_) ?_ | refine QX.one rfl (One.appendOwn0 hA tabOk rfl rfl rfl rfl rfl rfl ?_ ?_) ?_) | (refine QX.k 13 ?_; first | refine QX.one rfl (One.byteM hA tabOk rfl rfl rfl rfl rfl ?_ ?_) ?_) | (refine QX.k 14 ?_; first | refine QX.one rfl (One.loadRatM hA tabOk rfl rfl rfl rfl rfl rfl ?_) ?_) | (refine QX.k 15 ?_; first | refine QX.one rfl (One.storeRatM hA tabOk _ rfl rfl rfl rfl rfl rfl rfl rfl (fun _ => rfl) ?_) ?_) | (refine QX.k 16 ?_; first | refine QX.one rfl (One.makeM hA tabOk encI 0 rfl rfl rfl rfl rfl rfl rfl ?_ ?_ ?_) ?_) | (refine QX.k 17 ?_; first | refine QX.one rfl (One.build0 tabOk rfl rfl) ?_) | (refine QX.k 18 ?_; first | refine QX.one rfl (One.fieldRat tabOk rfl rfl rfl rfl (by decide) rfl rfl) ?_)) <;> (first | refine QSg.pass ?_ | (((try simp only [zn]) <;> (try simp (disch := omega) only [zz hA, zb, zy, reduceCtorEq, Bool.false_eq_true, Int.reduceLT, Int.reduceLE, Int.reduceNeg]) <;> (try simp only [zw])) <;> omega)))
        | refine QX.raw ?_)
    | refine Thn.exit ?_
    | refine Blk.here ?_
    | refine Blk.other (by decide) ?_
    | refine ⟨.inl rfl, _, RetOk.ev tabOk (by conv => lhs; cbv), ?_⟩
    | fail)
  refine rPV_then (by conv => lhs; cbv) ?_
  rfl
theorem shown5_c : PureCalls Try.prog 23 [] (BP true) := by
  have hR : RightU [0, 1, 2] [] := (rightB_iff _ _).1 (by decide)
  have hR2 : RightU [0, 1, 1] [] := (rightB_iff _ _).1 (by decide)
  have hj := (join_c hA [0, 1, 2] [(-1, 0), (-1, 0), (-1, 0)] [] [] hR 2 1 (by simp) (by simp) (by simp) (by simp) (by simp)).weaken (pvs := [clP A [0, 1, 2] [(-1, 0), (-1, 0), (-1, 0)] [], .c (.sl 0 false []), IP 2, IP 1]) (by
    refine .cons (.refl _) (.cons (.c ?_) (.cons (.refl _) (.cons (.refl _) .nil)))
    rw [hid_eq hA]
    exact .nil _ _ _)
  rw [show joinV [0, 1, 2] [] 2 1 = [0, 1, 1] by decide, show joinN [0, 1, 2] [] [(-1, 0), (-1, 0), (-1, 0)] 2 1 = [(-1, 0), (-1, 0), (-1, 0), (2, 2)] by decide] at hj
  have hf := find_c hA [0, 1, 1] [(-1, 0), (-1, 0), (-1, 0), (2, 2)] [] [] hR2 2 (by simp) (by simp)
  rw [show findU [0, 1, 1] 2 = 1 by decide] at hf
  have hcl := class_c hA [0, 1, 1] [(-1, 0), (-1, 0), (-1, 0), (2, 2)] [] [] hR2 1 (by simp) (by simp) (by simp)
  rw [show (thoseM ([0, 1, 1] : List Int).length fun k => decide (findU [0, 1, 1] k = findU [0, 1, 1] 1)) = [1, 2] by decide] at hcl
  have hfi := firsts_c hA [0, 1, 1] [(-1, 0), (-1, 0), (-1, 0), (2, 2)] [] (by simp)
  rw [show (thoseM ([0, 1, 1] : List Int).length fun k => decide (([0, 1, 1] : List Int).getD k.toNat default = k)) = [0, 1] by decide] at hfi
  have hle := (less_c hA [] 1 2 (by simp)).weaken (pvs := [.c (.sl 0 false []), IP 1, IP 2]) (by
    refine .cons (.c ?_) (.cons (.refl _) (.cons (.refl _) .nil))
    rw [hid_eq hA]
    exact .nil _ _ _)
  rw [show lessM [] 1 2 = true by decide] at hle
  have hri := (uright_c hA ⟨[0, 1, 1], [(-1, 0), (-1, 0), (-1, 0), (2, 2)], []⟩ ⟨by simp, by simp, by simp⟩ [] (by simp)).weaken (pvs := [clP A [0, 1, 1] [(-1, 0), (-1, 0), (-1, 0), (2, 2)] [], .c (.sl 0 false [])]) (by
    refine .cons (.refl _) (.cons (.c ?_) .nil)
    rw [hid_eq hA]
    exact .nil _ _ _)
  rw [show (rightB (⟨[0, 1, 1], [(-1, 0), (-1, 0), (-1, 0), (2, 2)], []⟩ : Cl).V [] && (⟨[0, 1, 1], [(-1, 0), (-1, 0), (-1, 0), (2, 2)], []⟩ : Cl).right) = true by decide] at hri
  refine PureCalls.of Try.func23 rfl (by kernel_rfl) rfl ?_
  try first | refine AOLg.of [] ?_ | refine QSg.of [] ?_
  repeat' (first
    | (refine AWp.pass ?_; first
        | refine AWp.seq ?_
        | refine AWp.block ?_
        | refine AWp.skip ?_
        | refine AWp.regG [] (by conv => lhs; cbv) ?_
        | refine AWp.cond_t rfl ?_
        | refine AWp.cond_f rfl ?_
        | (refine AWp.cond rfl ?_ ?_ <;> intro hc <;> (try rw [hc]) <;> ((try simp only [zn] at hc) <;> (try simp (disch := omega) only [zz hA, zb, zy, reduceCtorEq, Bool.false_eq_true, Int.reduceLT, Int.reduceLE, Int.reduceNeg] at hc) <;> (try simp only [zw] at hc)) <;> (try (exfalso; omega)))
        | refine AWp.exit ?_
        | refine AWp.ret ⟨.inr rfl, _, RetOk.ev tabOk (by conv => lhs; cbv), ?_⟩
        | refine AWp.drawKG [] 0 rfl (by decide +kernel) (by conv => lhs; cbv) (by conv => lhs; cbv) ?_
        | refine AWp.drawKG [] 1 rfl (by decide +kernel) (by conv => lhs; cbv) (by conv => lhs; cbv) ?_
        | refine AWp.drawKG [] 2 rfl (by decide +kernel) (by conv => lhs; cbv) (by conv => lhs; cbv) ?_
        | refine AWp.drawKG [] 3 rfl (by decide +kernel) (by conv => lhs; cbv) (by conv => lhs; cbv) ?_
        | refine AWp.drawKG [] 4 rfl (by decide +kernel) (by conv => lhs; cbv) (by conv => lhs; cbv) ?_
        | refine AWp.drawKG [] 5 rfl (by decide +kernel) (by conv => lhs; cbv) (by conv => lhs; cbv) ?_
        | refine AWp.drawKG [] 6 rfl (by decide +kernel) (by conv => lhs; cbv) (by conv => lhs; cbv) ?_
        | refine AWp.drawKG [] 8 rfl (by decide +kernel) (by conv => lhs; cbv) (by conv => lhs; cbv) ?_)
    | (refine AOLg.pass ?_; refine AOLg.nx hA tabOk (by conv => lhs; cbv) ?_; first
        | refine NX.done ?_
        | refine NX.gt ?_
        | refine NX.gf ?_
        | (refine NX.gs ?_ ?_ <;> intro hc <;> rw [hc] <;> ((try simp only [zn] at hc) <;> (try simp (disch := omega) only [zz hA, zb, zy, reduceCtorEq, Bool.false_eq_true, Int.reduceLT, Int.reduceLE, Int.reduceNeg] at hc) <;> (try simp only [zw] at hc)) <;> (try (exfalso; omega)))
        | (refine NX.kC ?_; first | (with_reducible refine NX.call (three_c hA) ?_) | (with_reducible refine NX.call (hj) ?_) | (with_reducible refine NX.call (hf) ?_) | (with_reducible refine NX.call (hcl) ?_) | (with_reducible refine NX.call (hfi) ?_) | (with_reducible refine NX.call (hle) ?_) | (with_reducible refine NX.call (hri) ?_) | ((first | refine NX.call (three_c hA) ?_ | refine NX.call (hj) ?_ | refine NX.call (hf) ?_ | refine NX.call (hcl) ?_ | refine NX.call (hfi) ?_ | refine NX.call (hle) ?_ | refine NX.call (hri) ?_)) | fail)
        | (refine NX.kO ?_; (first | refine NX.callO (three_c hA) (by simp [allEq]) rfl ?_ | refine NX.callO (hj) (by simp [allEq]) rfl ?_ | refine NX.callO (hf) (by simp [allEq]) rfl ?_ | refine NX.callO (hcl) (by simp [allEq]) rfl ?_ | refine NX.callO (hfi) (by simp [allEq]) rfl ?_ | refine NX.callO (hle) (by simp [allEq]) rfl ?_ | refine NX.callO (hri) (by simp [allEq]) rfl ?_))
        | ((first | (refine NX.k 1 ?_; first | refine NX.one (One.elemM hA tabOk rfl rfl rfl rfl ?_ ?_) ?_ | refine NX.one (One.elemOwnM hA tabOk rfl rfl rfl rfl rfl ?_ ?_) ?_) | (refine NX.k 2 ?_; first | refine NX.one (One.clipM tabOk rfl rfl rfl rfl rfl ?_ ?_) ?_ | refine NX.one (One.cut_hM hA tabOk rfl rfl rfl rfl ?_ ?_) ?_ | refine NX.one (One.cut_lM hA tabOk rfl rfl rfl rfl ?_ ?_) ?_ | refine NX.one (One.cut_lhM hA tabOk rfl rfl rfl rfl rfl ?_ ?_ ?_) ?_) | (refine NX.k 3 ?_; first | refine NX.one (One.quoM hA rfl rfl rfl ?_) ?_) | (refine NX.k 4 ?_; first | refine NX.one (One.remM hA rfl rfl rfl ?_) ?_) | (refine NX.k 5 ?_; first | refine NX.one (One.shrM hA rfl rfl rfl ?_) ?_) | (refine NX.k 6 ?_; first | refine NX.one (One.bitsM hA rfl rfl rfl rfl) ?_) | (refine NX.k 7 ?_; first | refine NX.one (One.concatM hA rfl rfl rfl ?_) ?_) | (refine NX.k 8 ?_; first | refine NX.one (One.eqBoolM hA tabOk rfl rfl rfl rfl rfl) ?_) | (refine NX.k 9 ?_; first | refine NX.one (One.neBoolM hA tabOk rfl rfl rfl rfl rfl) ?_) | (refine NX.k 10 ?_; first | refine NX.one (One.lenOwnM hA tabOk rfl rfl rfl rfl) ?_) | (refine NX.k 11 ?_; first | refine NX.one (One.appendM hA tabOk _ rfl rfl rfl rfl rfl rfl ?_ ?_) ?_ | refine NX.one (One.appendMM hA tabOk rfl rfl rfl rfl rfl ?_ ?_) ?_ | refine NX.one (One.appendOwnM hA tabOk _ rfl rfl rfl rfl rfl rfl rfl ?_ ?_) ?_ | refine NX.one (One.appendOwnMM hA tabOk rfl rfl rfl rfl rfl rfl ?_ ?_) ?_ | refine NX.one (One.appendOwn0 hA tabOk rfl rfl rfl rfl rfl rfl ?_ ?_) ?_) | (refine NX.k 13 ?_; first | refine NX.one (One.byteM hA tabOk rfl rfl rfl rfl rfl ?_ ?_) ?_) | (refine NX.k 14 ?_; first | refine NX.one (One.loadRatM hA tabOk rfl rfl rfl rfl rfl rfl ?_) ?_) | (refine NX.k 15 ?_; first | refine NX.one (One.storeRatM hA tabOk _ rfl rfl rfl rfl rfl rfl rfl rfl (fun _ => rfl) ?_) ?_) | (refine NX.k 16 ?_; first | refine NX.one (One.makeM hA tabOk encI 0 rfl rfl rfl rfl rfl rfl rfl ?_ ?_ ?_) ?_) | (refine NX.k 17 ?_; first | refine NX.one (One.build0 tabOk rfl rfl) ?_) | (refine NX.k 18 ?_; first | refine NX.one (One.fieldRat tabOk rfl rfl rfl rfl (by decide) rfl rfl) ?_)) <;> (first | refine AOLg.pass ?_ | (((try simp only [zn]) <;> (try simp (disch := omega) only [zz hA, zb, zy, reduceCtorEq, Bool.false_eq_true, Int.reduceLT, Int.reduceLE, Int.reduceNeg]) <;> (try simp only [zw])) <;> omega)))
        | refine NX.raw ?_)
    | (refine QSg.pass ?_; refine QSg.nx hA tabOk (by conv => lhs; cbv) ?_; first
        | refine QX.done ?_
        | refine QX.gt ?_
        | refine QX.gf ?_
        | (refine QX.gs ?_ ?_ <;> intro hc <;> rw [hc] <;> ((try simp only [zn] at hc) <;> (try simp (disch := omega) only [zz hA, zb, zy, reduceCtorEq, Bool.false_eq_true, Int.reduceLT, Int.reduceLE, Int.reduceNeg] at hc) <;> (try simp only [zw] at hc)) <;> (try (exfalso; omega)))
        | (refine QX.kC ?_; first | (with_reducible refine QX.call (three_c hA) rfl ?_) | (with_reducible refine QX.call (hj) rfl ?_) | (with_reducible refine QX.call (hf) rfl ?_) | (with_reducible refine QX.call (hcl) rfl ?_) | (with_reducible refine QX.call (hfi) rfl ?_) | (with_reducible refine QX.call (hle) rfl ?_) | (with_reducible refine QX.call (hri) rfl ?_) | ((first | refine QX.call (three_c hA) rfl ?_ | refine QX.call (hj) rfl ?_ | refine QX.call (hf) rfl ?_ | refine QX.call (hcl) rfl ?_ | refine QX.call (hfi) rfl ?_ | refine QX.call (hle) rfl ?_ | refine QX.call (hri) rfl ?_)) | fail)
        | (refine QX.kO ?_; (first | refine QX.callO (three_c hA) rfl (by simp [allEq]) rfl ?_ | refine QX.callO (hj) rfl (by simp [allEq]) rfl ?_ | refine QX.callO (hf) rfl (by simp [allEq]) rfl ?_ | refine QX.callO (hcl) rfl (by simp [allEq]) rfl ?_ | refine QX.callO (hfi) rfl (by simp [allEq]) rfl ?_ | refine QX.callO (hle) rfl (by simp [allEq]) rfl ?_ | refine QX.callO (hri) rfl (by simp [allEq]) rfl ?_))
        | ((first | (refine QX.k 1 ?_; first | refine QX.one rfl (One.elemM hA tabOk rfl rfl rfl rfl ?_ ?_) ?_ | refine QX.one rfl (One.elemOwnM hA tabOk rfl rfl rfl rfl rfl ?_ ?_) ?_) | (refine QX.k 2 ?_; first | refine QX.one rfl (One.clipM tabOk rfl rfl rfl rfl rfl ?_ ?_) ?_ | refine QX.one rfl (One.cut_hM hA tabOk rfl rfl rfl rfl ?_ ?_) ?_ | refine QX.one rfl (One.cut_lM hA tabOk rfl rfl rfl rfl ?_ ?_) ?_ | refine QX.one rfl (One.cut_lhM hA tabOk rfl rfl rfl rfl rfl ?_ ?_ ?_) ?_) | (refine QX.k 3 ?_; first | refine QX.one rfl (One.quoM hA rfl rfl rfl ?_) ?_) | (refine QX.k 4 ?_; first | refine QX.one rfl (One.remM hA rfl rfl rfl ?_) ?_) | (refine QX.k 5 ?_; first | refine QX.one rfl (One.shrM hA rfl rfl rfl ?_) ?_) | (refine QX.k 6 ?_; first | refine QX.one rfl (One.bitsM hA rfl rfl rfl rfl) ?_) | (refine QX.k 7 ?_; first | refine QX.one rfl (One.concatM hA rfl rfl rfl ?_) ?_) | (refine QX.k 8 ?_; first | refine QX.one rfl (One.eqBoolM hA tabOk rfl rfl rfl rfl rfl) ?_) | (refine QX.k 9 ?_; first | refine QX.one rfl (One.neBoolM hA tabOk rfl rfl rfl rfl rfl) ?_) | (refine QX.k 10 ?_; first | refine QX.one rfl (One.lenOwnM hA tabOk rfl rfl rfl rfl) ?_) | (refine QX.k 11 ?_; first | refine QX.one rfl (One.appendM hA tabOk _ rfl rfl rfl rfl rfl rfl ?_ ?_) ?_ | refine QX.one rfl (One.appendMM hA tabOk rfl rfl rfl rfl rfl ?_ ?_) ?_ | refine QX.one rfl (One.appendOwnM hA tabOk _ rfl rfl rfl rfl rfl rfl rfl ?_ ?_) ?_ | refine QX.one rfl (One.appendOwnMM hA tabOk rfl rfl rfl rfl rfl rfl ?_ ?_) ?_ | refine QX.one rfl (One.appendOwn0 hA tabOk rfl rfl rfl rfl rfl rfl ?_ ?_) ?_) | (refine QX.k 13 ?_; first | refine QX.one rfl (One.byteM hA tabOk rfl rfl rfl rfl rfl ?_ ?_) ?_) | (refine QX.k 14 ?_; first | refine QX.one rfl (One.loadRatM hA tabOk rfl rfl rfl rfl rfl rfl ?_) ?_) | (refine QX.k 15 ?_; first | refine QX.one rfl (One.storeRatM hA tabOk _ rfl rfl rfl rfl rfl rfl rfl rfl (fun _ => rfl) ?_) ?_) | (refine QX.k 16 ?_; first | refine QX.one rfl (One.makeM hA tabOk encI 0 rfl rfl rfl rfl rfl rfl rfl ?_ ?_ ?_) ?_) | (refine QX.k 17 ?_; first | refine QX.one rfl (One.build0 tabOk rfl rfl) ?_) | (refine QX.k 18 ?_; first | refine QX.one rfl (One.fieldRat tabOk rfl rfl rfl rfl (by decide) rfl rfl) ?_)) <;> (first | refine QSg.pass ?_ | (((try simp only [zn]) <;> (try simp (disch := omega) only [zz hA, zb, zy, reduceCtorEq, Bool.false_eq_true, Int.reduceLT, Int.reduceLE, Int.reduceNeg]) <;> (try simp only [zw])) <;> omega)))
        | refine QX.raw ?_)
    | refine Thn.exit ?_
    | refine Blk.here ?_
    | refine Blk.other (by decide) ?_
    | refine ⟨.inl rfl, _, RetOk.ev tabOk (by conv => lhs; cbv), ?_⟩
    | fail)
  all_goals first
    | (exfalso; simp at *; done)
    | (refine rPV_then (by conv => lhs; cbv) ?_
       simp [hA, real, hid])
end Go.Proofs.Ytinehodamekjgaa.Aw

/- The plain law of joins. -/
set_option linter.unusedVariables false
set_option linter.unusedSimpArgs false
set_option linter.unusedSectionVars false
namespace Go.Proofs.Ytinehodamekjgaa.Aw
open Go Go.RowKit
theorem getD_setU (V : List Int) (r : Nat) (p : Int) (hr : r < V.length) (n : Nat) : (V.set r p).getD n default = if n = r then p else V.getD n default := by
  simp only [List.getD_eq_getElem?_getD, List.getElem?_set]
  by_cases h : n = r
  · subst h; simp [hr]
  · simp [h, Ne.symm h]
section
variable {V ranks : List Int} (hR : RightU V ranks) {p r : Int} (p0 : 0 ≤ p) (p1 : p < V.length) (r0 : 0 ≤ r) (r1 : r < V.length) (hp : V.getD p.toNat default = p) (hr : V.getD r.toNat default = r) (hl : lessM ranks p r = true)
include hR p0 p1 r0 r1 hl
theorem set_right : RightU (V.set r.toNat p) ranks := by
  constructor
  intro n hn
  rw [List.length_set] at hn ⊢
  rw [getD_setU _ _ _ (by omega)]
  by_cases h : n = r.toNat
  · rw [if_pos h]
    refine .inr ⟨p0, p1, ?_⟩
    rw [h, show ((r.toNat : Nat) : Int) = r by omega]; exact hl
  · rw [if_neg h]; exact hR.ok n hn
include hp hr
theorem set_find (m : Nat) {n : Int} (h0 : 0 ≤ n) (h1 : n < V.length) (hm : muU V ranks n ≤ m) : findU (V.set r.toNat p) n = if findU V n = r then p else findU V n := by
  have hR' := set_right hR p0 p1 r0 r1 hl
  have hpr : p ≠ r := by rintro rfl; rw [less_irr] at hl; cases hl
  have root : ∀ {k : Int}, V.getD k.toNat default = k → findU V k = k := fun h => iterF_root h _
  have root' : ∀ {k : Int}, (V.set r.toNat p).getD k.toNat default = k → findU (V.set r.toNat p) k = k := fun h => iterF_root h _
  have gp : (V.set r.toNat p).getD p.toNat default = p := by rw [getD_setU _ _ _ (by omega), if_neg (by omega), hp]
  induction m generalizing n with
  | zero =>
    rcases hR.ok n.toNat (by omega) with h | ⟨a, b, c⟩
    · have h' : V.getD n.toNat default = n := by rw [h]; omega
      rw [root h']
      by_cases e : n = r
      · subst e
        rw [if_pos rfl, ← find_step hR' h0 (by simpa using h1), getD_setU _ _ _ (by omega), if_pos rfl]
        exact root' gp
      · rw [if_neg e]
        refine root' ?_
        rw [getD_setU _ _ _ (by omega), if_neg (by omega), h']
    · rw [show ((n.toNat : Nat) : Int) = n by omega] at c
      have := muU_lt a b c
      omega
  | succ m ih =>
    rcases hR.ok n.toNat (by omega) with h | ⟨a, b, c⟩
    · have h' : V.getD n.toNat default = n := by rw [h]; omega
      rw [root h']
      by_cases e : n = r
      · subst e
        rw [if_pos rfl, ← find_step hR' h0 (by simpa using h1), getD_setU _ _ _ (by omega), if_pos rfl]
        exact root' gp
      · rw [if_neg e]
        refine root' ?_
        rw [getD_setU _ _ _ (by omega), if_neg (by omega), h']
    · rw [show ((n.toNat : Nat) : Int) = n by omega] at c
      have hmu := muU_lt a b c
      have e : n ≠ r := by
        rintro rfl
        rw [hr, less_irr] at c; cases c
      rw [← find_step hR' h0 (by simpa using h1), getD_setU _ _ _ (by omega), if_neg (by omega), ← find_step hR h0 h1]
      exact ih a b (by omega)
end
section
variable {V ranks : List Int} (hR : RightU V ranks) {a b : Int} (a0 : 0 ≤ a) (a1 : a < V.length) (b0 : 0 ≤ b) (b1 : b < V.length)
include hR a0 a1 b0 b1
theorem joinP_ok (h : findU V a ≠ findU V b) : lessM ranks (joinP V ranks a b).1 (joinP V ranks a b).2 = true ∧ ((joinP V ranks a b).1 = findU V a ∧ (joinP V ranks a b).2 = findU V b ∨ (joinP V ranks a b).1 = findU V b ∧ (joinP V ranks a b).2 = findU V a) := by
  unfold joinP
  cases hc : lessM ranks (findU V b) (findU V a) with
  | true => exact ⟨hc, .inr ⟨rfl, rfl⟩⟩
  | false =>
    rcases less_tri ranks h with k | k
    · exact ⟨k, .inl ⟨rfl, rfl⟩⟩
    · rw [hc] at k; cases k
theorem joinV_right : RightU (joinV V ranks a b) ranks := by
  unfold joinV
  split
  · exact hR
  · next h =>
    have ha := find_range hR a0 a1
    have hb := find_range hR b0 b1
    rcases joinP_ok hR a0 a1 b0 b1 h with ⟨hl, ⟨e, e'⟩ | ⟨e, e'⟩⟩ <;> rw [e, e'] at hl ⊢
    · exact set_right hR ha.1 ha.2 hb.1 hb.2 hl
    · exact set_right hR hb.1 hb.2 ha.1 ha.2 hl
theorem joinV_find {n : Int} (n0 : 0 ≤ n) (n1 : n < V.length) : findU (joinV V ranks a b) n = if findU V n = findU V a ∨ findU V n = findU V b then (joinP V ranks a b).1 else findU V n := by
  have ha := find_range hR a0 a1
  have hb := find_range hR b0 b1
  unfold joinV
  split
  · next h =>
    have : (joinP V ranks a b).1 = findU V a := by
      unfold joinP; split <;> simp [h]
    rw [this, ← h]
    split
    · next k => rcases k with k | k <;> exact k
    · rfl
  · next h =>
    rcases joinP_ok hR a0 a1 b0 b1 h with ⟨hl, ⟨e, e'⟩ | ⟨e, e'⟩⟩ <;> rw [e, e'] at hl ⊢
    · rw [set_find hR ha.1 ha.2 hb.1 hb.2 (find_fix hR a0 a1) (find_fix hR b0 b1) hl _ n0 n1 (Nat.le_refl _)]
      by_cases k : findU V n = findU V b
      · simp [k]
      · by_cases k' : findU V n = findU V a <;> simp [k, k']
    · rw [set_find hR hb.1 hb.2 ha.1 ha.2 (find_fix hR b0 b1) (find_fix hR a0 a1) hl _ n0 n1 (Nat.le_refl _)]
      by_cases k : findU V n = findU V a
      · simp [k]
      · by_cases k' : findU V n = findU V b <;> simp [k, k']
theorem joinP_sym (h : findU V a ≠ findU V b) : joinP V ranks a b = joinP V ranks b a := by
  unfold joinP
  cases hc : lessM ranks (findU V b) (findU V a) <;> cases hd : lessM ranks (findU V a) (findU V b)
  · rcases less_tri ranks h with k | k
    · rw [hd] at k; cases k
    · rw [hc] at k; cases k
  · rfl
  · rfl
  · have := less_trans hc hd
    rw [less_irr] at this; cases this
theorem joinV_sym : joinV V ranks a b = joinV V ranks b a := by
  unfold joinV
  by_cases h : findU V a = findU V b
  · rw [if_pos h, if_pos h.symm]
  · rw [if_neg h, if_neg (Ne.symm h), joinP_sym hR a0 a1 b0 b1 h]
theorem joinN_sym (N : List (Int × Int)) : joinN V ranks N a b = joinN V ranks N b a := by
  unfold joinN
  by_cases h : findU V a = findU V b
  · rw [if_pos h, if_pos h.symm]
  · rw [if_neg h, if_neg (Ne.symm h), joinP_sym hR a0 a1 b0 b1 h]
theorem joinV_same : findU (joinV V ranks a b) a = findU (joinV V ranks a b) b := by
  rw [joinV_find hR a0 a1 b0 b1 a0 a1, joinV_find hR a0 a1 b0 b1 b0 b1]
  simp
end
theorem joinV_len (V ranks : List Int) (a b : Int) : (joinV V ranks a b).length = V.length := by
  unfold joinV; split <;> simp
end Go.Proofs.Ytinehodamekjgaa.Aw

/- What the law of joins is walked with. -/
set_option linter.unusedVariables false
set_option linter.unusedSimpArgs false
namespace Go.Proofs.Ytinehodamekjgaa.Aw
open Go Go.RowKit
set_option maxRecDepth 10000
attribute [local irreducible] AWp AOL QS One AOLg QSg NX QX
theorem undoAppU (l1 l2 : List (Int × Int)) (v : List Int) : undoAll (l1 ++ l2) v = (undoAll l2 v).bind (undoAll l1) := by
  induction l1 generalizing l2 v with
  | nil => simp [undoAll]
  | cons n r ih => simp only [List.cons_append, undoAll, ih]; cases undoAll l2 v <;> simp
theorem mOkUpU {n n' p : Int} {r : List Int} (h : mOk n p r = true) (hn : n ≤ n') : mOk n' p r = true := by
  induction r generalizing p with
  | nil => rfl
  | cons m r ih =>
    simp only [mOk, Bool.and_eq_true, decide_eq_true_eq] at h ⊢
    exact ⟨⟨h.1.1, by omega⟩, ih h.2⟩
theorem set_undo {V : List Int} {p r : Int} (r0 : 0 ≤ r) (r1 : r < V.length) (hr : V.getD r.toNat default = r) : undo1 (r, r) (V.set r.toNat p) = some V := by
  unfold undo1
  rw [if_neg (by simp only; omega), if_pos (by simp only [List.length_set]; omega)]
  simp only [List.set_set, Option.some.injEq]
  refine List.ext_getElem? fun i => ?_
  rw [List.getElem?_set]
  split
  · next h =>
    subst h
    rw [if_pos (by omega)]
    rw [List.getD_eq_getElem?_getD, List.getElem?_eq_getElem (by omega)] at hr
    rw [List.getElem?_eq_getElem (by omega)]
    simp at hr
    simp [hr]
  · rfl
theorem join_right (c : Cl) {ranks : List Int} (hR : RightU c.V ranks) {a b : Int} (a0 : 0 ≤ a) (a1 : a < c.V.length) (b0 : 0 ≤ b) (b1 : b < c.V.length) (h : c.right = true) : (⟨joinV c.V ranks a b, joinN c.V ranks c.N a b, c.M⟩ : Cl).right = true := by
  unfold Cl.right at h ⊢
  unfold joinV joinN
  rw [Bool.and_eq_true] at h
  split
  · rw [Bool.and_eq_true]; exact h
  · next k =>
    have ha := find_range hR a0 a1
    have hb := find_range hR b0 b1
    rw [Bool.and_eq_true]
    refine ⟨mOkUpU h.1 (by simp only [List.length_append, List.length_cons, List.length_nil]; omega), ?_⟩
    simp only
    rw [undoAppU, undoAll, undoAll, Option.bind_some]
    rcases joinP_ok hR a0 a1 b0 b1 k with ⟨_, ⟨e, e'⟩ | ⟨e, e'⟩⟩ <;> rw [e, e']
    · rw [set_undo hb.1 hb.2 (find_fix hR b0 b1)]; exact h.2
    · rw [set_undo ha.1 ha.2 (find_fix hR a0 a1)]; exact h.2
theorem joinN_len (V ranks : List Int) (N : List (Int × Int)) (a b : Int) : (joinN V ranks N a b).length ≤ N.length + 1 := by
  unfold joinN; split <;> simp
variable {A : Ar} (hA : A = real)
include hA
theorem uInts_c (a b : List Int) (ha : a.length ≤ 1000000) (hb : b.length ≤ 1000000) : PureCalls Try.prog 22 [intsP A a, intsP A b] (BP (hid A (decide (a = b)))) := by
  have := refInts hA a b ha hb
  simp only [intsP, slP, hid_eq hA]
  exact this
end Go.Proofs.Ytinehodamekjgaa.Aw

/- The statement Joins, walked. -/
set_option linter.unusedVariables false
set_option linter.unusedSimpArgs false
namespace Go.Proofs.Ytinehodamekjgaa.Aw
open Go Go.RowKit
set_option maxRecDepth 10000
attribute [local irreducible] AWp AOL QS One AOLg QSg NX QX
variable {A : Ar} (hA : A = real)
include hA
set_option maxHeartbeats 4000000 in
theorem joins_law (V : List Int) (N : List (Int × Int)) (M ranks : List Int) (a b n : Int) (hV : V.length ≤ 140737488351232) (hN : N.length ≤ 140737488351232) (hM : M.length ≤ 140737488351232) (hr : ranks.length ≤ 140737488351232) : PureCalls Try.prog 8 [.agg [.sl 1 false (hid A (List.map encI V)), .sl 2 false (hid A (List.map encN N)), .sl 1 false (hid A (List.map encI M)), .sl 1 false (hid A (List.map encI ranks)), .lit (.int .i64 a), .lit (.int .i64 b), .lit (.int .i64 n)]] (BP true) := by
  have hfew := ufew_c hA V N M ranks hV hN hM
  by_cases hf : V.length + N.length + M.length ≤ 500 ∧ ranks.length ≤ 200
  · obtain ⟨hf1, hf2⟩ := hf
    rw [show decide (V.length + N.length + M.length ≤ 500 ∧ ranks.length ≤ 200) = true from decide_eq_true (by omega)] at hfew
    have hsm : (⟨V, N, M⟩ : Cl).small := ⟨by simp only; omega, by simp only; omega, by simp only; omega⟩
    have hri := refURight_c hA ⟨V, N, M⟩ hsm ranks (by omega)
    by_cases hg : (rightB V ranks && (⟨V, N, M⟩ : Cl).right) = true ∧ (0 ≤ a ∧ a < V.length) ∧ (0 ≤ b ∧ b < V.length) ∧ (0 ≤ n ∧ n < V.length)
    · obtain ⟨g1, ga, gb, gn⟩ := hg
      rw [g1] at hri
      have hR : RightU V ranks := (rightB_iff _ _).1 (by revert g1; cases rightB V ranks <;> simp)
      have hR' := joinV_right hR ga.1 ga.2 gb.1 gb.2
      have hl := joinV_len V ranks a b
      have hl2 := joinN_len V ranks N a b
      have hrr : (⟨V, N, M⟩ : Cl).right = true := by revert g1; cases Cl.right ⟨V, N, M⟩ <;> simp
      have hsx : (⟨joinV V ranks a b, joinN V ranks N a b, M⟩ : Cl).small := ⟨by simp only; omega, by simp only; omega, by simp only; omega⟩
      have hrx := refURight_c hA _ hsx ranks (by omega)
      rw [join_right ⟨V, N, M⟩ hR ga.1 ga.2 gb.1 gb.2 hrr, (rightB_iff _ _).2 hR'] at hrx
      simp only [Bool.and_self] at hrx
      have hj1 := join_c hA V N M ranks hR a b ga gb (by omega) (by omega) (by omega)
      have hj2 := join_c hA V N M ranks hR b a gb ga (by omega) (by omega) (by omega)
      rw [← joinV_sym hR ga.1 ga.2 gb.1 gb.2, ← joinN_sym hR ga.1 ga.2 gb.1 gb.2] at hj2
      have jf : ∀ {n : Int}, 0 ≤ n → n < V.length → findU (joinV V ranks a b) n = if findU V n = findU V a ∨ findU V n = findU V b then (joinP V ranks a b).1 else findU V n := fun h0 h1 => joinV_find hR ga.1 ga.2 gb.1 gb.2 h0 h1
      generalize joinV V ranks a b = X at hj1 hj2 hrx jf hR' hl hsx
      generalize joinN V ranks N a b = Y at hj1 hj2 hrx hl2 hsx
      have hin := uInts_c hA X X (by omega) (by omega)
      rw [decide_eq_true rfl] at hin
      have rx := find_range hR' (n := n) gn.1 (by omega)
      have ra := find_range hR' (n := a) ga.1 (by omega)
      have rb := find_range hR' (n := b) gb.1 (by omega)
      have hff := find_find hR' (n := n) gn.1 (by omega)
      have h1 := jf ga.1 ga.2
      have h2 := jf gb.1 gb.2
      have h3 := jf gn.1 gn.2
      simp only [true_or, or_true, if_true] at h1 h2
      have h4 : (joinP V ranks a b).1 = findU V a ∨ (joinP V ranks a b).1 = findU V b := by unfold joinP; split <;> simp
      have key : ∀ c1 : PureCalls Try.prog 29 [intsP A ranks, IP (hid A (findU X n)), IP n] (BP (hid A (lessM ranks (findU X n) n))), findU X n = n ∨ PureCalls Try.prog 29 [intsP A ranks, IP (hid A (findU X n)), IP n] (BP true) := fun c1 => by
        rcases find_less hR' gn.1 (by omega) X.length with h | h
        · exact .inl h
        · right
          have h : lessM ranks (findU X n) n = true := h
          rwa [h, hid_eq hA (α := Bool)] at c1
      have key := key (by have := less_c hA ranks (hid A (findU X n)) n (by omega); simpa only [hid_eq hA] using this)
      by_cases e1 : findU V n = findU V a
      all_goals by_cases e2 : findU V n = findU V b
      all_goals simp only [e1, e2, true_or, or_true, or_self, if_true, if_false] at h3
      all_goals rcases key with key | key
      all_goals
        refine PureCalls.of Try.func8 rfl (by kernel_rfl) rfl ?_
        try first | refine AOLg.of [] ?_ | refine QSg.of [] ?_
        repeat' (first
          | (refine AWp.pass ?_; first
              | refine AWp.seq ?_
              | refine AWp.block ?_
              | refine AWp.skip ?_
              | refine AWp.regG [] (by conv => lhs; cbv) ?_
              | refine AWp.cond_t rfl ?_
              | refine AWp.cond_f rfl ?_
              | (refine AWp.cond rfl ?_ ?_ <;> intro hc <;> (try rw [hc]) <;> ((try simp only [zn] at hc) <;> (try simp (disch := omega) only [zz hA, zb, zy, reduceCtorEq, Bool.false_eq_true, Int.reduceLT, Int.reduceLE, Int.reduceNeg] at hc) <;> (try simp only [zw] at hc)) <;> (try (exfalso; omega)))
              | refine AWp.exit ?_
              | refine AWp.ret ⟨.inr rfl, _, RetOk.ev tabOk (by conv => lhs; cbv), ?_⟩
              | refine AWp.drawKG [] 0 rfl (by decide +kernel) (by conv => lhs; cbv) (by conv => lhs; cbv) ?_
              | refine AWp.drawKG [] 1 rfl (by decide +kernel) (by conv => lhs; cbv) (by conv => lhs; cbv) ?_
              | refine AWp.drawKG [] 2 rfl (by decide +kernel) (by conv => lhs; cbv) (by conv => lhs; cbv) ?_
              | refine AWp.drawKG [] 3 rfl (by decide +kernel) (by conv => lhs; cbv) (by conv => lhs; cbv) ?_
              | refine AWp.drawKG [] 4 rfl (by decide +kernel) (by conv => lhs; cbv) (by conv => lhs; cbv) ?_
              | refine AWp.drawKG [] 5 rfl (by decide +kernel) (by conv => lhs; cbv) (by conv => lhs; cbv) ?_
              | refine AWp.drawKG [] 6 rfl (by decide +kernel) (by conv => lhs; cbv) (by conv => lhs; cbv) ?_
              | refine AWp.drawKG [] 8 rfl (by decide +kernel) (by conv => lhs; cbv) (by conv => lhs; cbv) ?_)
          | (refine AOLg.pass ?_; refine AOLg.nx hA tabOk (by conv => lhs; cbv) ?_; first
              | refine NX.done ?_
              | refine NX.gt ?_
              | refine NX.gf ?_
              | (refine NX.gs ?_ ?_ <;> intro hc <;> rw [hc] <;> ((try simp only [zn] at hc) <;> (try simp (disch := omega) only [zz hA, zb, zy, reduceCtorEq, Bool.false_eq_true, Int.reduceLT, Int.reduceLE, Int.reduceNeg] at hc) <;> (try simp only [zw] at hc)) <;> (try (exfalso; omega)))
              | (refine NX.kC ?_; first | (with_reducible refine NX.call (shown5_c hA) ?_) | (with_reducible refine NX.call (hfew) ?_) | (with_reducible refine NX.call (hri) ?_) | (with_reducible refine NX.call (there_c hA _ _ _ _) ?_) | (with_reducible refine NX.call (hj1) ?_) | (with_reducible refine NX.call (hj2) ?_) | (with_reducible refine NX.call (hrx) ?_) | (with_reducible refine NX.call (hin) ?_) | (with_reducible refine NX.call (key) ?_) | ((with_reducible refine NX.call (find_c hA X Y M ranks hR' _ ?_ ?_) ?_) <;> (first | refine AOLg.pass ?_ | (((try simp only [zn]) <;> (try simp (disch := omega) only [zz hA, zb, zy, reduceCtorEq, Bool.false_eq_true, Int.reduceLT, Int.reduceLE, Int.reduceNeg]) <;> (try simp only [zw])) <;> omega))) | ((with_reducible refine NX.call (find_c hA V N M ranks hR _ ?_ ?_) ?_) <;> (first | refine AOLg.pass ?_ | (((try simp only [zn]) <;> (try simp (disch := omega) only [zz hA, zb, zy, reduceCtorEq, Bool.false_eq_true, Int.reduceLT, Int.reduceLE, Int.reduceNeg]) <;> (try simp only [zw])) <;> omega))) | ((first | refine NX.call (shown5_c hA) ?_ | refine NX.call (hfew) ?_ | refine NX.call (hri) ?_ | refine NX.call (there_c hA _ _ _ _) ?_ | refine NX.call (hj1) ?_ | refine NX.call (hj2) ?_ | refine NX.call (hrx) ?_ | refine NX.call (hin) ?_ | refine NX.call (key) ?_ | refine NX.call (find_c hA X Y M ranks hR' _ ?_ ?_) ?_ | refine NX.call (find_c hA V N M ranks hR _ ?_ ?_) ?_) <;> (first | refine AOLg.pass ?_ | (((try simp only [zn]) <;> (try simp (disch := omega) only [zz hA, zb, zy, reduceCtorEq, Bool.false_eq_true, Int.reduceLT, Int.reduceLE, Int.reduceNeg]) <;> (try simp only [zw])) <;> omega))) | fail)
              | (refine NX.kO ?_; (first | refine NX.callO (shown5_c hA) (by simp [allEq]) rfl ?_ | refine NX.callO (hfew) (by simp [allEq]) rfl ?_ | refine NX.callO (hri) (by simp [allEq]) rfl ?_ | refine NX.callO (there_c hA _ _ _ _) (by simp [allEq]) rfl ?_ | refine NX.callO (hj1) (by simp [allEq]) rfl ?_ | refine NX.callO (hj2) (by simp [allEq]) rfl ?_ | refine NX.callO (hrx) (by simp [allEq]) rfl ?_ | refine NX.callO (hin) (by simp [allEq]) rfl ?_ | refine NX.callO (key) (by simp [allEq]) rfl ?_ | refine NX.callO (find_c hA X Y M ranks hR' _ ?_ ?_) (by simp [allEq]) rfl ?_ | refine NX.callO (find_c hA V N M ranks hR _ ?_ ?_) (by simp [allEq]) rfl ?_) <;> (first | refine AOLg.pass ?_ | (((try simp only [zn]) <;> (try simp (disch := omega) only [zz hA, zb, zy, reduceCtorEq, Bool.false_eq_true, Int.reduceLT, Int.reduceLE, Int.reduceNeg]) <;> (try simp only [zw])) <;> omega)))
              | ((first | (refine NX.k 1 ?_; first | refine NX.one (One.elemM hA tabOk rfl rfl rfl rfl ?_ ?_) ?_ | refine NX.one (One.elemOwnM hA tabOk rfl rfl rfl rfl rfl ?_ ?_) ?_) | (refine NX.k 2 ?_; first | refine NX.one (One.clipM tabOk rfl rfl rfl rfl rfl ?_ ?_) ?_ | refine NX.one (One.cut_hM hA tabOk rfl rfl rfl rfl ?_ ?_) ?_ | refine NX.one (One.cut_lM hA tabOk rfl rfl rfl rfl ?_ ?_) ?_ | refine NX.one (One.cut_lhM hA tabOk rfl rfl rfl rfl rfl ?_ ?_ ?_) ?_) | (refine NX.k 3 ?_; first | refine NX.one (One.quoM hA rfl rfl rfl ?_) ?_) | (refine NX.k 4 ?_; first | refine NX.one (One.remM hA rfl rfl rfl ?_) ?_) | (refine NX.k 5 ?_; first | refine NX.one (One.shrM hA rfl rfl rfl ?_) ?_) | (refine NX.k 6 ?_; first | refine NX.one (One.bitsM hA rfl rfl rfl rfl) ?_) | (refine NX.k 7 ?_; first | refine NX.one (One.concatM hA rfl rfl rfl ?_) ?_) | (refine NX.k 8 ?_; first | refine NX.one (One.eqBoolM hA tabOk rfl rfl rfl rfl rfl) ?_) | (refine NX.k 9 ?_; first | refine NX.one (One.neBoolM hA tabOk rfl rfl rfl rfl rfl) ?_) | (refine NX.k 10 ?_; first | refine NX.one (One.lenOwnM hA tabOk rfl rfl rfl rfl) ?_) | (refine NX.k 11 ?_; first | refine NX.one (One.appendM hA tabOk _ rfl rfl rfl rfl rfl rfl ?_ ?_) ?_ | refine NX.one (One.appendMM hA tabOk rfl rfl rfl rfl rfl ?_ ?_) ?_ | refine NX.one (One.appendOwnM hA tabOk _ rfl rfl rfl rfl rfl rfl rfl ?_ ?_) ?_ | refine NX.one (One.appendOwnMM hA tabOk rfl rfl rfl rfl rfl rfl ?_ ?_) ?_ | refine NX.one (One.appendOwn0 hA tabOk rfl rfl rfl rfl rfl rfl ?_ ?_) ?_) | (refine NX.k 13 ?_; first | refine NX.one (One.byteM hA tabOk rfl rfl rfl rfl rfl ?_ ?_) ?_) | (refine NX.k 14 ?_; first | refine NX.one (One.loadRatM hA tabOk rfl rfl rfl rfl rfl rfl ?_) ?_) | (refine NX.k 15 ?_; first | refine NX.one (One.storeRatM hA tabOk _ rfl rfl rfl rfl rfl rfl rfl rfl (fun _ => rfl) ?_) ?_) | (refine NX.k 16 ?_; first | refine NX.one (One.makeM hA tabOk encI 0 rfl rfl rfl rfl rfl rfl rfl ?_ ?_ ?_) ?_) | (refine NX.k 17 ?_; first | refine NX.one (One.build0 tabOk rfl rfl) ?_) | (refine NX.k 18 ?_; first | refine NX.one (One.fieldRat tabOk rfl rfl rfl rfl (by decide) rfl rfl) ?_)) <;> (first | refine AOLg.pass ?_ | (((try simp only [zn]) <;> (try simp (disch := omega) only [zz hA, zb, zy, reduceCtorEq, Bool.false_eq_true, Int.reduceLT, Int.reduceLE, Int.reduceNeg]) <;> (try simp only [zw])) <;> omega)))
              | refine NX.raw ?_)
          | (refine QSg.pass ?_; refine QSg.nx hA tabOk (by conv => lhs; cbv) ?_; first
              | refine QX.done ?_
              | refine QX.gt ?_
              | refine QX.gf ?_
              | (refine QX.gs ?_ ?_ <;> intro hc <;> rw [hc] <;> ((try simp only [zn] at hc) <;> (try simp (disch := omega) only [zz hA, zb, zy, reduceCtorEq, Bool.false_eq_true, Int.reduceLT, Int.reduceLE, Int.reduceNeg] at hc) <;> (try simp only [zw] at hc)) <;> (try (exfalso; omega)))
              | (refine QX.kC ?_; first | (with_reducible refine QX.call (shown5_c hA) rfl ?_) | (with_reducible refine QX.call (hfew) rfl ?_) | (with_reducible refine QX.call (hri) rfl ?_) | (with_reducible refine QX.call (there_c hA _ _ _ _) rfl ?_) | (with_reducible refine QX.call (hj1) rfl ?_) | (with_reducible refine QX.call (hj2) rfl ?_) | (with_reducible refine QX.call (hrx) rfl ?_) | (with_reducible refine QX.call (hin) rfl ?_) | (with_reducible refine QX.call (key) rfl ?_) | ((with_reducible refine QX.call (find_c hA X Y M ranks hR' _ ?_ ?_) rfl ?_) <;> (first | refine QSg.pass ?_ | (((try simp only [zn]) <;> (try simp (disch := omega) only [zz hA, zb, zy, reduceCtorEq, Bool.false_eq_true, Int.reduceLT, Int.reduceLE, Int.reduceNeg]) <;> (try simp only [zw])) <;> omega))) | ((with_reducible refine QX.call (find_c hA V N M ranks hR _ ?_ ?_) rfl ?_) <;> (first | refine QSg.pass ?_ | (((try simp only [zn]) <;> (try simp (disch := omega) only [zz hA, zb, zy, reduceCtorEq, Bool.false_eq_true, Int.reduceLT, Int.reduceLE, Int.reduceNeg]) <;> (try simp only [zw])) <;> omega))) | ((first | refine QX.call (shown5_c hA) rfl ?_ | refine QX.call (hfew) rfl ?_ | refine QX.call (hri) rfl ?_ | refine QX.call (there_c hA _ _ _ _) rfl ?_ | refine QX.call (hj1) rfl ?_ | refine QX.call (hj2) rfl ?_ | refine QX.call (hrx) rfl ?_ | refine QX.call (hin) rfl ?_ | refine QX.call (key) rfl ?_ | refine QX.call (find_c hA X Y M ranks hR' _ ?_ ?_) rfl ?_ | refine QX.call (find_c hA V N M ranks hR _ ?_ ?_) rfl ?_) <;> (first | refine QSg.pass ?_ | (((try simp only [zn]) <;> (try simp (disch := omega) only [zz hA, zb, zy, reduceCtorEq, Bool.false_eq_true, Int.reduceLT, Int.reduceLE, Int.reduceNeg]) <;> (try simp only [zw])) <;> omega))) | fail)
              | (refine QX.kO ?_; (first | refine QX.callO (shown5_c hA) rfl (by simp [allEq]) rfl ?_ | refine QX.callO (hfew) rfl (by simp [allEq]) rfl ?_ | refine QX.callO (hri) rfl (by simp [allEq]) rfl ?_ | refine QX.callO (there_c hA _ _ _ _) rfl (by simp [allEq]) rfl ?_ | refine QX.callO (hj1) rfl (by simp [allEq]) rfl ?_ | refine QX.callO (hj2) rfl (by simp [allEq]) rfl ?_ | refine QX.callO (hrx) rfl (by simp [allEq]) rfl ?_ | refine QX.callO (hin) rfl (by simp [allEq]) rfl ?_ | refine QX.callO (key) rfl (by simp [allEq]) rfl ?_ | refine QX.callO (find_c hA X Y M ranks hR' _ ?_ ?_) rfl (by simp [allEq]) rfl ?_ | refine QX.callO (find_c hA V N M ranks hR _ ?_ ?_) rfl (by simp [allEq]) rfl ?_) <;> (first | refine QSg.pass ?_ | (((try simp only [zn]) <;> (try simp (disch := omega) only [zz hA, zb, zy, reduceCtorEq, Bool.false_eq_true, Int.reduceLT, Int.reduceLE, Int.reduceNeg]) <;> (try simp only [zw])) <;> omega)))
              | ((first | (refine QX.k 1 ?_; first | refine QX.one rfl (One.elemM hA tabOk rfl rfl rfl rfl ?_ ?_) ?_ | refine QX.one rfl (One.elemOwnM hA tabOk rfl rfl rfl rfl rfl ?_ ?_) ?_) | (refine QX.k 2 ?_; first | refine QX.one rfl (One.clipM tabOk rfl rfl rfl rfl rfl ?_ ?_) ?_ | refine QX.one rfl (One.cut_hM hA tabOk rfl rfl rfl rfl ?_ ?_) ?_ | refine QX.one rfl (One.cut_lM hA tabOk rfl rfl rfl rfl ?_ ?_) ?_ | refine QX.one rfl (One.cut_lhM hA tabOk rfl rfl rfl rfl rfl ?_ ?_ ?_) ?_) | (refine QX.k 3 ?_; first | refine QX.one rfl (One.quoM hA rfl rfl rfl ?_) ?_) | (refine QX.k 4 ?_; first | refine QX.one rfl (One.remM hA rfl rfl rfl ?_) ?_) | (refine QX.k 5 ?_; first | refine QX.one rfl (One.shrM hA rfl rfl rfl ?_) ?_) | (refine QX.k 6 ?_; first | refine QX.one rfl (One.bitsM hA rfl rfl rfl rfl) ?_) | (refine QX.k 7 ?_; first | refine QX.one rfl (One.concatM hA rfl rfl rfl ?_) ?_) | (refine QX.k 8 ?_; first | refine QX.one rfl (One.eqBoolM hA tabOk rfl rfl rfl rfl rfl) ?_) | (refine QX.k 9 ?_; first | refine QX.one rfl (One.neBoolM hA tabOk rfl rfl rfl rfl rfl) ?_) | (refine QX.k 10 ?_; first | refine QX.one rfl (One.lenOwnM hA tabOk rfl rfl rfl rfl) ?_) | (refine QX.k 11 ?_; first | refine QX.one rfl (One.appendM hA tabOk _ rfl rfl rfl rfl rfl rfl ?_ ?_) ?_ | refine QX.one rfl (One.appendMM hA tabOk rfl rfl rfl rfl rfl ?_ ?_) ?_ | refine QX.one rfl (One.appendOwnM hA tabOk _ rfl rfl rfl rfl rfl rfl rfl ?_ ?_) ?_ | refine QX.one rfl (One.appendOwnMM hA tabOk rfl rfl rfl rfl rfl rfl ?_ ?_) ?_ | refine QX.one rfl (One.appendOwn0 hA tabOk rfl rfl rfl rfl rfl rfl ?_ ?_) ?_) | (refine QX.k 13 ?_; first | refine QX.one rfl (One.byteM hA tabOk rfl rfl rfl rfl rfl ?_ ?_) ?_) | (refine QX.k 14 ?_; first | refine QX.one rfl (One.loadRatM hA tabOk rfl rfl rfl rfl rfl rfl ?_) ?_) | (refine QX.k 15 ?_; first | refine QX.one rfl (One.storeRatM hA tabOk _ rfl rfl rfl rfl rfl rfl rfl rfl (fun _ => rfl) ?_) ?_) | (refine QX.k 16 ?_; first | refine QX.one rfl (One.makeM hA tabOk encI 0 rfl rfl rfl rfl rfl rfl rfl ?_ ?_ ?_) ?_) | (refine QX.k 17 ?_; first | refine QX.one rfl (One.build0 tabOk rfl rfl) ?_) | (refine QX.k 18 ?_; first | refine QX.one rfl (One.fieldRat tabOk rfl rfl rfl rfl (by decide) rfl rfl) ?_)) <;> (first | refine QSg.pass ?_ | (((try simp only [zn]) <;> (try simp (disch := omega) only [zz hA, zb, zy, reduceCtorEq, Bool.false_eq_true, Int.reduceLT, Int.reduceLE, Int.reduceNeg]) <;> (try simp only [zw])) <;> omega)))
              | refine QX.raw ?_)
          | refine Thn.exit ?_
          | refine Blk.here ?_
          | refine Blk.other (by decide) ?_
          | refine ⟨.inl rfl, _, RetOk.ev tabOk (by conv => lhs; cbv), ?_⟩
          | fail)
      all_goals try simp only [zb, reduceCtorEq] at *
      all_goals first
        | (exfalso; omega)
        | (refine rPV_then (by conv => lhs; cbv) ?_
           simp [hA, real, hid]; done)
        | (refine rPV_then (by conv => lhs; cbv) ?_
           simp [hA, real, hid]; omega)
        | skip
    · refine PureCalls.of Try.func8 rfl (by kernel_rfl) rfl ?_
      try first | refine AOLg.of [] ?_ | refine QSg.of [] ?_
      repeat' (first
        | (refine AWp.pass ?_; first
            | refine AWp.seq ?_
            | refine AWp.block ?_
            | refine AWp.skip ?_
            | refine AWp.regG [] (by conv => lhs; cbv) ?_
            | refine AWp.cond_t rfl ?_
            | refine AWp.cond_f rfl ?_
            | (refine AWp.cond rfl ?_ ?_ <;> intro hc <;> (try rw [hc]) <;> ((try simp only [zn] at hc) <;> (try simp (disch := omega) only [zz hA, zb, zy, reduceCtorEq, Bool.false_eq_true, Int.reduceLT, Int.reduceLE, Int.reduceNeg] at hc) <;> (try simp only [zw] at hc)) <;> (try (exfalso; omega)))
            | refine AWp.exit ?_
            | refine AWp.ret ⟨.inr rfl, _, RetOk.ev tabOk (by conv => lhs; cbv), ?_⟩
            | refine AWp.drawKG [] 0 rfl (by decide +kernel) (by conv => lhs; cbv) (by conv => lhs; cbv) ?_
            | refine AWp.drawKG [] 1 rfl (by decide +kernel) (by conv => lhs; cbv) (by conv => lhs; cbv) ?_
            | refine AWp.drawKG [] 2 rfl (by decide +kernel) (by conv => lhs; cbv) (by conv => lhs; cbv) ?_
            | refine AWp.drawKG [] 3 rfl (by decide +kernel) (by conv => lhs; cbv) (by conv => lhs; cbv) ?_
            | refine AWp.drawKG [] 4 rfl (by decide +kernel) (by conv => lhs; cbv) (by conv => lhs; cbv) ?_
            | refine AWp.drawKG [] 5 rfl (by decide +kernel) (by conv => lhs; cbv) (by conv => lhs; cbv) ?_
            | refine AWp.drawKG [] 6 rfl (by decide +kernel) (by conv => lhs; cbv) (by conv => lhs; cbv) ?_
            | refine AWp.drawKG [] 8 rfl (by decide +kernel) (by conv => lhs; cbv) (by conv => lhs; cbv) ?_)
        | (refine AOLg.pass ?_; refine AOLg.nx hA tabOk (by conv => lhs; cbv) ?_; first
            | refine NX.done ?_
            | refine NX.gt ?_
            | refine NX.gf ?_
            | (refine NX.gs ?_ ?_ <;> intro hc <;> rw [hc] <;> ((try simp only [zn] at hc) <;> (try simp (disch := omega) only [zz hA, zb, zy, reduceCtorEq, Bool.false_eq_true, Int.reduceLT, Int.reduceLE, Int.reduceNeg] at hc) <;> (try simp only [zw] at hc)) <;> (try (exfalso; omega)))
            | (refine NX.kC ?_; first | (with_reducible refine NX.call (shown5_c hA) ?_) | (with_reducible refine NX.call (hfew) ?_) | (with_reducible refine NX.call (hri) ?_) | (with_reducible refine NX.call (there_c hA V N M a) ?_) | (with_reducible refine NX.call (there_c hA V N M b) ?_) | (with_reducible refine NX.call (there_c hA V N M n) ?_) | ((first | refine NX.call (shown5_c hA) ?_ | refine NX.call (hfew) ?_ | refine NX.call (hri) ?_ | refine NX.call (there_c hA V N M a) ?_ | refine NX.call (there_c hA V N M b) ?_ | refine NX.call (there_c hA V N M n) ?_)) | fail)
            | (refine NX.kO ?_; (first | refine NX.callO (shown5_c hA) (by simp [allEq]) rfl ?_ | refine NX.callO (hfew) (by simp [allEq]) rfl ?_ | refine NX.callO (hri) (by simp [allEq]) rfl ?_ | refine NX.callO (there_c hA V N M a) (by simp [allEq]) rfl ?_ | refine NX.callO (there_c hA V N M b) (by simp [allEq]) rfl ?_ | refine NX.callO (there_c hA V N M n) (by simp [allEq]) rfl ?_))
            | ((first | (refine NX.k 1 ?_; first | refine NX.one (One.elemM hA tabOk rfl rfl rfl rfl ?_ ?_) ?_ | refine NX.one (One.elemOwnM hA tabOk rfl rfl rfl rfl rfl ?_ ?_) ?_) | (refine NX.k 2 ?_; first | refine NX.one (One.clipM tabOk rfl rfl rfl rfl rfl ?_ ?_) ?_ | refine NX.one (One.cut_hM hA tabOk rfl rfl rfl rfl ?_ ?_) ?_ | refine NX.one (One.cut_lM hA tabOk rfl rfl rfl rfl ?_ ?_) ?_ | refine NX.one (One.cut_lhM hA tabOk rfl rfl rfl rfl rfl ?_ ?_ ?_) ?_) | (refine NX.k 3 ?_; first | refine NX.one (One.quoM hA rfl rfl rfl ?_) ?_) | (refine NX.k 4 ?_; first | refine NX.one (One.remM hA rfl rfl rfl ?_) ?_) | (refine NX.k 5 ?_; first | refine NX.one (One.shrM hA rfl rfl rfl ?_) ?_) | (refine NX.k 6 ?_; first | refine NX.one (One.bitsM hA rfl rfl rfl rfl) ?_) | (refine NX.k 7 ?_; first | refine NX.one (One.concatM hA rfl rfl rfl ?_) ?_) | (refine NX.k 8 ?_; first | refine NX.one (One.eqBoolM hA tabOk rfl rfl rfl rfl rfl) ?_) | (refine NX.k 9 ?_; first | refine NX.one (One.neBoolM hA tabOk rfl rfl rfl rfl rfl) ?_) | (refine NX.k 10 ?_; first | refine NX.one (One.lenOwnM hA tabOk rfl rfl rfl rfl) ?_) | (refine NX.k 11 ?_; first | refine NX.one (One.appendM hA tabOk _ rfl rfl rfl rfl rfl rfl ?_ ?_) ?_ | refine NX.one (One.appendMM hA tabOk rfl rfl rfl rfl rfl ?_ ?_) ?_ | refine NX.one (One.appendOwnM hA tabOk _ rfl rfl rfl rfl rfl rfl rfl ?_ ?_) ?_ | refine NX.one (One.appendOwnMM hA tabOk rfl rfl rfl rfl rfl rfl ?_ ?_) ?_ | refine NX.one (One.appendOwn0 hA tabOk rfl rfl rfl rfl rfl rfl ?_ ?_) ?_) | (refine NX.k 13 ?_; first | refine NX.one (One.byteM hA tabOk rfl rfl rfl rfl rfl ?_ ?_) ?_) | (refine NX.k 14 ?_; first | refine NX.one (One.loadRatM hA tabOk rfl rfl rfl rfl rfl rfl ?_) ?_) | (refine NX.k 15 ?_; first | refine NX.one (One.storeRatM hA tabOk _ rfl rfl rfl rfl rfl rfl rfl rfl (fun _ => rfl) ?_) ?_) | (refine NX.k 16 ?_; first | refine NX.one (One.makeM hA tabOk encI 0 rfl rfl rfl rfl rfl rfl rfl ?_ ?_ ?_) ?_) | (refine NX.k 17 ?_; first | refine NX.one (One.build0 tabOk rfl rfl) ?_) | (refine NX.k 18 ?_; first | refine NX.one (One.fieldRat tabOk rfl rfl rfl rfl (by decide) rfl rfl) ?_)) <;> (first | refine AOLg.pass ?_ | (((try simp only [zn]) <;> (try simp (disch := omega) only [zz hA, zb, zy, reduceCtorEq, Bool.false_eq_true, Int.reduceLT, Int.reduceLE, Int.reduceNeg]) <;> (try simp only [zw])) <;> omega)))
            | refine NX.raw ?_)
        | (refine QSg.pass ?_; refine QSg.nx hA tabOk (by conv => lhs; cbv) ?_; first
            | refine QX.done ?_
            | refine QX.gt ?_
            | refine QX.gf ?_
            | (refine QX.gs ?_ ?_ <;> intro hc <;> rw [hc] <;> ((try simp only [zn] at hc) <;> (try simp (disch := omega) only [zz hA, zb, zy, reduceCtorEq, Bool.false_eq_true, Int.reduceLT, Int.reduceLE, Int.reduceNeg] at hc) <;> (try simp only [zw] at hc)) <;> (try (exfalso; omega)))
            | (refine QX.kC ?_; first | (with_reducible refine QX.call (shown5_c hA) rfl ?_) | (with_reducible refine QX.call (hfew) rfl ?_) | (with_reducible refine QX.call (hri) rfl ?_) | (with_reducible refine QX.call (there_c hA V N M a) rfl ?_) | (with_reducible refine QX.call (there_c hA V N M b) rfl ?_) | (with_reducible refine QX.call (there_c hA V N M n) rfl ?_) | ((first | refine QX.call (shown5_c hA) rfl ?_ | refine QX.call (hfew) rfl ?_ | refine QX.call (hri) rfl ?_ | refine QX.call (there_c hA V N M a) rfl ?_ | refine QX.call (there_c hA V N M b) rfl ?_ | refine QX.call (there_c hA V N M n) rfl ?_)) | fail)
            | (refine QX.kO ?_; (first | refine QX.callO (shown5_c hA) rfl (by simp [allEq]) rfl ?_ | refine QX.callO (hfew) rfl (by simp [allEq]) rfl ?_ | refine QX.callO (hri) rfl (by simp [allEq]) rfl ?_ | refine QX.callO (there_c hA V N M a) rfl (by simp [allEq]) rfl ?_ | refine QX.callO (there_c hA V N M b) rfl (by simp [allEq]) rfl ?_ | refine QX.callO (there_c hA V N M n) rfl (by simp [allEq]) rfl ?_))
            | ((first | (refine QX.k 1 ?_; first | refine QX.one rfl (One.elemM hA tabOk rfl rfl rfl rfl ?_ ?_) ?_ | refine QX.one rfl (One.elemOwnM hA tabOk rfl rfl rfl rfl rfl ?_ ?_) ?_) | (refine QX.k 2 ?_; first | refine QX.one rfl (One.clipM tabOk rfl rfl rfl rfl rfl ?_ ?_) ?_ | refine QX.one rfl (One.cut_hM hA tabOk rfl rfl rfl rfl ?_ ?_) ?_ | refine QX.one rfl (One.cut_lM hA tabOk rfl rfl rfl rfl ?_ ?_) ?_ | refine QX.one rfl (One.cut_lhM hA tabOk rfl rfl rfl rfl rfl ?_ ?_ ?_) ?_) | (refine QX.k 3 ?_; first | refine QX.one rfl (One.quoM hA rfl rfl rfl ?_) ?_) | (refine QX.k 4 ?_; first | refine QX.one rfl (One.remM hA rfl rfl rfl ?_) ?_) | (refine QX.k 5 ?_; first | refine QX.one rfl (One.shrM hA rfl rfl rfl ?_) ?_) | (refine QX.k 6 ?_; first | refine QX.one rfl (One.bitsM hA rfl rfl rfl rfl) ?_) | (refine QX.k 7 ?_; first | refine QX.one rfl (One.concatM hA rfl rfl rfl ?_) ?_) | (refine QX.k 8 ?_; first | refine QX.one rfl (One.eqBoolM hA tabOk rfl rfl rfl rfl rfl) ?_) | (refine QX.k 9 ?_; first | refine QX.one rfl (One.neBoolM hA tabOk rfl rfl rfl rfl rfl) ?_) | (refine QX.k 10 ?_; first | refine QX.one rfl (One.lenOwnM hA tabOk rfl rfl rfl rfl) ?_) | (refine QX.k 11 ?_; first | refine QX.one rfl (One.appendM hA tabOk _ rfl rfl rfl rfl rfl rfl ?_ ?_) ?_ | refine QX.one rfl (One.appendMM hA tabOk rfl rfl rfl rfl rfl ?_ ?_) ?_ | refine QX.one rfl (One.appendOwnM hA tabOk _ rfl rfl rfl rfl rfl rfl rfl ?_ ?_) ?_ | refine QX.one rfl (One.appendOwnMM hA tabOk rfl rfl rfl rfl rfl rfl ?_ ?_) ?_ | refine QX.one rfl (One.appendOwn0 hA tabOk rfl rfl rfl rfl rfl rfl ?_ ?_) ?_) | (refine QX.k 13 ?_; first | refine QX.one rfl (One.byteM hA tabOk rfl rfl rfl rfl rfl ?_ ?_) ?_) | (refine QX.k 14 ?_; first | refine QX.one rfl (One.loadRatM hA tabOk rfl rfl rfl rfl rfl rfl ?_) ?_) | (refine QX.k 15 ?_; first | refine QX.one rfl (One.storeRatM hA tabOk _ rfl rfl rfl rfl rfl rfl rfl rfl (fun _ => rfl) ?_) ?_) | (refine QX.k 16 ?_; first | refine QX.one rfl (One.makeM hA tabOk encI 0 rfl rfl rfl rfl rfl rfl rfl ?_ ?_ ?_) ?_) | (refine QX.k 17 ?_; first | refine QX.one rfl (One.build0 tabOk rfl rfl) ?_) | (refine QX.k 18 ?_; first | refine QX.one rfl (One.fieldRat tabOk rfl rfl rfl rfl (by decide) rfl rfl) ?_)) <;> (first | refine QSg.pass ?_ | (((try simp only [zn]) <;> (try simp (disch := omega) only [zz hA, zb, zy, reduceCtorEq, Bool.false_eq_true, Int.reduceLT, Int.reduceLE, Int.reduceNeg]) <;> (try simp only [zw])) <;> omega)))
            | refine QX.raw ?_)
        | refine Thn.exit ?_
        | refine Blk.here ?_
        | refine Blk.other (by decide) ?_
        | refine ⟨.inl rfl, _, RetOk.ev tabOk (by conv => lhs; cbv), ?_⟩
        | fail)
      all_goals first
        | (refine rPV_then (by conv => lhs; cbv) ?_
           simp [hA, real, hid]; done)
        | (exfalso
           simp_all [hid, real] <;> omega)
  · rw [show decide (V.length + N.length + M.length ≤ 500 ∧ ranks.length ≤ 200) = false from decide_eq_false hf] at hfew
    refine PureCalls.of Try.func8 rfl (by kernel_rfl) rfl ?_
    try first | refine AOLg.of [] ?_ | refine QSg.of [] ?_
    repeat' (first
      | (refine AWp.pass ?_; first
          | refine AWp.seq ?_
          | refine AWp.block ?_
          | refine AWp.skip ?_
          | refine AWp.regG [] (by conv => lhs; cbv) ?_
          | refine AWp.cond_t rfl ?_
          | refine AWp.cond_f rfl ?_
          | (refine AWp.cond rfl ?_ ?_ <;> intro hc <;> (try rw [hc]) <;> ((try simp only [zn] at hc) <;> (try simp (disch := omega) only [zz hA, zb, zy, reduceCtorEq, Bool.false_eq_true, Int.reduceLT, Int.reduceLE, Int.reduceNeg] at hc) <;> (try simp only [zw] at hc)) <;> (try (exfalso; omega)))
          | refine AWp.exit ?_
          | refine AWp.ret ⟨.inr rfl, _, RetOk.ev tabOk (by conv => lhs; cbv), ?_⟩
          | refine AWp.drawKG [] 0 rfl (by decide +kernel) (by conv => lhs; cbv) (by conv => lhs; cbv) ?_
          | refine AWp.drawKG [] 1 rfl (by decide +kernel) (by conv => lhs; cbv) (by conv => lhs; cbv) ?_
          | refine AWp.drawKG [] 2 rfl (by decide +kernel) (by conv => lhs; cbv) (by conv => lhs; cbv) ?_
          | refine AWp.drawKG [] 3 rfl (by decide +kernel) (by conv => lhs; cbv) (by conv => lhs; cbv) ?_
          | refine AWp.drawKG [] 4 rfl (by decide +kernel) (by conv => lhs; cbv) (by conv => lhs; cbv) ?_
          | refine AWp.drawKG [] 5 rfl (by decide +kernel) (by conv => lhs; cbv) (by conv => lhs; cbv) ?_
          | refine AWp.drawKG [] 6 rfl (by decide +kernel) (by conv => lhs; cbv) (by conv => lhs; cbv) ?_
          | refine AWp.drawKG [] 8 rfl (by decide +kernel) (by conv => lhs; cbv) (by conv => lhs; cbv) ?_)
      | (refine AOLg.pass ?_; refine AOLg.nx hA tabOk (by conv => lhs; cbv) ?_; first
          | refine NX.done ?_
          | refine NX.gt ?_
          | refine NX.gf ?_
          | (refine NX.gs ?_ ?_ <;> intro hc <;> rw [hc] <;> ((try simp only [zn] at hc) <;> (try simp (disch := omega) only [zz hA, zb, zy, reduceCtorEq, Bool.false_eq_true, Int.reduceLT, Int.reduceLE, Int.reduceNeg] at hc) <;> (try simp only [zw] at hc)) <;> (try (exfalso; omega)))
          | (refine NX.kC ?_; first | (with_reducible refine NX.call (shown5_c hA) ?_) | (with_reducible refine NX.call (hfew) ?_) | ((first | refine NX.call (shown5_c hA) ?_ | refine NX.call (hfew) ?_)) | fail)
          | (refine NX.kO ?_; (first | refine NX.callO (shown5_c hA) (by simp [allEq]) rfl ?_ | refine NX.callO (hfew) (by simp [allEq]) rfl ?_))
          | ((first | (refine NX.k 1 ?_; first | refine NX.one (One.elemM hA tabOk rfl rfl rfl rfl ?_ ?_) ?_ | refine NX.one (One.elemOwnM hA tabOk rfl rfl rfl rfl rfl ?_ ?_) ?_) | (refine NX.k 2 ?_; first | refine NX.one (One.clipM tabOk rfl rfl rfl rfl rfl ?_ ?_) ?_ | refine NX.one (One.cut_hM hA tabOk rfl rfl rfl rfl ?_ ?_) ?_ | refine NX.one (One.cut_lM hA tabOk rfl rfl rfl rfl ?_ ?_) ?_ | refine NX.one (One.cut_lhM hA tabOk rfl rfl rfl rfl rfl ?_ ?_ ?_) ?_) | (refine NX.k 3 ?_; first | refine NX.one (One.quoM hA rfl rfl rfl ?_) ?_) | (refine NX.k 4 ?_; first | refine NX.one (One.remM hA rfl rfl rfl ?_) ?_) | (refine NX.k 5 ?_; first | refine NX.one (One.shrM hA rfl rfl rfl ?_) ?_) | (refine NX.k 6 ?_; first | refine NX.one (One.bitsM hA rfl rfl rfl rfl) ?_) | (refine NX.k 7 ?_; first | refine NX.one (One.concatM hA rfl rfl rfl ?_) ?_) | (refine NX.k 8 ?_; first | refine NX.one (One.eqBoolM hA tabOk rfl rfl rfl rfl rfl) ?_) | (refine NX.k 9 ?_; first | refine NX.one (One.neBoolM hA tabOk rfl rfl rfl rfl rfl) ?_) | (refine NX.k 10 ?_; first | refine NX.one (One.lenOwnM hA tabOk rfl rfl rfl rfl) ?_) | (refine NX.k 11 ?_; first | refine NX.one (One.appendM hA tabOk _ rfl rfl rfl rfl rfl rfl ?_ ?_) ?_ | refine NX.one (One.appendMM hA tabOk rfl rfl rfl rfl rfl ?_ ?_) ?_ | refine NX.one (One.appendOwnM hA tabOk _ rfl rfl rfl rfl rfl rfl rfl ?_ ?_) ?_ | refine NX.one (One.appendOwnMM hA tabOk rfl rfl rfl rfl rfl rfl ?_ ?_) ?_ | refine NX.one (One.appendOwn0 hA tabOk rfl rfl rfl rfl rfl rfl ?_ ?_) ?_) | (refine NX.k 13 ?_; first | refine NX.one (One.byteM hA tabOk rfl rfl rfl rfl rfl ?_ ?_) ?_) | (refine NX.k 14 ?_; first | refine NX.one (One.loadRatM hA tabOk rfl rfl rfl rfl rfl rfl ?_) ?_) | (refine NX.k 15 ?_; first | refine NX.one (One.storeRatM hA tabOk _ rfl rfl rfl rfl rfl rfl rfl rfl (fun _ => rfl) ?_) ?_) | (refine NX.k 16 ?_; first | refine NX.one (One.makeM hA tabOk encI 0 rfl rfl rfl rfl rfl rfl rfl ?_ ?_ ?_) ?_) | (refine NX.k 17 ?_; first | refine NX.one (One.build0 tabOk rfl rfl) ?_) | (refine NX.k 18 ?_; first | refine NX.one (One.fieldRat tabOk rfl rfl rfl rfl (by decide) rfl rfl) ?_)) <;> (first | refine AOLg.pass ?_ | (((try simp only [zn]) <;> (try simp (disch := omega) only [zz hA, zb, zy, reduceCtorEq, Bool.false_eq_true, Int.reduceLT, Int.reduceLE, Int.reduceNeg]) <;> (try simp only [zw])) <;> omega)))
          | refine NX.raw ?_)
      | (refine QSg.pass ?_; refine QSg.nx hA tabOk (by conv => lhs; cbv) ?_; first
          | refine QX.done ?_
          | refine QX.gt ?_
          | refine QX.gf ?_
          | (refine QX.gs ?_ ?_ <;> intro hc <;> rw [hc] <;> ((try simp only [zn] at hc) <;> (try simp (disch := omega) only [zz hA, zb, zy, reduceCtorEq, Bool.false_eq_true, Int.reduceLT, Int.reduceLE, Int.reduceNeg] at hc) <;> (try simp only [zw] at hc)) <;> (try (exfalso; omega)))
          | (refine QX.kC ?_; first | (with_reducible refine QX.call (shown5_c hA) rfl ?_) | (with_reducible refine QX.call (hfew) rfl ?_) | ((first | refine QX.call (shown5_c hA) rfl ?_ | refine QX.call (hfew) rfl ?_)) | fail)
          | (refine QX.kO ?_; (first | refine QX.callO (shown5_c hA) rfl (by simp [allEq]) rfl ?_ | refine QX.callO (hfew) rfl (by simp [allEq]) rfl ?_))
          | ((first | (refine QX.k 1 ?_; first | refine QX.one rfl (One.elemM hA tabOk rfl rfl rfl rfl ?_ ?_) ?_ | refine QX.one rfl (One.elemOwnM hA tabOk rfl rfl rfl rfl rfl ?_ ?_) ?_) | (refine QX.k 2 ?_; first | refine QX.one rfl (One.clipM tabOk rfl rfl rfl rfl rfl ?_ ?_) ?_ | refine QX.one rfl (One.cut_hM hA tabOk rfl rfl rfl rfl ?_ ?_) ?_ | refine QX.one rfl (One.cut_lM hA tabOk rfl rfl rfl rfl ?_ ?_) ?_ | refine QX.one rfl (One.cut_lhM hA tabOk rfl rfl rfl rfl rfl ?_ ?_ ?_) ?_) | (refine QX.k 3 ?_; first | refine QX.one rfl (One.quoM hA rfl rfl rfl ?_) ?_) | (refine QX.k 4 ?_; first | refine QX.one rfl (One.remM hA rfl rfl rfl ?_) ?_) | (refine QX.k 5 ?_; first | refine QX.one rfl (One.shrM hA rfl rfl rfl ?_) ?_) | (refine QX.k 6 ?_; first | refine QX.one rfl (One.bitsM hA rfl rfl rfl rfl) ?_) | (refine QX.k 7 ?_; first | refine QX.one rfl (One.concatM hA rfl rfl rfl ?_) ?_) | (refine QX.k 8 ?_; first | refine QX.one rfl (One.eqBoolM hA tabOk rfl rfl rfl rfl rfl) ?_) | (refine QX.k 9 ?_; first | refine QX.one rfl (One.neBoolM hA tabOk rfl rfl rfl rfl rfl) ?_) | (refine QX.k 10 ?_; first | refine QX.one rfl (One.lenOwnM hA tabOk rfl rfl rfl rfl) ?_) | (refine QX.k 11 ?_; first | refine QX.one rfl (One.appendM hA tabOk _ rfl rfl rfl rfl rfl rfl ?_ ?_) ?_ | refine QX.one rfl (One.appendMM hA tabOk rfl rfl rfl rfl rfl ?_ ?_) ?_ | refine QX.one rfl (One.appendOwnM hA tabOk _ rfl rfl rfl rfl rfl rfl rfl ?_ ?_) ?_ | refine QX.one rfl (One.appendOwnMM hA tabOk rfl rfl rfl rfl rfl rfl ?_ ?_) ?_ | refine QX.one rfl (One.appendOwn0 hA tabOk rfl rfl rfl rfl rfl rfl ?_ ?_) ?_) | (refine QX.k 13 ?_; first | refine QX.one rfl (One.byteM hA tabOk rfl rfl rfl rfl rfl ?_ ?_) ?_) | (refine QX.k 14 ?_; first | refine QX.one rfl (One.loadRatM hA tabOk rfl rfl rfl rfl rfl rfl ?_) ?_) | (refine QX.k 15 ?_; first | refine QX.one rfl (One.storeRatM hA tabOk _ rfl rfl rfl rfl rfl rfl rfl rfl (fun _ => rfl) ?_) ?_) | (refine QX.k 16 ?_; first | refine QX.one rfl (One.makeM hA tabOk encI 0 rfl rfl rfl rfl rfl rfl rfl ?_ ?_ ?_) ?_) | (refine QX.k 17 ?_; first | refine QX.one rfl (One.build0 tabOk rfl rfl) ?_) | (refine QX.k 18 ?_; first | refine QX.one rfl (One.fieldRat tabOk rfl rfl rfl rfl (by decide) rfl rfl) ?_)) <;> (first | refine QSg.pass ?_ | (((try simp only [zn]) <;> (try simp (disch := omega) only [zz hA, zb, zy, reduceCtorEq, Bool.false_eq_true, Int.reduceLT, Int.reduceLE, Int.reduceNeg]) <;> (try simp only [zw])) <;> omega)))
          | refine QX.raw ?_)
      | refine Thn.exit ?_
      | refine Blk.here ?_
      | refine Blk.other (by decide) ?_
      | refine ⟨.inl rfl, _, RetOk.ev tabOk (by conv => lhs; cbv), ?_⟩
      | fail)
    all_goals
      refine rPV_then (by conv => lhs; cbv) ?_
      simp [hA, real, hid]
end Go.Proofs.Ytinehodamekjgaa.Aw

/- The plain law of three that are joined, of one that is added, of what is taken back, of parts. -/
set_option linter.unusedVariables false
set_option linter.unusedSimpArgs false
set_option linter.unusedSectionVars false
namespace Go.Proofs.Ytinehodamekjgaa.Aw
open Go Go.RowKit
def mnU (ranks : List Int) (p q : Int) : Int := if lessM ranks q p = true then q else p
theorem joinP_mn (V ranks : List Int) (a b : Int) : (joinP V ranks a b).1 = mnU ranks (findU V a) (findU V b) := by unfold joinP mnU; split <;> rfl
theorem mn_or (ranks : List Int) (p q : Int) : mnU ranks p q = p ∨ mnU ranks p q = q := by unfold mnU; split <;> simp
theorem mn_self (ranks : List Int) (p : Int) : mnU ranks p p = p := by unfold mnU; split <;> rfl
theorem mn_comm (ranks : List Int) (p q : Int) : mnU ranks p q = mnU ranks q p := by
  simp only [mnU, less_iff]; split <;> split <;> omega
theorem mn_assoc (ranks : List Int) (p q r : Int) : mnU ranks (mnU ranks p q) r = mnU ranks p (mnU ranks q r) := by
  have key : ∀ x y : Int, mnU ranks x y = if rankM ranks y < rankM ranks x ∨ rankM ranks y = rankM ranks x ∧ y < x then y else x := fun x y => by
    unfold mnU
    by_cases h : lessM ranks y x = true
    · rw [if_pos h, if_pos ((less_iff _ _ _).1 h)]
    · rw [if_neg h, if_neg fun k => h ((less_iff _ _ _).2 k)]
  have f : ∀ x y : Int, (mnU ranks x y = x ∧ ¬ (rankM ranks y < rankM ranks x ∨ rankM ranks y = rankM ranks x ∧ y < x)) ∨ (mnU ranks x y = y ∧ (rankM ranks y < rankM ranks x ∨ rankM ranks y = rankM ranks x ∧ y < x)) := fun x y => by
    rw [key]; split
    · next h => exact .inr ⟨rfl, h⟩
    · next h => exact .inl ⟨rfl, h⟩
  rcases f p q with ⟨h1, k1⟩ | ⟨h1, k1⟩ <;> rcases f q r with ⟨h2, k2⟩ | ⟨h2, k2⟩ <;> rcases f p r with ⟨h3, k3⟩ | ⟨h3, k3⟩ <;> simp only [h1, h2, h3] <;> omega
theorem mn_l (ranks : List Int) (p q : Int) : mnU ranks (mnU ranks p q) p = mnU ranks p q := by rw [mn_comm, ← mn_assoc, mn_self]
theorem mn_r (ranks : List Int) (p q : Int) : mnU ranks (mnU ranks p q) q = mnU ranks p q := by rw [mn_assoc, mn_self]
theorem thoseM_congr {n : Nat} {p q : Int → Bool} (h : ∀ k : Nat, k < n → p k = q k) : thoseM n p = thoseM n q := by
  induction n with
  | zero => rfl
  | succ n ih => rw [thoseM_succ, thoseM_succ, h n (Nat.lt_succ_self n), ih fun k hk => h k (by omega)]
section
variable {V ranks : List Int} (hR : RightU V ranks) {a b c n : Int} (a0 : 0 ≤ a) (a1 : a < V.length) (b0 : 0 ≤ b) (b1 : b < V.length) (c0 : 0 ≤ c) (c1 : c < V.length) (n0 : 0 ≤ n) (n1 : n < V.length)
include hR a0 a1 b0 b1 n0 n1
theorem join_find' : findU (joinV V ranks a b) n = if findU V n = findU V a ∨ findU V n = findU V b then mnU ranks (findU V a) (findU V b) else findU V n := by
  rw [joinV_find hR a0 a1 b0 b1 n0 n1, joinP_mn]
include c0 c1
theorem three_find : findU (joinV (joinV V ranks a b) ranks b c) n = if findU V n = findU V a ∨ findU V n = findU V b ∨ findU V n = findU V c then mnU ranks (mnU ranks (findU V a) (findU V b)) (findU V c) else findU V n := by
  have hR1 := joinV_right hR a0 a1 b0 b1
  have hl := joinV_len V ranks a b
  rw [join_find' hR1 b0 (by omega) c0 (by omega) n0 (by omega), join_find' hR a0 a1 b0 b1 b0 b1, join_find' hR a0 a1 b0 b1 c0 c1, join_find' hR a0 a1 b0 b1 n0 n1]
  have h1 := mn_or ranks (findU V a) (findU V b)
  have h2 := mn_l ranks (findU V a) (findU V b)
  have h3 := mn_r ranks (findU V a) (findU V b)
  have h4 := mn_self ranks (mnU ranks (findU V a) (findU V b))
  generalize findU V a = fa at *
  generalize findU V b = fb at *
  generalize findU V c = fc at *
  generalize findU V n = fn at *
  generalize mnU ranks fa fb = p at *
  rw [if_pos (Or.inr rfl)]
  by_cases hc : fc = fa ∨ fc = fb
  · rw [if_pos hc, h4]
    have h5 : mnU ranks p fc = p := by rcases hc with rfl | rfl <;> assumption
    rw [h5]
    by_cases hn : fn = fa ∨ fn = fb
    · rw [if_pos hn, if_pos (.inl rfl), if_pos (by rcases hn with h | h; exact .inl h; exact .inr (.inl h))]
    · rw [if_neg hn, if_neg (by omega), if_neg (by omega)]
  · rw [if_neg hc]
    by_cases hn : fn = fa ∨ fn = fb
    · rw [if_pos hn, if_pos (.inl rfl), if_pos (by omega)]
    · rw [if_neg hn]
      by_cases e : fn = fc
      · rw [if_pos (.inr e), if_pos (.inr (.inr e))]
      · rw [if_neg (by omega), if_neg (by omega)]
theorem three_same : findU (joinV (joinV V ranks a b) ranks b c) n = findU (joinV (joinV V ranks c a) ranks b c) n := by
  have hR2 := joinV_right hR c0 c1 a0 a1
  have hl2 := joinV_len V ranks c a
  rw [three_find hR a0 a1 b0 b1 c0 c1 n0 n1, joinV_sym hR2 b0 (by omega) c0 (by omega), joinV_sym hR c0 c1 a0 a1, three_find hR a0 a1 c0 c1 b0 b1 n0 n1]
  have e : mnU ranks (mnU ranks (findU V a) (findU V b)) (findU V c) = mnU ranks (mnU ranks (findU V a) (findU V c)) (findU V b) := by
    rw [mn_assoc, mn_assoc, mn_comm ranks (findU V b)]
  rw [e]
  by_cases h : findU V n = findU V a ∨ findU V n = findU V b ∨ findU V n = findU V c
  · rw [if_pos h, if_pos (by omega)]
  · rw [if_neg h, if_neg (by omega)]
end
section
variable {V ranks : List Int} (hR : RightU V ranks)
theorem getD_app (V : List Int) (x : Int) (n : Nat) : (V ++ [x]).getD n default = if n < V.length then V.getD n default else if n = V.length then x else default := by
  simp only [List.getD_eq_getElem?_getD, List.getElem?_append]
  split
  · rfl
  · split
    · next h => subst h; simp
    · next h1 h2 => rw [List.getElem?_eq_none (by simp only [List.length_cons, List.length_nil]; omega)]; rfl
include hR
theorem add_right : RightU (V ++ [(V.length : Int)]) ranks := by
  constructor
  intro n hn
  simp only [List.length_append, List.length_cons, List.length_nil] at hn ⊢
  rw [getD_app]
  by_cases h : n < V.length
  · rw [if_pos h]
    rcases hR.ok n h with h | ⟨h1, h2, h3⟩
    · exact .inl h
    · exact .inr ⟨h1, by omega, h3⟩
  · obtain rfl : n = V.length := by omega
    rw [if_neg h, if_pos rfl]
    exact .inl rfl
theorem add_iter {n : Int} (n0 : 0 ≤ n) (n1 : n < V.length) (k : Nat) : iterF (V ++ [(V.length : Int)]) k n = iterF V k n := by
  induction k with
  | zero => rfl
  | succ k ih =>
    rw [iterF_succ, iterF_succ, ih, getD_app]
    obtain ⟨h1, h2⟩ := iter_range hR n0 n1 k
    rw [if_pos (by omega)]
theorem add_find {n : Int} (n0 : 0 ≤ n) (n1 : n < V.length) : findU (V ++ [(V.length : Int)]) n = findU V n := by
  unfold findU
  rw [add_iter hR n0 n1]
  simp only [List.length_append, List.length_cons, List.length_nil]
  rw [iterF_succ]
  exact find_fix hR n0 n1
omit hR in
theorem add_new (V : List Int) : findU (V ++ [(V.length : Int)]) (V.length : Int) = V.length := by
  refine find_root ?_
  rw [getD_app, if_neg (by omega), if_pos (by omega)]
theorem add_class {a : Int} (a0 : 0 ≤ a) (a1 : a < V.length) : thoseM (V ++ [(V.length : Int)]).length (fun k => decide (findU (V ++ [(V.length : Int)]) k = findU (V ++ [(V.length : Int)]) a)) = thoseM V.length (fun k => decide (findU V k = findU V a)) := by
  have hr := find_range hR a0 a1
  simp only [List.length_append, List.length_cons, List.length_nil]
  rw [thoseM_succ, if_neg (by rw [add_new, add_find hR a0 a1]; simp; omega)]
  refine thoseM_congr fun k hk => ?_
  rw [add_find hR a0 a1, add_find hR (by omega) (by omega)]
theorem add_own : thoseM (V ++ [(V.length : Int)]).length (fun k => decide (findU (V ++ [(V.length : Int)]) k = findU (V ++ [(V.length : Int)]) (V.length : Int))) = [(V.length : Int)] := by
  simp only [List.length_append, List.length_cons, List.length_nil]
  rw [thoseM_succ, if_pos (by simp), add_new]
  have : thoseM V.length (fun k => decide (findU (V ++ [(V.length : Int)]) k = (V.length : Int))) = [] := by
    rw [thoseM_congr (q := fun _ => false)]
    · unfold thoseM; simp
    · intro k hk
      rw [add_find hR (by omega) (by omega)]
      have hr := find_range hR (n := (k : Int)) (by omega) (by omega)
      exact decide_eq_false (by omega)
  rw [this]; rfl
omit hR in
theorem add_firsts (V : List Int) : thoseM (V ++ [(V.length : Int)]).length (fun k => decide ((V ++ [(V.length : Int)]).getD k.toNat default = k)) = thoseM V.length (fun k => decide (V.getD k.toNat default = k)) ++ [(V.length : Int)] := by
  simp only [List.length_append, List.length_cons, List.length_nil]
  rw [thoseM_succ, if_pos (by rw [getD_app, if_neg (by omega), if_pos (by omega)]; simp)]
  congr 1
  refine thoseM_congr fun k hk => ?_
  rw [getD_app, if_pos (by omega)]
theorem back_undo (N : List (Int × Int)) {a b : Int} (a0 : 0 ≤ a) (a1 : a < V.length) (b0 : 0 ≤ b) (b1 : b < V.length) :
    undoAll ((joinN (V ++ [(V.length : Int)]) ranks (N ++ [(-1, 0)]) a b).drop N.length) (joinV (V ++ [(V.length : Int)]) ranks a b) = some V ∧ (joinN (V ++ [(V.length : Int)]) ranks (N ++ [(-1, 0)]) a b).take N.length = N ∧ N.length ≤ (joinN (V ++ [(V.length : Int)]) ranks (N ++ [(-1, 0)]) a b).length := by
  have hR1 := add_right hR
  have hl : (V ++ [(V.length : Int)]).length = V.length + 1 := by simp
  have pop : undo1 (-1, 0) (V ++ [(V.length : Int)]) = some V := by
    unfold undo1
    rw [if_pos ⟨rfl, by simp⟩]
    simp
  unfold joinN joinV
  by_cases h : findU (V ++ [(V.length : Int)]) a = findU (V ++ [(V.length : Int)]) b
  · rw [if_pos h, if_pos h]
    refine ⟨?_, by simp, by simp⟩
    rw [List.drop_left]
    simpa [undoAll] using pop
  · rw [if_neg h, if_neg h]
    refine ⟨?_, by simp, by simp⟩
    rw [List.append_assoc, List.drop_left]
    have ha := find_range hR1 a0 (by omega)
    have hb := find_range hR1 b0 (by omega)
    rcases joinP_ok hR1 a0 (by omega) b0 (by omega) h with ⟨_, ⟨e, e'⟩ | ⟨e, e'⟩⟩ <;> rw [e, e']
    · have := set_undo (p := findU (V ++ [(V.length : Int)]) a) hb.1 hb.2 (find_fix hR1 b0 (by omega))
      simp only [List.cons_append, List.nil_append, undoAll, Option.bind_some, this]
      exact pop
    · have := set_undo (p := findU (V ++ [(V.length : Int)]) b) ha.1 ha.2 (find_fix hR1 a0 (by omega))
      simp only [List.cons_append, List.nil_append, undoAll, Option.bind_some, this]
      exact pop
end
/-! ### parts -/
def partI (V F : List Int) (i : Nat) : Nat := (List.range V.length).countP fun k : Nat => decide (findU V ((k : Nat) : Int) ∈ F.take i)
theorem countP_or {α : Type} {p q r : α → Bool} : ∀ {l : List α}, (∀ x ∈ l, r x = (p x || q x) ∧ ¬ (p x = true ∧ q x = true)) → l.countP r = l.countP p + l.countP q
  | [], h => rfl
  | x :: l, h => by
    have ih := countP_or (l := l) fun y hy => h y (List.mem_cons_of_mem _ hy)
    obtain ⟨h1, h2⟩ := h x List.mem_cons_self
    rw [List.countP_cons, List.countP_cons, List.countP_cons, ih, h1]
    cases hp : p x <;> cases hq : q x <;> simp_all <;> omega
theorem thoseM_mem {n : Nat} {p : Int → Bool} {z : Int} : z ∈ thoseM n p ↔ (0 ≤ z ∧ z < n) ∧ p z = true := by
  unfold thoseM
  rw [List.mem_filter, List.mem_map]
  constructor
  · rintro ⟨⟨k, hk, rfl⟩, h⟩
    rw [List.mem_range] at hk
    exact ⟨by omega, h⟩
  · rintro ⟨⟨h1, h2⟩, h⟩
    exact ⟨⟨z.toNat, List.mem_range.2 (by omega), by omega⟩, h⟩
theorem thoseM_count (n : Nat) (p : Int → Bool) : (thoseM n p).length = (List.range n).countP fun k : Nat => p (k : Int) := by
  unfold thoseM
  rw [← List.countP_eq_length_filter, List.countP_map]
  rfl
theorem thoseM_pair (n : Nat) (p : Int → Bool) : (thoseM n p).Pairwise (· < ·) := by
  induction n with
  | zero => exact List.Pairwise.nil
  | succ n ih =>
    rw [thoseM_succ]
    split
    · rw [List.pairwise_append]
      refine ⟨ih, by simp, ?_⟩
      intro x hx y hy
      have h := (thoseM_mem.1 hx).1
      simp only [List.mem_singleton] at hy
      omega
    · exact ih
section
variable {V ranks : List Int} (hR : RightU V ranks) {F : List Int} (hF : F = thoseM V.length fun k => decide (V.getD k.toNat default = k))
theorem partI_zero (V F : List Int) : partI V F 0 = 0 := by unfold partI; rw [List.countP_eq_zero]; simp
theorem getD_mem {l : List Int} {i : Nat} (h : i < l.length) : l.getD i default ∈ l := by
  rw [List.getD_eq_getElem?_getD, List.getElem?_eq_getElem h]
  exact List.getElem_mem _
include hF
theorem first_mem {i : Nat} (h : i < F.length) : (0 ≤ F.getD i default ∧ F.getD i default < V.length) ∧ V.getD (F.getD i default).toNat default = F.getD i default := by
  have := getD_mem h
  rw [hF] at this
  obtain ⟨h1, h2⟩ := thoseM_mem.1 this
  rw [← hF] at h1 h2
  exact ⟨h1, by simpa using h2⟩
theorem first_less {i j : Nat} (hij : i < j) (h : j < F.length) : F.getD i default < F.getD j default := by
  have := thoseM_pair V.length fun k => decide (V.getD k.toNat default = k)
  rw [← hF] at this
  rw [List.pairwise_iff_getElem] at this
  have h1 := this i j (by omega) h hij
  simpa [List.getD_eq_getElem?_getD, List.getElem?_eq_getElem h, List.getElem?_eq_getElem (show i < F.length by omega)] using h1
theorem partI_succ {i : Nat} (h : i < F.length) : partI V F (i + 1) = partI V F i + (thoseM V.length fun k => decide (findU V k = F.getD i default)).length := by
  rw [thoseM_count]
  unfold partI
  refine countP_or fun k hk => ?_
  have e : F.take (i + 1) = F.take i ++ [F.getD i default] := by
    rw [List.take_add_one, List.getElem?_eq_getElem h]
    simp [List.getD_eq_getElem?_getD, List.getElem?_eq_getElem h]
  rw [e]
  refine ⟨by simp, fun ⟨h1, h2⟩ => ?_⟩
  simp only [decide_eq_true_eq] at h1 h2
  rw [h2] at h1
  obtain ⟨j, hj, he⟩ := List.mem_take_iff_getElem.1 h1
  have := first_less hF (i := j) (j := i) (by omega) h
  rw [List.getD_eq_getElem?_getD, List.getElem?_eq_getElem (show j < F.length by omega)] at this
  simp only [Option.getD_some] at this
  omega
include hR
theorem partI_all : partI V F F.length = V.length := by
  unfold partI
  rw [List.take_length]
  rw [List.countP_eq_length.2, List.length_range]
  intro k hk
  rw [List.mem_range] at hk
  rw [decide_eq_true_eq, hF, thoseM_mem]
  have h1 := find_range hR (n := (k : Int)) (by omega) (by omega)
  have h2 := find_fix hR (n := (k : Int)) (by omega) (by omega)
  exact ⟨h1, by simpa using h2⟩
end
end Go.Proofs.Ytinehodamekjgaa.Aw
