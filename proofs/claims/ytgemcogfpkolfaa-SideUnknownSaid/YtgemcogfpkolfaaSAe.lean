/- Texts of the proof, put together: the abstract walk, contracts of the functions that the statement reaches, plain laws, part 5 of 6. -/
import Derived.Test.YtgemcogfpkolfaaSAd
/- Contracts of package side, part 3: how a part varies; nodes from the last one on. -/
set_option linter.unusedVariables false
set_option linter.unusedSimpArgs false
set_option linter.unusedSectionVars false
namespace Go.Proofs.Ytgemcogfpkolfaa.Aw
open Go Go.RowKit
set_option maxRecDepth 10000
attribute [local irreducible] AWp AOL QS One AOLg QSg NX QX TRg TX AllO Fin3
variable {A : Ar} (hA : A = real)
include hA
theorem of1_c (k : Int) : PureCalls Try.prog 28 [IP k] (UP 43) := by
  refine PureCalls.of Try.func28 rfl (by kernel_rfl) rfl ?_
  try first | refine AOLg.of [] ?_ | refine QSg.of [] ?_
  repeat' (first
    | (refine AWp.pass ?_; first
        | refine AWp.seq ?_
        | refine AWp.block ?_
        | refine AWp.skip ?_
        | refine AWp.regG [] (by conv => lhs; cbv) ?_
        | refine AWp.cond_t rfl ?_
        | refine AWp.cond_f rfl ?_
        | (refine AWp.cond rfl ?_ ?_ <;> intro hc <;> (try rw [hc]) <;> ((try simp only [zn] at hc) <;> (try simp (disch := omega) only [zz hA, zb, zy, reduceCtorEq, Bool.false_eq_true, Int.reduceLT, Int.reduceLE, Int.reduceNeg] at hc) <;> (try simp only [zw] at hc)) <;> (try (exfalso; omega)))
        | refine AWp.exit ?_
        | refine AWp.ret ⟨.inr rfl, _, RetOk.ev tabOk (by conv => lhs; cbv), ?_⟩)
    | (refine AOLg.pass ?_; refine AOLg.nx hA tabOk (by conv => lhs; cbv) ?_; first
        | refine NX.done ?_
        | refine NX.gt ?_
        | refine NX.gf ?_
        | (refine NX.gs ?_ ?_ <;> intro hc <;> rw [hc] <;> ((try simp only [zn] at hc) <;> (try simp (disch := omega) only [zz hA, zb, zy, reduceCtorEq, Bool.false_eq_true, Int.reduceLT, Int.reduceLE, Int.reduceNeg] at hc) <;> (try simp only [zw] at hc)) <;> (try (exfalso; omega)))
        | refine NX.raw ?_)
    | refine Thn.exit ?_
    | refine Blk.here ?_
    | refine Blk.other (by decide) ?_
    | refine ⟨.inl rfl, _, RetOk.ev tabOk (by conv => lhs; cbv), ?_⟩
    | fail)
  refine rPV_then (by conv => lhs; cbv) ?_
  rfl
theorem of2_c (k : Int) (p : ByteArray) (b : Bool) (h : b = true → 0 ≤ k ∧ k < p.size) : ACalls Try.prog 30 [.ic (.lit (.int .i64 k)), .ptr 1 0, .ptr 0 0] [.var true 9 [.ic (.lit (.string (hid A p)))], .var true 4 [.ic (.lit (.bool (hid A b)))]]
    (fun x st' => x = .ic (.lit (.int .u8 (hid A (if b = true then sb p k else 61)))) ∧ st' = [.var true 9 [.ic (.lit (.string (hid A p)))], .var true 4 [.ic (.lit (.bool (hid A b)))]]) := by
  refine ACalls.of Try.func30 rfl (by kernel_rfl) rfl ?_
  cases b with
  | true =>
    obtain ⟨h1, h2⟩ := h rfl
    rw [hid_eq hA (α := Bool)]
    try first | refine AOLg.of [] ?_ | refine QSg.of [] ?_
    repeat' (first
      | (refine AWp.pass ?_; first
          | refine AWp.seq ?_
          | refine AWp.block ?_
          | refine AWp.skip ?_
          | refine AWp.regG [] (by conv => lhs; cbv) ?_
          | refine AWp.cond_t rfl ?_
          | refine AWp.cond_f rfl ?_
          | (refine AWp.cond rfl ?_ ?_ <;> intro hc <;> (try rw [hc]) <;> ((try simp only [zn] at hc) <;> (try simp (disch := omega) only [zz hA, zb, zy, reduceCtorEq, Bool.false_eq_true, Int.reduceLT, Int.reduceLE, Int.reduceNeg] at hc) <;> (try simp only [zw] at hc)) <;> (try (exfalso; omega)))
          | refine AWp.exit ?_
          | refine AWp.ret ⟨.inr rfl, _, RetOk.ev tabOk (by conv => lhs; cbv), ?_⟩)
      | (refine AOLg.pass ?_; refine AOLg.nx hA tabOk (by conv => lhs; cbv) ?_; first
          | refine NX.done ?_
          | refine NX.gt ?_
          | refine NX.gf ?_
          | (refine NX.gs ?_ ?_ <;> intro hc <;> rw [hc] <;> ((try simp only [zn] at hc) <;> (try simp (disch := omega) only [zz hA, zb, zy, reduceCtorEq, Bool.false_eq_true, Int.reduceLT, Int.reduceLE, Int.reduceNeg] at hc) <;> (try simp only [zw] at hc)) <;> (try (exfalso; omega)))
          | ((first | (refine NX.k 13 ?_; first | refine NX.one (One.byteM hA tabOk rfl rfl rfl rfl rfl ?_ ?_) ?_) | (refine NX.k 14 ?_; first | refine NX.one (One.loadRatM hA tabOk rfl rfl rfl rfl rfl rfl ?_) ?_)) <;> (first | refine AOLg.pass ?_ | (((try simp only [zn]) <;> (try simp (disch := omega) only [zz hA, zb, zy, reduceCtorEq, Bool.false_eq_true, Int.reduceLT, Int.reduceLE, Int.reduceNeg]) <;> (try simp only [zw])) <;> omega)))
          | refine NX.raw ?_)
      | refine Thn.exit ?_
      | refine Blk.here ?_
      | refine Blk.other (by decide) ?_
      | refine ⟨.inl rfl, _, RetOk.ev tabOk (by conv => lhs; cbv), ?_⟩
      | fail)
    refine ⟨?_, rfl⟩
    simp only [hid_eq hA, if_true]
  | false =>
    rw [hid_eq hA (α := Bool)]
    try first | refine AOLg.of [] ?_ | refine QSg.of [] ?_
    repeat' (first
      | (refine AWp.pass ?_; first
          | refine AWp.seq ?_
          | refine AWp.block ?_
          | refine AWp.skip ?_
          | refine AWp.regG [] (by conv => lhs; cbv) ?_
          | refine AWp.cond_t rfl ?_
          | refine AWp.cond_f rfl ?_
          | (refine AWp.cond rfl ?_ ?_ <;> intro hc <;> (try rw [hc]) <;> ((try simp only [zn] at hc) <;> (try simp (disch := omega) only [zz hA, zb, zy, reduceCtorEq, Bool.false_eq_true, Int.reduceLT, Int.reduceLE, Int.reduceNeg] at hc) <;> (try simp only [zw] at hc)) <;> (try (exfalso; omega)))
          | refine AWp.exit ?_
          | refine AWp.ret ⟨.inr rfl, _, RetOk.ev tabOk (by conv => lhs; cbv), ?_⟩)
      | (refine AOLg.pass ?_; refine AOLg.nx hA tabOk (by conv => lhs; cbv) ?_; first
          | refine NX.done ?_
          | refine NX.gt ?_
          | refine NX.gf ?_
          | (refine NX.gs ?_ ?_ <;> intro hc <;> rw [hc] <;> ((try simp only [zn] at hc) <;> (try simp (disch := omega) only [zz hA, zb, zy, reduceCtorEq, Bool.false_eq_true, Int.reduceLT, Int.reduceLE, Int.reduceNeg] at hc) <;> (try simp only [zw] at hc)) <;> (try (exfalso; omega)))
          | ((first | (refine NX.k 13 ?_; first | refine NX.one (One.byteM hA tabOk rfl rfl rfl rfl rfl ?_ ?_) ?_) | (refine NX.k 14 ?_; first | refine NX.one (One.loadRatM hA tabOk rfl rfl rfl rfl rfl rfl ?_) ?_)) <;> (first | refine AOLg.pass ?_ | (((try simp only [zn]) <;> (try simp (disch := omega) only [zz hA, zb, zy, reduceCtorEq, Bool.false_eq_true, Int.reduceLT, Int.reduceLE, Int.reduceNeg]) <;> (try simp only [zw])) <;> omega)))
          | refine NX.raw ?_)
      | refine Thn.exit ?_
      | refine Blk.here ?_
      | refine Blk.other (by decide) ?_
      | refine ⟨.inl rfl, _, RetOk.ev tabOk (by conv => lhs; cbv), ?_⟩
      | fail)
    refine ⟨?_, rfl⟩
    simp [hid_eq hA]
theorem known_c (l : List Sg) (k : Int) (s : ByteArray) (n : Int) (hl : l.length ≤ 1000000) (hsz : FitG l) : PureCalls Try.prog 24 [slP A 2 (encG A) l, ndP k s n] (BP (hid A (knownD l k s n))) := by
  have hfd := find_G hA l s
  have hfb := findG_bound l s
  have hps : knownD l k s n = if findG l s < 0 then false else if k = 3 then decide (((argG l (findG l s)).size : Int) = n) else decide (n ≤ (argG l (findG l s)).size) := rfl
  generalize knownD l k s n = R at *
  generalize findG l s = i at *
  refine PureCalls.of Try.func24 rfl (by kernel_rfl) rfl ?_
  by_cases hi : i < 0
  · rw [if_pos hi] at hps
    try first | refine AOLg.of [] ?_ | refine QSg.of [] ?_
    repeat' (first
      | (refine AWp.pass ?_; first
          | refine AWp.seq ?_
          | refine AWp.block ?_
          | refine AWp.skip ?_
          | refine AWp.regG [] (by conv => lhs; cbv) ?_
          | refine AWp.cond_t rfl ?_
          | refine AWp.cond_f rfl ?_
          | (refine AWp.cond rfl ?_ ?_ <;> intro hc <;> (try rw [hc]) <;> ((try simp only [zn] at hc) <;> (try simp (disch := omega) only [zz hA, zb, zy, reduceCtorEq, Bool.false_eq_true, Int.reduceLT, Int.reduceLE, Int.reduceNeg] at hc) <;> (try simp only [zw] at hc)) <;> (try (exfalso; omega)))
          | refine AWp.exit ?_
          | refine AWp.ret ⟨.inr rfl, _, RetOk.ev tabOk (by conv => lhs; cbv), ?_⟩
          | refine AWp.drawVG [] rfl (by decide +kernel) (by conv => lhs; cbv) ?_)
      | (refine AOLg.pass ?_; refine AOLg.nx hA tabOk (by conv => lhs; cbv) ?_; first
          | refine NX.done ?_
          | refine NX.gt ?_
          | refine NX.gf ?_
          | (refine NX.gs ?_ ?_ <;> intro hc <;> rw [hc] <;> ((try simp only [zn] at hc) <;> (try simp (disch := omega) only [zz hA, zb, zy, reduceCtorEq, Bool.false_eq_true, Int.reduceLT, Int.reduceLE, Int.reduceNeg] at hc) <;> (try simp only [zw] at hc)) <;> (try (exfalso; omega)))
          | (refine NX.kC ?_; first | (with_reducible refine NX.call (hfd) ?_) | ((first | refine NX.call (hfd) ?_)) | fail)
          | (refine NX.kO ?_; (first | refine NX.callO (hfd) (by simp [allEq]) rfl ?_))
          | ((first | (refine NX.k 1 ?_; first | refine NX.one (One.elemM hA tabOk rfl rfl rfl rfl ?_ ?_) ?_ | refine NX.one (One.elemOwnM hA tabOk rfl rfl rfl rfl rfl ?_ ?_) ?_) | (refine NX.k 8 ?_; first | refine NX.one (One.eqBoolM hA tabOk rfl rfl rfl rfl rfl) ?_) | (refine NX.k 10 ?_; first | refine NX.one (One.lenOwnM hA tabOk rfl rfl rfl rfl) ?_) | (refine NX.k 14 ?_; first | refine NX.one (One.loadRatM hA tabOk rfl rfl rfl rfl rfl rfl ?_) ?_) | (refine NX.k 18 ?_; first | refine NX.one (One.fieldRat tabOk rfl rfl rfl rfl (by decide) rfl rfl) ?_)) <;> (first | refine AOLg.pass ?_ | (((try simp only [zn]) <;> (try simp (disch := omega) only [zz hA, zb, zy, reduceCtorEq, Bool.false_eq_true, Int.reduceLT, Int.reduceLE, Int.reduceNeg]) <;> (try simp only [zw])) <;> omega)))
          | refine NX.raw ?_)
      | (refine TRg.pass ?_; refine TRg.nx hA tabOk (by conv => lhs; cbv) ?_; first
          | refine TX.done ?_
          | refine TX.gt ?_
          | refine TX.gf ?_
          | (refine TX.gs ?_ ?_ <;> intro hc <;> rw [hc] <;> ((try simp only [zn] at hc) <;> (try simp (disch := omega) only [zz hA, zb, zy, reduceCtorEq, Bool.false_eq_true, Int.reduceLT, Int.reduceLE, Int.reduceNeg] at hc) <;> (try simp only [zw] at hc)) <;> (try (exfalso; omega)))
          | (refine TX.kC ?_; first | (with_reducible refine TX.call (hfd) ?_) | ((first | refine TX.call (hfd) ?_)) | fail)
          | (refine TX.kO ?_; (first | refine TX.callO (hfd) (by simp [allEq]) rfl ?_))
          | ((first | (refine TX.k 1 ?_; first | refine TX.one (One.elemM hA tabOk rfl rfl rfl rfl ?_ ?_) ?_ | refine TX.one (One.elemOwnM hA tabOk rfl rfl rfl rfl rfl ?_ ?_) ?_) | (refine TX.k 8 ?_; first | refine TX.one (One.eqBoolM hA tabOk rfl rfl rfl rfl rfl) ?_) | (refine TX.k 10 ?_; first | refine TX.one (One.lenOwnM hA tabOk rfl rfl rfl rfl) ?_) | (refine TX.k 14 ?_; first | refine TX.one (One.loadRatM hA tabOk rfl rfl rfl rfl rfl rfl ?_) ?_) | (refine TX.k 18 ?_; first | refine TX.one (One.fieldRat tabOk rfl rfl rfl rfl (by decide) rfl rfl) ?_)) <;> (first | refine TRg.pass ?_ | (((try simp only [zn]) <;> (try simp (disch := omega) only [zz hA, zb, zy, reduceCtorEq, Bool.false_eq_true, Int.reduceLT, Int.reduceLE, Int.reduceNeg]) <;> (try simp only [zw])) <;> omega)))
          | refine TX.raw ?_)
      | refine Fin3.of (by conv => lhs; cbv) (by repeat' (first | exact True.intro | exact rfl | refine And.intro ?_ ?_)) ?_ ?_
      | (refine AllO.pass ?_; first
          | exact AllO.nil
          | (refine AllO.cons (One.ev hA tabOk ?_) ?_ <;> (first | refine AllO.pass ?_ | ((conv => lhs; cbv); done)))
          | (refine AllO.cons (One.skipB ?_) ?_ <;> (first | refine AllO.pass ?_ | ((conv => lhs; cbv); done)))
          | ((with_reducible refine AllO.call (by conv => lhs; cbv) (hfd) ?_ ?_) <;> (first | refine AllO.pass ?_ | exact rfl | (((try simp only [zn]) <;> (try simp (disch := omega) only [zz hA, zb, zy, reduceCtorEq, Bool.false_eq_true, Int.reduceLT, Int.reduceLE, Int.reduceNeg]) <;> (try simp only [zw])) <;> omega)))
          | ((first | refine AllO.consX (One.elemM hA tabOk rfl rfl rfl rfl ?_ ?_) rfl rfl ?_ | refine AllO.consX (One.lenOwnM hA tabOk rfl rfl rfl rfl) rfl rfl ?_ | refine AllO.consX (One.elemOwnM hA tabOk rfl rfl rfl rfl rfl ?_ ?_) rfl rfl ?_ | refine AllO.consX (One.loadRatM hA tabOk rfl rfl rfl rfl rfl rfl ?_) rfl rfl ?_) <;> (first | refine AllO.pass ?_ | (((try simp only [zn]) <;> (try simp (disch := omega) only [zz hA, zb, zy, reduceCtorEq, Bool.false_eq_true, Int.reduceLT, Int.reduceLE, Int.reduceNeg]) <;> (try simp only [zw])) <;> omega))))
      | refine Thn.exit ?_
      | refine Blk.here ?_
      | refine Blk.other (by decide) ?_
      | refine ⟨.inl rfl, _, RetOk.ev tabOk (by conv => lhs; cbv), ?_⟩
      | fail)
    refine rPV_then (by conv => lhs; cbv) ?_
    rw [hps, hid_eq hA]
  · rw [if_neg hi] at hps
    have hm : l.getD i.toNat default ∈ l := by rw [List.getD_eq_getElem?_getD, List.getElem?_eq_getElem (by omega)]; exact List.getElem_mem _
    have hz := (hsz _ hm).2
    by_cases hk : k = 3
    · rw [if_pos hk] at hps
      try first | refine AOLg.of [] ?_ | refine QSg.of [] ?_
      repeat' (first
        | (refine AWp.pass ?_; first
            | refine AWp.seq ?_
            | refine AWp.block ?_
            | refine AWp.skip ?_
            | refine AWp.regG [] (by conv => lhs; cbv) ?_
            | refine AWp.cond_t rfl ?_
            | refine AWp.cond_f rfl ?_
            | (refine AWp.cond rfl ?_ ?_ <;> intro hc <;> (try rw [hc]) <;> ((try simp only [zn] at hc) <;> (try simp (disch := omega) only [zz hA, zb, zy, reduceCtorEq, Bool.false_eq_true, Int.reduceLT, Int.reduceLE, Int.reduceNeg] at hc) <;> (try simp only [zw] at hc)) <;> (try (exfalso; omega)))
            | refine AWp.exit ?_
            | refine AWp.ret ⟨.inr rfl, _, RetOk.ev tabOk (by conv => lhs; cbv), ?_⟩
            | refine AWp.drawVG [] rfl (by decide +kernel) (by conv => lhs; cbv) ?_)
        | (refine AOLg.pass ?_; refine AOLg.nx hA tabOk (by conv => lhs; cbv) ?_; first
            | refine NX.done ?_
            | refine NX.gt ?_
            | refine NX.gf ?_
            | (refine NX.gs ?_ ?_ <;> intro hc <;> rw [hc] <;> ((try simp only [zn] at hc) <;> (try simp (disch := omega) only [zz hA, zb, zy, reduceCtorEq, Bool.false_eq_true, Int.reduceLT, Int.reduceLE, Int.reduceNeg] at hc) <;> (try simp only [zw] at hc)) <;> (try (exfalso; omega)))
            | (refine NX.kC ?_; first | (with_reducible refine NX.call (hfd) ?_) | ((first | refine NX.call (hfd) ?_)) | fail)
            | (refine NX.kO ?_; (first | refine NX.callO (hfd) (by simp [allEq]) rfl ?_))
            | ((first | (refine NX.k 1 ?_; first | refine NX.one (One.elemM hA tabOk rfl rfl rfl rfl ?_ ?_) ?_ | refine NX.one (One.elemOwnM hA tabOk rfl rfl rfl rfl rfl ?_ ?_) ?_) | (refine NX.k 8 ?_; first | refine NX.one (One.eqBoolM hA tabOk rfl rfl rfl rfl rfl) ?_) | (refine NX.k 10 ?_; first | refine NX.one (One.lenOwnM hA tabOk rfl rfl rfl rfl) ?_) | (refine NX.k 14 ?_; first | refine NX.one (One.loadRatM hA tabOk rfl rfl rfl rfl rfl rfl ?_) ?_) | (refine NX.k 18 ?_; first | refine NX.one (One.fieldRat tabOk rfl rfl rfl rfl (by decide) rfl rfl) ?_)) <;> (first | refine AOLg.pass ?_ | (((try simp only [zn]) <;> (try simp (disch := omega) only [zz hA, zb, zy, reduceCtorEq, Bool.false_eq_true, Int.reduceLT, Int.reduceLE, Int.reduceNeg]) <;> (try simp only [zw])) <;> omega)))
            | refine NX.raw ?_)
        | (refine TRg.pass ?_; refine TRg.nx hA tabOk (by conv => lhs; cbv) ?_; first
            | refine TX.done ?_
            | refine TX.gt ?_
            | refine TX.gf ?_
            | (refine TX.gs ?_ ?_ <;> intro hc <;> rw [hc] <;> ((try simp only [zn] at hc) <;> (try simp (disch := omega) only [zz hA, zb, zy, reduceCtorEq, Bool.false_eq_true, Int.reduceLT, Int.reduceLE, Int.reduceNeg] at hc) <;> (try simp only [zw] at hc)) <;> (try (exfalso; omega)))
            | (refine TX.kC ?_; first | (with_reducible refine TX.call (hfd) ?_) | ((first | refine TX.call (hfd) ?_)) | fail)
            | (refine TX.kO ?_; (first | refine TX.callO (hfd) (by simp [allEq]) rfl ?_))
            | ((first | (refine TX.k 1 ?_; first | refine TX.one (One.elemM hA tabOk rfl rfl rfl rfl ?_ ?_) ?_ | refine TX.one (One.elemOwnM hA tabOk rfl rfl rfl rfl rfl ?_ ?_) ?_) | (refine TX.k 8 ?_; first | refine TX.one (One.eqBoolM hA tabOk rfl rfl rfl rfl rfl) ?_) | (refine TX.k 10 ?_; first | refine TX.one (One.lenOwnM hA tabOk rfl rfl rfl rfl) ?_) | (refine TX.k 14 ?_; first | refine TX.one (One.loadRatM hA tabOk rfl rfl rfl rfl rfl rfl ?_) ?_) | (refine TX.k 18 ?_; first | refine TX.one (One.fieldRat tabOk rfl rfl rfl rfl (by decide) rfl rfl) ?_)) <;> (first | refine TRg.pass ?_ | (((try simp only [zn]) <;> (try simp (disch := omega) only [zz hA, zb, zy, reduceCtorEq, Bool.false_eq_true, Int.reduceLT, Int.reduceLE, Int.reduceNeg]) <;> (try simp only [zw])) <;> omega)))
            | refine TX.raw ?_)
        | refine Fin3.of (by conv => lhs; cbv) (by repeat' (first | exact True.intro | exact rfl | refine And.intro ?_ ?_)) ?_ ?_
        | (refine AllO.pass ?_; first
            | exact AllO.nil
            | (refine AllO.cons (One.ev hA tabOk ?_) ?_ <;> (first | refine AllO.pass ?_ | ((conv => lhs; cbv); done)))
            | (refine AllO.cons (One.skipB ?_) ?_ <;> (first | refine AllO.pass ?_ | ((conv => lhs; cbv); done)))
            | ((with_reducible refine AllO.call (by conv => lhs; cbv) (hfd) ?_ ?_) <;> (first | refine AllO.pass ?_ | exact rfl | (((try simp only [zn]) <;> (try simp (disch := omega) only [zz hA, zb, zy, reduceCtorEq, Bool.false_eq_true, Int.reduceLT, Int.reduceLE, Int.reduceNeg]) <;> (try simp only [zw])) <;> omega)))
            | ((first | refine AllO.consX (One.elemM hA tabOk rfl rfl rfl rfl ?_ ?_) rfl rfl ?_ | refine AllO.consX (One.lenOwnM hA tabOk rfl rfl rfl rfl) rfl rfl ?_ | refine AllO.consX (One.elemOwnM hA tabOk rfl rfl rfl rfl rfl ?_ ?_) rfl rfl ?_ | refine AllO.consX (One.loadRatM hA tabOk rfl rfl rfl rfl rfl rfl ?_) rfl rfl ?_) <;> (first | refine AllO.pass ?_ | (((try simp only [zn]) <;> (try simp (disch := omega) only [zz hA, zb, zy, reduceCtorEq, Bool.false_eq_true, Int.reduceLT, Int.reduceLE, Int.reduceNeg]) <;> (try simp only [zw])) <;> omega))))
        | refine Thn.exit ?_
        | refine Blk.here ?_
        | refine Blk.other (by decide) ?_
        | refine ⟨.inl rfl, _, RetOk.ev tabOk (by conv => lhs; cbv), ?_⟩
        | fail)
      refine rPV_then (by conv => lhs; cbv) ?_
      rw [hps]
      simp [hA, real, hid, argG]
    · rw [if_neg hk] at hps
      try first | refine AOLg.of [] ?_ | refine QSg.of [] ?_
      repeat' (first
        | (refine AWp.pass ?_; first
            | refine AWp.seq ?_
            | refine AWp.block ?_
            | refine AWp.skip ?_
            | refine AWp.regG [] (by conv => lhs; cbv) ?_
            | refine AWp.cond_t rfl ?_
            | refine AWp.cond_f rfl ?_
            | (refine AWp.cond rfl ?_ ?_ <;> intro hc <;> (try rw [hc]) <;> ((try simp only [zn] at hc) <;> (try simp (disch := omega) only [zz hA, zb, zy, reduceCtorEq, Bool.false_eq_true, Int.reduceLT, Int.reduceLE, Int.reduceNeg] at hc) <;> (try simp only [zw] at hc)) <;> (try (exfalso; omega)))
            | refine AWp.exit ?_
            | refine AWp.ret ⟨.inr rfl, _, RetOk.ev tabOk (by conv => lhs; cbv), ?_⟩
            | refine AWp.drawVG [] rfl (by decide +kernel) (by conv => lhs; cbv) ?_)
        | (refine AOLg.pass ?_; refine AOLg.nx hA tabOk (by conv => lhs; cbv) ?_; first
            | refine NX.done ?_
            | refine NX.gt ?_
            | refine NX.gf ?_
            | (refine NX.gs ?_ ?_ <;> intro hc <;> rw [hc] <;> ((try simp only [zn] at hc) <;> (try simp (disch := omega) only [zz hA, zb, zy, reduceCtorEq, Bool.false_eq_true, Int.reduceLT, Int.reduceLE, Int.reduceNeg] at hc) <;> (try simp only [zw] at hc)) <;> (try (exfalso; omega)))
            | (refine NX.kC ?_; first | (with_reducible refine NX.call (hfd) ?_) | ((first | refine NX.call (hfd) ?_)) | fail)
            | (refine NX.kO ?_; (first | refine NX.callO (hfd) (by simp [allEq]) rfl ?_))
            | ((first | (refine NX.k 1 ?_; first | refine NX.one (One.elemM hA tabOk rfl rfl rfl rfl ?_ ?_) ?_ | refine NX.one (One.elemOwnM hA tabOk rfl rfl rfl rfl rfl ?_ ?_) ?_) | (refine NX.k 8 ?_; first | refine NX.one (One.eqBoolM hA tabOk rfl rfl rfl rfl rfl) ?_) | (refine NX.k 10 ?_; first | refine NX.one (One.lenOwnM hA tabOk rfl rfl rfl rfl) ?_) | (refine NX.k 14 ?_; first | refine NX.one (One.loadRatM hA tabOk rfl rfl rfl rfl rfl rfl ?_) ?_) | (refine NX.k 18 ?_; first | refine NX.one (One.fieldRat tabOk rfl rfl rfl rfl (by decide) rfl rfl) ?_)) <;> (first | refine AOLg.pass ?_ | (((try simp only [zn]) <;> (try simp (disch := omega) only [zz hA, zb, zy, reduceCtorEq, Bool.false_eq_true, Int.reduceLT, Int.reduceLE, Int.reduceNeg]) <;> (try simp only [zw])) <;> omega)))
            | refine NX.raw ?_)
        | (refine TRg.pass ?_; refine TRg.nx hA tabOk (by conv => lhs; cbv) ?_; first
            | refine TX.done ?_
            | refine TX.gt ?_
            | refine TX.gf ?_
            | (refine TX.gs ?_ ?_ <;> intro hc <;> rw [hc] <;> ((try simp only [zn] at hc) <;> (try simp (disch := omega) only [zz hA, zb, zy, reduceCtorEq, Bool.false_eq_true, Int.reduceLT, Int.reduceLE, Int.reduceNeg] at hc) <;> (try simp only [zw] at hc)) <;> (try (exfalso; omega)))
            | (refine TX.kC ?_; first | (with_reducible refine TX.call (hfd) ?_) | ((first | refine TX.call (hfd) ?_)) | fail)
            | (refine TX.kO ?_; (first | refine TX.callO (hfd) (by simp [allEq]) rfl ?_))
            | ((first | (refine TX.k 1 ?_; first | refine TX.one (One.elemM hA tabOk rfl rfl rfl rfl ?_ ?_) ?_ | refine TX.one (One.elemOwnM hA tabOk rfl rfl rfl rfl rfl ?_ ?_) ?_) | (refine TX.k 8 ?_; first | refine TX.one (One.eqBoolM hA tabOk rfl rfl rfl rfl rfl) ?_) | (refine TX.k 10 ?_; first | refine TX.one (One.lenOwnM hA tabOk rfl rfl rfl rfl) ?_) | (refine TX.k 14 ?_; first | refine TX.one (One.loadRatM hA tabOk rfl rfl rfl rfl rfl rfl ?_) ?_) | (refine TX.k 18 ?_; first | refine TX.one (One.fieldRat tabOk rfl rfl rfl rfl (by decide) rfl rfl) ?_)) <;> (first | refine TRg.pass ?_ | (((try simp only [zn]) <;> (try simp (disch := omega) only [zz hA, zb, zy, reduceCtorEq, Bool.false_eq_true, Int.reduceLT, Int.reduceLE, Int.reduceNeg]) <;> (try simp only [zw])) <;> omega)))
            | refine TX.raw ?_)
        | refine Fin3.of (by conv => lhs; cbv) (by repeat' (first | exact True.intro | exact rfl | refine And.intro ?_ ?_)) ?_ ?_
        | (refine AllO.pass ?_; first
            | exact AllO.nil
            | (refine AllO.cons (One.ev hA tabOk ?_) ?_ <;> (first | refine AllO.pass ?_ | ((conv => lhs; cbv); done)))
            | (refine AllO.cons (One.skipB ?_) ?_ <;> (first | refine AllO.pass ?_ | ((conv => lhs; cbv); done)))
            | ((with_reducible refine AllO.call (by conv => lhs; cbv) (hfd) ?_ ?_) <;> (first | refine AllO.pass ?_ | exact rfl | (((try simp only [zn]) <;> (try simp (disch := omega) only [zz hA, zb, zy, reduceCtorEq, Bool.false_eq_true, Int.reduceLT, Int.reduceLE, Int.reduceNeg]) <;> (try simp only [zw])) <;> omega)))
            | ((first | refine AllO.consX (One.elemM hA tabOk rfl rfl rfl rfl ?_ ?_) rfl rfl ?_ | refine AllO.consX (One.lenOwnM hA tabOk rfl rfl rfl rfl) rfl rfl ?_ | refine AllO.consX (One.elemOwnM hA tabOk rfl rfl rfl rfl rfl ?_ ?_) rfl rfl ?_ | refine AllO.consX (One.loadRatM hA tabOk rfl rfl rfl rfl rfl rfl ?_) rfl rfl ?_) <;> (first | refine AllO.pass ?_ | (((try simp only [zn]) <;> (try simp (disch := omega) only [zz hA, zb, zy, reduceCtorEq, Bool.false_eq_true, Int.reduceLT, Int.reduceLE, Int.reduceNeg]) <;> (try simp only [zw])) <;> omega))))
        | refine Thn.exit ?_
        | refine Blk.here ?_
        | refine Blk.other (by decide) ?_
        | refine ⟨.inl rfl, _, RetOk.ev tabOk (by conv => lhs; cbv), ?_⟩
        | fail)
      refine rPV_then (by conv => lhs; cbv) ?_
      rw [hps]
      simp [hA, real, hid, argG]
set_option maxHeartbeats 4000000 in
theorem vary_c (l : List Sg) (k : Int) (s : ByteArray) (n : Int) (j : Nat) (hl : l.length ≤ 1000000) (hsz : FitG l) (hk : 3 ≤ k ∧ k ≤ 6) (h3 : k = 3 → (j : Int) < n) (h6 : k = 6 → 1 ≤ n ∧ n ≤ 8) (z : Int) (hz : z = j) : PureCalls Try.prog 34 [slP A 2 (encG A) l, ndP k s n, IP z] (UP (hid A (varyD l k s n j))) := by
  have hfd := find_G hA l s
  have hfb := findG_bound l s
  have hkn := known_c hA l k s n hl hsz
  have hkd : knownD l k s n = true → 0 ≤ findG l s ∧ (k = 3 → ((argG l (findG l s)).size : Int) = n) ∧ (k ≠ 3 → n ≤ (argG l (findG l s)).size) := fun h => by
    unfold knownD at h
    split at h
    · cases h
    split at h
    · rename_i h1 h2; exact ⟨by omega, fun _ => of_decide_eq_true h, fun h3 => (h3 h2).elim⟩
    · rename_i h1 h2; exact ⟨by omega, fun h3 => (h2 h3).elim, fun _ => of_decide_eq_true h⟩
  have hvd : varyD l k s n j = if k = 3 ∨ k = 6 then (if knownD l k s n = true then (if k = 6 then sb (argG l (findG l s)) (n - 1) else sb (argG l (findG l s)) j) else 61) else 43 := rfl
  generalize varyD l k s n j = V at *
  generalize findG l s = i at *
  generalize knownD l k s n = b at *
  refine PureCalls.of Try.func34 rfl (by kernel_rfl) rfl ?_
  have hk4 : k = 3 ∨ k = 4 ∨ k = 5 ∨ k = 6 := by omega
  cases b with
  | false =>
    rw [hid_eq hA (α := Bool)] at hkn
    rcases hk4 with rfl | rfl | rfl | rfl <;> (
      try first | refine AOLg.of [] ?_ | refine QSg.of [] ?_
      repeat' (first
        | (refine AWp.pass ?_; first
            | refine AWp.seq ?_
            | refine AWp.block ?_
            | refine AWp.skip ?_
            | refine AWp.regG [] (by conv => lhs; cbv) ?_
            | refine AWp.cond_t rfl ?_
            | refine AWp.cond_f rfl ?_
            | (refine AWp.cond rfl ?_ ?_ <;> intro hc <;> (try rw [hc]) <;> ((try simp only [zn] at hc) <;> (try simp (disch := omega) only [zz hA, zb, zy, reduceCtorEq, Bool.false_eq_true, Int.reduceLT, Int.reduceLE, Int.reduceNeg] at hc) <;> (try simp only [zw] at hc)) <;> (try (exfalso; omega)))
            | refine AWp.exit ?_
            | refine AWp.ret ⟨.inr rfl, _, RetOk.ev tabOk (by conv => lhs; cbv), ?_⟩)
        | (refine AOLg.pass ?_; refine AOLg.nx hA tabOk (by conv => lhs; cbv) ?_; first
            | refine NX.done ?_
            | refine NX.gt ?_
            | refine NX.gf ?_
            | (refine NX.gs ?_ ?_ <;> intro hc <;> rw [hc] <;> ((try simp only [zn] at hc) <;> (try simp (disch := omega) only [zz hA, zb, zy, reduceCtorEq, Bool.false_eq_true, Int.reduceLT, Int.reduceLE, Int.reduceNeg] at hc) <;> (try simp only [zw] at hc)) <;> (try (exfalso; omega)))
            | (refine NX.kC ?_; first | (with_reducible refine NX.call (hfd) ?_) | (with_reducible refine NX.call (hkn) ?_) | ((first | refine NX.call (hfd) ?_ | refine NX.call (hkn) ?_)) | fail)
            | (refine NX.kO ?_; (first | refine NX.callO (hfd) (by simp [allEq]) rfl ?_ | refine NX.callO (hkn) (by simp [allEq]) rfl ?_))
            | ((first | (refine NX.k 1 ?_; first | refine NX.one (One.elemM hA tabOk rfl rfl rfl rfl ?_ ?_) ?_ | refine NX.one (One.elemOwnM hA tabOk rfl rfl rfl rfl rfl ?_ ?_) ?_) | (refine NX.k 8 ?_; first | refine NX.one (One.eqBoolM hA tabOk rfl rfl rfl rfl rfl) ?_) | (refine NX.k 13 ?_; first | refine NX.one (One.byteM hA tabOk rfl rfl rfl rfl rfl ?_ ?_) ?_) | (refine NX.k 14 ?_; first | refine NX.one (One.loadRatM hA tabOk rfl rfl rfl rfl rfl rfl ?_) ?_) | (refine NX.k 18 ?_; first | refine NX.one (One.fieldRat tabOk rfl rfl rfl rfl (by decide) rfl rfl) ?_)) <;> (first | refine AOLg.pass ?_ | (((try simp only [zn]) <;> (try simp (disch := omega) only [zz hA, zb, zy, reduceCtorEq, Bool.false_eq_true, Int.reduceLT, Int.reduceLE, Int.reduceNeg]) <;> (try simp only [zw])) <;> omega)))
            | refine NX.raw ?_)
        | refine Thn.exit ?_
        | refine Blk.here ?_
        | refine Blk.other (by decide) ?_
        | refine ⟨.inl rfl, _, RetOk.ev tabOk (by conv => lhs; cbv), ?_⟩
        | fail)
      refine rPV_then (by conv => lhs; cbv) ?_
      rw [hvd]
      simp [hid_eq hA])
  | true =>
    rw [hid_eq hA (α := Bool)] at hkn
    obtain ⟨hi0, hs3, hs6⟩ := hkd rfl
    unfold argG at hs3 hs6
    rcases hk4 with rfl | rfl | rfl | rfl
    · have hs := hs3 rfl
      have hj := h3 rfl
      try first | refine AOLg.of [] ?_ | refine QSg.of [] ?_
      repeat' (first
        | (refine AWp.pass ?_; first
            | refine AWp.seq ?_
            | refine AWp.block ?_
            | refine AWp.skip ?_
            | refine AWp.regG [] (by conv => lhs; cbv) ?_
            | refine AWp.cond_t rfl ?_
            | refine AWp.cond_f rfl ?_
            | (refine AWp.cond rfl ?_ ?_ <;> intro hc <;> (try rw [hc]) <;> ((try simp only [zn] at hc) <;> (try simp (disch := omega) only [zz hA, zb, zy, reduceCtorEq, Bool.false_eq_true, Int.reduceLT, Int.reduceLE, Int.reduceNeg] at hc) <;> (try simp only [zw] at hc)) <;> (try (exfalso; omega)))
            | refine AWp.exit ?_
            | refine AWp.ret ⟨.inr rfl, _, RetOk.ev tabOk (by conv => lhs; cbv), ?_⟩)
        | (refine AOLg.pass ?_; refine AOLg.nx hA tabOk (by conv => lhs; cbv) ?_; first
            | refine NX.done ?_
            | refine NX.gt ?_
            | refine NX.gf ?_
            | (refine NX.gs ?_ ?_ <;> intro hc <;> rw [hc] <;> ((try simp only [zn] at hc) <;> (try simp (disch := omega) only [zz hA, zb, zy, reduceCtorEq, Bool.false_eq_true, Int.reduceLT, Int.reduceLE, Int.reduceNeg] at hc) <;> (try simp only [zw] at hc)) <;> (try (exfalso; omega)))
            | (refine NX.kC ?_; first | (with_reducible refine NX.call (hfd) ?_) | (with_reducible refine NX.call (hkn) ?_) | ((first | refine NX.call (hfd) ?_ | refine NX.call (hkn) ?_)) | fail)
            | (refine NX.kO ?_; (first | refine NX.callO (hfd) (by simp [allEq]) rfl ?_ | refine NX.callO (hkn) (by simp [allEq]) rfl ?_))
            | ((first | (refine NX.k 1 ?_; first | refine NX.one (One.elemM hA tabOk rfl rfl rfl rfl ?_ ?_) ?_ | refine NX.one (One.elemOwnM hA tabOk rfl rfl rfl rfl rfl ?_ ?_) ?_) | (refine NX.k 8 ?_; first | refine NX.one (One.eqBoolM hA tabOk rfl rfl rfl rfl rfl) ?_) | (refine NX.k 13 ?_; first | refine NX.one (One.byteM hA tabOk rfl rfl rfl rfl rfl ?_ ?_) ?_) | (refine NX.k 14 ?_; first | refine NX.one (One.loadRatM hA tabOk rfl rfl rfl rfl rfl rfl ?_) ?_) | (refine NX.k 18 ?_; first | refine NX.one (One.fieldRat tabOk rfl rfl rfl rfl (by decide) rfl rfl) ?_)) <;> (first | refine AOLg.pass ?_ | (((try simp only [zn]) <;> (try simp (disch := omega) only [zz hA, zb, zy, reduceCtorEq, Bool.false_eq_true, Int.reduceLT, Int.reduceLE, Int.reduceNeg]) <;> (try simp only [zw])) <;> omega)))
            | refine NX.raw ?_)
        | refine Thn.exit ?_
        | refine Blk.here ?_
        | refine Blk.other (by decide) ?_
        | refine ⟨.inl rfl, _, RetOk.ev tabOk (by conv => lhs; cbv), ?_⟩
        | fail)
      refine rPV_then (by conv => lhs; cbv) ?_
      rw [hvd, hz]
      simp [hid_eq hA, argG]
    · try first | refine AOLg.of [] ?_ | refine QSg.of [] ?_
      repeat' (first
        | (refine AWp.pass ?_; first
            | refine AWp.seq ?_
            | refine AWp.block ?_
            | refine AWp.skip ?_
            | refine AWp.regG [] (by conv => lhs; cbv) ?_
            | refine AWp.cond_t rfl ?_
            | refine AWp.cond_f rfl ?_
            | (refine AWp.cond rfl ?_ ?_ <;> intro hc <;> (try rw [hc]) <;> ((try simp only [zn] at hc) <;> (try simp (disch := omega) only [zz hA, zb, zy, reduceCtorEq, Bool.false_eq_true, Int.reduceLT, Int.reduceLE, Int.reduceNeg] at hc) <;> (try simp only [zw] at hc)) <;> (try (exfalso; omega)))
            | refine AWp.exit ?_
            | refine AWp.ret ⟨.inr rfl, _, RetOk.ev tabOk (by conv => lhs; cbv), ?_⟩)
        | (refine AOLg.pass ?_; refine AOLg.nx hA tabOk (by conv => lhs; cbv) ?_; first
            | refine NX.done ?_
            | refine NX.gt ?_
            | refine NX.gf ?_
            | (refine NX.gs ?_ ?_ <;> intro hc <;> rw [hc] <;> ((try simp only [zn] at hc) <;> (try simp (disch := omega) only [zz hA, zb, zy, reduceCtorEq, Bool.false_eq_true, Int.reduceLT, Int.reduceLE, Int.reduceNeg] at hc) <;> (try simp only [zw] at hc)) <;> (try (exfalso; omega)))
            | (refine NX.kC ?_; first | (with_reducible refine NX.call (hfd) ?_) | (with_reducible refine NX.call (hkn) ?_) | ((first | refine NX.call (hfd) ?_ | refine NX.call (hkn) ?_)) | fail)
            | (refine NX.kO ?_; (first | refine NX.callO (hfd) (by simp [allEq]) rfl ?_ | refine NX.callO (hkn) (by simp [allEq]) rfl ?_))
            | ((first | (refine NX.k 1 ?_; first | refine NX.one (One.elemM hA tabOk rfl rfl rfl rfl ?_ ?_) ?_ | refine NX.one (One.elemOwnM hA tabOk rfl rfl rfl rfl rfl ?_ ?_) ?_) | (refine NX.k 8 ?_; first | refine NX.one (One.eqBoolM hA tabOk rfl rfl rfl rfl rfl) ?_) | (refine NX.k 13 ?_; first | refine NX.one (One.byteM hA tabOk rfl rfl rfl rfl rfl ?_ ?_) ?_) | (refine NX.k 14 ?_; first | refine NX.one (One.loadRatM hA tabOk rfl rfl rfl rfl rfl rfl ?_) ?_) | (refine NX.k 18 ?_; first | refine NX.one (One.fieldRat tabOk rfl rfl rfl rfl (by decide) rfl rfl) ?_)) <;> (first | refine AOLg.pass ?_ | (((try simp only [zn]) <;> (try simp (disch := omega) only [zz hA, zb, zy, reduceCtorEq, Bool.false_eq_true, Int.reduceLT, Int.reduceLE, Int.reduceNeg]) <;> (try simp only [zw])) <;> omega)))
            | refine NX.raw ?_)
        | refine Thn.exit ?_
        | refine Blk.here ?_
        | refine Blk.other (by decide) ?_
        | refine ⟨.inl rfl, _, RetOk.ev tabOk (by conv => lhs; cbv), ?_⟩
        | fail)
      refine rPV_then (by conv => lhs; cbv) ?_
      rw [hvd]
      simp [hid_eq hA]
    · try first | refine AOLg.of [] ?_ | refine QSg.of [] ?_
      repeat' (first
        | (refine AWp.pass ?_; first
            | refine AWp.seq ?_
            | refine AWp.block ?_
            | refine AWp.skip ?_
            | refine AWp.regG [] (by conv => lhs; cbv) ?_
            | refine AWp.cond_t rfl ?_
            | refine AWp.cond_f rfl ?_
            | (refine AWp.cond rfl ?_ ?_ <;> intro hc <;> (try rw [hc]) <;> ((try simp only [zn] at hc) <;> (try simp (disch := omega) only [zz hA, zb, zy, reduceCtorEq, Bool.false_eq_true, Int.reduceLT, Int.reduceLE, Int.reduceNeg] at hc) <;> (try simp only [zw] at hc)) <;> (try (exfalso; omega)))
            | refine AWp.exit ?_
            | refine AWp.ret ⟨.inr rfl, _, RetOk.ev tabOk (by conv => lhs; cbv), ?_⟩)
        | (refine AOLg.pass ?_; refine AOLg.nx hA tabOk (by conv => lhs; cbv) ?_; first
            | refine NX.done ?_
            | refine NX.gt ?_
            | refine NX.gf ?_
            | (refine NX.gs ?_ ?_ <;> intro hc <;> rw [hc] <;> ((try simp only [zn] at hc) <;> (try simp (disch := omega) only [zz hA, zb, zy, reduceCtorEq, Bool.false_eq_true, Int.reduceLT, Int.reduceLE, Int.reduceNeg] at hc) <;> (try simp only [zw] at hc)) <;> (try (exfalso; omega)))
            | (refine NX.kC ?_; first | (with_reducible refine NX.call (hfd) ?_) | (with_reducible refine NX.call (hkn) ?_) | ((first | refine NX.call (hfd) ?_ | refine NX.call (hkn) ?_)) | fail)
            | (refine NX.kO ?_; (first | refine NX.callO (hfd) (by simp [allEq]) rfl ?_ | refine NX.callO (hkn) (by simp [allEq]) rfl ?_))
            | ((first | (refine NX.k 1 ?_; first | refine NX.one (One.elemM hA tabOk rfl rfl rfl rfl ?_ ?_) ?_ | refine NX.one (One.elemOwnM hA tabOk rfl rfl rfl rfl rfl ?_ ?_) ?_) | (refine NX.k 8 ?_; first | refine NX.one (One.eqBoolM hA tabOk rfl rfl rfl rfl rfl) ?_) | (refine NX.k 13 ?_; first | refine NX.one (One.byteM hA tabOk rfl rfl rfl rfl rfl ?_ ?_) ?_) | (refine NX.k 14 ?_; first | refine NX.one (One.loadRatM hA tabOk rfl rfl rfl rfl rfl rfl ?_) ?_) | (refine NX.k 18 ?_; first | refine NX.one (One.fieldRat tabOk rfl rfl rfl rfl (by decide) rfl rfl) ?_)) <;> (first | refine AOLg.pass ?_ | (((try simp only [zn]) <;> (try simp (disch := omega) only [zz hA, zb, zy, reduceCtorEq, Bool.false_eq_true, Int.reduceLT, Int.reduceLE, Int.reduceNeg]) <;> (try simp only [zw])) <;> omega)))
            | refine NX.raw ?_)
        | refine Thn.exit ?_
        | refine Blk.here ?_
        | refine Blk.other (by decide) ?_
        | refine ⟨.inl rfl, _, RetOk.ev tabOk (by conv => lhs; cbv), ?_⟩
        | fail)
      refine rPV_then (by conv => lhs; cbv) ?_
      rw [hvd]
      simp [hid_eq hA]
    · have hs := hs6 (by omega)
      have hn := h6 rfl
      have e1 : A .sub .i64 n 1 = n - 1 := by (((try simp only [zn]) <;> (try simp (disch := omega) only [zz hA, zb, zy, reduceCtorEq, Bool.false_eq_true, Int.reduceLT, Int.reduceLE, Int.reduceNeg]) <;> (try simp only [zw])) <;> omega)
      try first | refine AOLg.of [] ?_ | refine QSg.of [] ?_
      repeat' (first
        | (refine AWp.pass ?_; first
            | refine AWp.seq ?_
            | refine AWp.block ?_
            | refine AWp.skip ?_
            | refine AWp.regG [] (by conv => lhs; cbv) ?_
            | refine AWp.cond_t rfl ?_
            | refine AWp.cond_f rfl ?_
            | (refine AWp.cond rfl ?_ ?_ <;> intro hc <;> (try rw [hc]) <;> ((try simp only [zn] at hc) <;> (try simp (disch := omega) only [zz hA, zb, zy, reduceCtorEq, Bool.false_eq_true, Int.reduceLT, Int.reduceLE, Int.reduceNeg] at hc) <;> (try simp only [zw] at hc)) <;> (try (exfalso; omega)))
            | refine AWp.exit ?_
            | refine AWp.ret ⟨.inr rfl, _, RetOk.ev tabOk (by conv => lhs; cbv), ?_⟩)
        | (refine AOLg.pass ?_; refine AOLg.nx hA tabOk (by conv => lhs; cbv) ?_; first
            | refine NX.done ?_
            | refine NX.gt ?_
            | refine NX.gf ?_
            | (refine NX.gs ?_ ?_ <;> intro hc <;> rw [hc] <;> ((try simp only [zn] at hc) <;> (try simp (disch := omega) only [zz hA, zb, zy, reduceCtorEq, Bool.false_eq_true, Int.reduceLT, Int.reduceLE, Int.reduceNeg] at hc) <;> (try simp only [zw] at hc)) <;> (try (exfalso; omega)))
            | (refine NX.kC ?_; first | (with_reducible refine NX.call (hfd) ?_) | (with_reducible refine NX.call (hkn) ?_) | ((first | refine NX.call (hfd) ?_ | refine NX.call (hkn) ?_)) | fail)
            | (refine NX.kO ?_; (first | refine NX.callO (hfd) (by simp [allEq]) rfl ?_ | refine NX.callO (hkn) (by simp [allEq]) rfl ?_))
            | ((first | (refine NX.k 1 ?_; first | refine NX.one (One.elemM hA tabOk rfl rfl rfl rfl ?_ ?_) ?_ | refine NX.one (One.elemOwnM hA tabOk rfl rfl rfl rfl rfl ?_ ?_) ?_) | (refine NX.k 8 ?_; first | refine NX.one (One.eqBoolM hA tabOk rfl rfl rfl rfl rfl) ?_) | (refine NX.k 13 ?_; first | refine NX.one (One.byteM hA tabOk rfl rfl rfl rfl rfl ?_ ?_) ?_) | (refine NX.k 14 ?_; first | refine NX.one (One.loadRatM hA tabOk rfl rfl rfl rfl rfl rfl ?_) ?_) | (refine NX.k 18 ?_; first | refine NX.one (One.fieldRat tabOk rfl rfl rfl rfl (by decide) rfl rfl) ?_)) <;> (first | refine AOLg.pass ?_ | (((try simp only [zn]) <;> (try simp (disch := omega) only [zz hA, zb, zy, reduceCtorEq, Bool.false_eq_true, Int.reduceLT, Int.reduceLE, Int.reduceNeg]) <;> (try simp only [zw])) <;> omega)))
            | refine NX.raw ?_)
        | refine Thn.exit ?_
        | refine Blk.here ?_
        | refine Blk.other (by decide) ?_
        | refine ⟨.inl rfl, _, RetOk.ev tabOk (by conv => lhs; cbv), ?_⟩
        | fail)
      refine rPV_then (by conv => lhs; cbv) ?_
      rw [hvd]
      simp [hid_eq hA, argG, e1]
theorem backN_4 (p0 p1 p2 p3 : AObj) (E : List Nd) : ACalls Try.prog 27 [.ic (.sl 3 false (hid A (List.map (encD A) E)))] [p0, p1, p2, p3]
    (fun x st' => x = .fn (.func 44) [] [.ptr 4 0] ∧ st' = [p0, p1, p2, p3, .var true 23 [.ic (.sl 3 false (hid A (List.map (encD A) E)))]]) := by
  refine ACalls.of Try.func27 rfl (by kernel_rfl) rfl ?_
  try first | refine AOLg.of [] ?_ | refine QSg.of [] ?_
  repeat' (first
    | (refine AWp.pass ?_; first
        | refine AWp.seq ?_
        | refine AWp.block ?_
        | refine AWp.skip ?_
        | refine AWp.regG [] (by conv => lhs; cbv) ?_
        | refine AWp.cond_t rfl ?_
        | refine AWp.cond_f rfl ?_
        | (refine AWp.cond rfl ?_ ?_ <;> intro hc <;> (try rw [hc]) <;> ((try simp only [zn] at hc) <;> (try simp (disch := omega) only [zz hA, zb, zy, reduceCtorEq, Bool.false_eq_true, Int.reduceLT, Int.reduceLE, Int.reduceNeg] at hc) <;> (try simp only [zw] at hc)) <;> (try (exfalso; omega)))
        | refine AWp.exit ?_
        | refine AWp.ret ⟨.inr rfl, _, RetOk.ev tabOk (by conv => lhs; cbv), ?_⟩)
    | (refine AOLg.pass ?_; refine AOLg.nx hA tabOk (by conv => lhs; cbv) ?_; first
        | refine NX.done ?_
        | refine NX.gt ?_
        | refine NX.gf ?_
        | (refine NX.gs ?_ ?_ <;> intro hc <;> rw [hc] <;> ((try simp only [zn] at hc) <;> (try simp (disch := omega) only [zz hA, zb, zy, reduceCtorEq, Bool.false_eq_true, Int.reduceLT, Int.reduceLE, Int.reduceNeg] at hc) <;> (try simp only [zw] at hc)) <;> (try (exfalso; omega)))
        | refine NX.raw ?_)
    | refine Thn.exit ?_
    | refine Blk.here ?_
    | refine Blk.other (by decide) ?_
    | refine ⟨.inl rfl, _, RetOk.ev tabOk (by conv => lhs; cbv), ?_⟩
    | fail)
  exact ⟨rfl, rfl⟩
theorem backNI_4 (E : List Nd) (J : Nat → List AObj → Prop) (Fin : List AObj → Prop)
    (hJ : ∀ k st, J k st → ∃ p0 p1 p2 p3 p5, st = [p0, p1, p2, p3, .var true 23 [.ic (.sl 3 false (hid A (List.map (encD A) E)))], p5])
    (hy : ∀ k st z a b c, k < E.length → J (k + 1) st → z = (k : Int) → a = ndK (E.getD k default) → b = ndS (E.getD k default) → c = ndN (E.getD k default) → AYield Try.prog 5 [.ic (.lit (.int .i64 z)), .agg [.ic (.lit (.int .i64 a)), .ic (.lit (.string b)), .ic (.lit (.int .i64 c))]] st (fun x st' => x = .ic (Bo true) ∧ J k st' ∨ x = .ic (Bo false) ∧ Fin st'))
    (hlen : E.length ≤ 1000000) (st : List AObj) (h0 : J E.length st) : ACalls Try.prog 44 [.yl 5, .ptr 4 0] st (fun x st' => x = .tup [] ∧ (J 0 st' ∨ Fin st')) := by
  obtain ⟨p0, p1, p2, p3, p5, rfl⟩ := hJ _ _ h0
  refine ACalls.of Try.func44 rfl (by kernel_rfl) rfl ?_
  try first | refine AOLg.of [] ?_ | refine QSg.of [] ?_
  repeat' (first
    | (refine AWp.pass ?_; first
        | refine AWp.seq ?_
        | refine AWp.block ?_
        | refine AWp.skip ?_
        | refine AWp.regG [] (by conv => lhs; cbv) ?_
        | refine AWp.cond_t rfl ?_
        | refine AWp.cond_f rfl ?_
        | (refine AWp.cond rfl ?_ ?_ <;> intro hc <;> (try rw [hc]) <;> ((try simp only [zn] at hc) <;> (try simp (disch := omega) only [zz hA, zb, zy, reduceCtorEq, Bool.false_eq_true, Int.reduceLT, Int.reduceLE, Int.reduceNeg] at hc) <;> (try simp only [zw] at hc)) <;> (try (exfalso; omega)))
        | refine AWp.exit ?_
        | refine AWp.ret ⟨.inr rfl, _, RetOk.ev tabOk (by conv => lhs; cbv), ?_⟩)
    | (refine AOLg.pass ?_; refine AOLg.nx hA tabOk (by conv => lhs; cbv) ?_; first
        | refine NX.done ?_
        | refine NX.gt ?_
        | refine NX.gf ?_
        | (refine NX.gs ?_ ?_ <;> intro hc <;> rw [hc] <;> ((try simp only [zn] at hc) <;> (try simp (disch := omega) only [zz hA, zb, zy, reduceCtorEq, Bool.false_eq_true, Int.reduceLT, Int.reduceLE, Int.reduceNeg] at hc) <;> (try simp only [zw] at hc)) <;> (try (exfalso; omega)))
        | ((first | (refine NX.k 1 ?_; first | refine NX.one (One.elemM hA tabOk rfl rfl rfl rfl ?_ ?_) ?_ | refine NX.one (One.elemOwnM hA tabOk rfl rfl rfl rfl rfl ?_ ?_) ?_) | (refine NX.k 10 ?_; first | refine NX.one (One.lenOwnM hA tabOk rfl rfl rfl rfl) ?_) | (refine NX.k 14 ?_; first | refine NX.one (One.loadRatM hA tabOk rfl rfl rfl rfl rfl rfl ?_) ?_)) <;> (first | refine AOLg.pass ?_ | (((try simp only [zn]) <;> (try simp (disch := omega) only [zz hA, zb, zy, reduceCtorEq, Bool.false_eq_true, Int.reduceLT, Int.reduceLE, Int.reduceNeg]) <;> (try simp only [zw])) <;> omega)))
        | refine NX.raw ?_)
    | refine Thn.exit ?_
    | refine Blk.here ?_
    | refine Blk.other (by decide) ?_
    | refine ⟨.inl rfl, _, RetOk.ev tabOk (by conv => lhs; cbv), ?_⟩
    | fail)
  refine AWp.loopU (fun x : Nat × List AObj => [(3, .ic (.lit (.int .i64 (hid A (cN x.1 - 1)))))]) (fun x => x.2) (fun x => x.1) (fun x => x.1 ≤ E.length ∧ J x.1 x.2) (E.length, _) (by conv => lhs; cbv) ⟨by simp, h0⟩ (.int rfl (by (((try simp only [zn]) <;> (try simp (disch := omega) only [zz hA, zb, zy, reduceCtorEq, Bool.false_eq_true, Int.reduceLT, Int.reduceLE, Int.reduceNeg]) <;> (try simp only [zw])) <;> omega)) .nil) rfl ?_
  rintro ⟨k, st⟩ ⟨hk, hj⟩
  simp only [] at hk hj ⊢
  obtain ⟨p0, p1, p2, p3, p5, rfl⟩ := hJ _ _ hj
  cases k with
  | zero =>
    try first | refine AOLg.of [] ?_ | refine QSg.of [] ?_
    repeat' (first
      | (refine AWp.pass ?_; first
          | refine AWp.seq ?_
          | refine AWp.block ?_
          | refine AWp.skip ?_
          | refine AWp.regG [] (by conv => lhs; cbv) ?_
          | refine AWp.cond_t rfl ?_
          | refine AWp.cond_f rfl ?_
          | (refine AWp.cond rfl ?_ ?_ <;> intro hc <;> (try rw [hc]) <;> ((try simp only [zn] at hc) <;> (try simp (disch := omega) only [zz hA, zb, zy, reduceCtorEq, Bool.false_eq_true, Int.reduceLT, Int.reduceLE, Int.reduceNeg] at hc) <;> (try simp only [zw] at hc)) <;> (try (exfalso; omega)))
          | refine AWp.exit ?_
          | refine AWp.ret ⟨.inr rfl, _, RetOk.ev tabOk (by conv => lhs; cbv), ?_⟩)
      | (refine AOLg.pass ?_; refine AOLg.nx hA tabOk (by conv => lhs; cbv) ?_; first
          | refine NX.done ?_
          | refine NX.gt ?_
          | refine NX.gf ?_
          | (refine NX.gs ?_ ?_ <;> intro hc <;> rw [hc] <;> ((try simp only [zn] at hc) <;> (try simp (disch := omega) only [zz hA, zb, zy, reduceCtorEq, Bool.false_eq_true, Int.reduceLT, Int.reduceLE, Int.reduceNeg] at hc) <;> (try simp only [zw] at hc)) <;> (try (exfalso; omega)))
          | ((first | (refine NX.k 1 ?_; first | refine NX.one (One.elemM hA tabOk rfl rfl rfl rfl ?_ ?_) ?_ | refine NX.one (One.elemOwnM hA tabOk rfl rfl rfl rfl rfl ?_ ?_) ?_) | (refine NX.k 10 ?_; first | refine NX.one (One.lenOwnM hA tabOk rfl rfl rfl rfl) ?_) | (refine NX.k 14 ?_; first | refine NX.one (One.loadRatM hA tabOk rfl rfl rfl rfl rfl rfl ?_) ?_)) <;> (first | refine AOLg.pass ?_ | (((try simp only [zn]) <;> (try simp (disch := omega) only [zz hA, zb, zy, reduceCtorEq, Bool.false_eq_true, Int.reduceLT, Int.reduceLE, Int.reduceNeg]) <;> (try simp only [zw])) <;> omega)))
          | refine NX.raw ?_)
      | refine Thn.exit ?_
      | refine Blk.here ?_
      | refine Blk.other (by decide) ?_
      | refine ⟨.inl rfl, _, RetOk.ev tabOk (by conv => lhs; cbv), ?_⟩
      | fail)
    exact ⟨rfl, .inl hj⟩
  | succ k =>
    have hq : ∀ q : Int, q = cN (k + 1) - 1 → q.toNat = k := by
      intro q hq
      simp only [cN] at hq
      omega
    try first | refine AOLg.of [] ?_ | refine QSg.of [] ?_
    repeat' (first
      | (refine AWp.pass ?_; first
          | refine AWp.seq ?_
          | refine AWp.block ?_
          | refine AWp.skip ?_
          | refine AWp.regG [] (by conv => lhs; cbv) ?_
          | refine AWp.cond_t rfl ?_
          | refine AWp.cond_f rfl ?_
          | (refine AWp.cond rfl ?_ ?_ <;> intro hc <;> (try rw [hc]) <;> ((try simp only [zn] at hc) <;> (try simp (disch := omega) only [zz hA, zb, zy, reduceCtorEq, Bool.false_eq_true, Int.reduceLT, Int.reduceLE, Int.reduceNeg] at hc) <;> (try simp only [zw] at hc)) <;> (try (exfalso; omega)))
          | refine AWp.exit ?_
          | refine AWp.ret ⟨.inr rfl, _, RetOk.ev tabOk (by conv => lhs; cbv), ?_⟩)
      | (refine AOLg.pass ?_; refine AOLg.nx hA tabOk (by conv => lhs; cbv) ?_; first
          | refine NX.done ?_
          | refine NX.gt ?_
          | refine NX.gf ?_
          | (refine NX.gs ?_ ?_ <;> intro hc <;> rw [hc] <;> ((try simp only [zn] at hc) <;> (try simp (disch := omega) only [zz hA, zb, zy, reduceCtorEq, Bool.false_eq_true, Int.reduceLT, Int.reduceLE, Int.reduceNeg] at hc) <;> (try simp only [zw] at hc)) <;> (try (exfalso; omega)))
          | ((first | (refine NX.k 1 ?_; first | refine NX.one (One.elemM hA tabOk rfl rfl rfl rfl ?_ ?_) ?_ | refine NX.one (One.elemOwnM hA tabOk rfl rfl rfl rfl rfl ?_ ?_) ?_) | (refine NX.k 10 ?_; first | refine NX.one (One.lenOwnM hA tabOk rfl rfl rfl rfl) ?_) | (refine NX.k 14 ?_; first | refine NX.one (One.loadRatM hA tabOk rfl rfl rfl rfl rfl rfl ?_) ?_)) <;> (first | refine AOLg.pass ?_ | (((try simp only [zn]) <;> (try simp (disch := omega) only [zz hA, zb, zy, reduceCtorEq, Bool.false_eq_true, Int.reduceLT, Int.reduceLE, Int.reduceNeg]) <;> (try simp only [zw])) <;> omega)))
          | refine NX.raw ?_)
      | refine Thn.exit ?_
      | refine Blk.here ?_
      | refine Blk.other (by decide) ?_
      | refine ⟨.inl rfl, _, RetOk.ev tabOk (by conv => lhs; cbv), ?_⟩
      | fail)
    refine AOL.ycall rfl rfl (hy k _ _ _ _ _ (by omega) hj (by (((try simp only [zn]) <;> (try simp (disch := omega) only [zz hA, zb, zy, reduceCtorEq, Bool.false_eq_true, Int.reduceLT, Int.reduceLE, Int.reduceNeg]) <;> (try simp only [zw])) <;> omega)) (by simp only [hid_eq hA]; rw [hq _ rfl]) (by simp only [hid_eq hA]; rw [hq _ rfl]) (by simp only [hid_eq hA]; rw [hq _ rfl])) ?_
    rintro y st' (⟨rfl, hj'⟩ | ⟨rfl, hf⟩)
    · obtain ⟨p0, p1, p2, p3, p5, rfl⟩ := hJ _ _ hj'
      try first | refine AOLg.of [] ?_ | refine QSg.of [] ?_
      repeat' (first
        | (refine AWp.pass ?_; first
            | refine AWp.seq ?_
            | refine AWp.block ?_
            | refine AWp.skip ?_
            | refine AWp.regG [] (by conv => lhs; cbv) ?_
            | refine AWp.cond_t rfl ?_
            | refine AWp.cond_f rfl ?_
            | (refine AWp.cond rfl ?_ ?_ <;> intro hc <;> (try rw [hc]) <;> ((try simp only [zn] at hc) <;> (try simp (disch := omega) only [zz hA, zb, zy, reduceCtorEq, Bool.false_eq_true, Int.reduceLT, Int.reduceLE, Int.reduceNeg] at hc) <;> (try simp only [zw] at hc)) <;> (try (exfalso; omega)))
            | refine AWp.exit ?_
            | refine AWp.ret ⟨.inr rfl, _, RetOk.ev tabOk (by conv => lhs; cbv), ?_⟩)
        | (refine AOLg.pass ?_; refine AOLg.nx hA tabOk (by conv => lhs; cbv) ?_; first
            | refine NX.done ?_
            | refine NX.gt ?_
            | refine NX.gf ?_
            | (refine NX.gs ?_ ?_ <;> intro hc <;> rw [hc] <;> ((try simp only [zn] at hc) <;> (try simp (disch := omega) only [zz hA, zb, zy, reduceCtorEq, Bool.false_eq_true, Int.reduceLT, Int.reduceLE, Int.reduceNeg] at hc) <;> (try simp only [zw] at hc)) <;> (try (exfalso; omega)))
            | ((first | (refine NX.k 1 ?_; first | refine NX.one (One.elemM hA tabOk rfl rfl rfl rfl ?_ ?_) ?_ | refine NX.one (One.elemOwnM hA tabOk rfl rfl rfl rfl rfl ?_ ?_) ?_) | (refine NX.k 10 ?_; first | refine NX.one (One.lenOwnM hA tabOk rfl rfl rfl rfl) ?_) | (refine NX.k 14 ?_; first | refine NX.one (One.loadRatM hA tabOk rfl rfl rfl rfl rfl rfl ?_) ?_)) <;> (first | refine AOLg.pass ?_ | (((try simp only [zn]) <;> (try simp (disch := omega) only [zz hA, zb, zy, reduceCtorEq, Bool.false_eq_true, Int.reduceLT, Int.reduceLE, Int.reduceNeg]) <;> (try simp only [zw])) <;> omega)))
            | refine NX.raw ?_)
        | refine Thn.exit ?_
        | refine Blk.here ?_
        | refine Blk.other (by decide) ?_
        | refine ⟨.inl rfl, _, RetOk.ev tabOk (by conv => lhs; cbv), ?_⟩
        | fail)
      refine ⟨(k, _), ⟨?_, hj'⟩, ?_, rfl, rfl, ?_, (by repeat' (first | exact subE.nil | refine subE.cons rfl ?_))⟩
      · simp only []; omega
      · simp only []; omega
      · exact .int rfl (by (((try simp only [zn]) <;> (try simp (disch := omega) only [zz hA, zb, zy, reduceCtorEq, Bool.false_eq_true, Int.reduceLT, Int.reduceLE, Int.reduceNeg]) <;> (try simp only [zw])) <;> omega)) .nil
    · try first | refine AOLg.of [] ?_ | refine QSg.of [] ?_
      repeat' (first
        | (refine AWp.pass ?_; first
            | refine AWp.seq ?_
            | refine AWp.block ?_
            | refine AWp.skip ?_
            | refine AWp.regG [] (by conv => lhs; cbv) ?_
            | refine AWp.cond_t rfl ?_
            | refine AWp.cond_f rfl ?_
            | (refine AWp.cond rfl ?_ ?_ <;> intro hc <;> (try rw [hc]) <;> ((try simp only [zn] at hc) <;> (try simp (disch := omega) only [zz hA, zb, zy, reduceCtorEq, Bool.false_eq_true, Int.reduceLT, Int.reduceLE, Int.reduceNeg] at hc) <;> (try simp only [zw] at hc)) <;> (try (exfalso; omega)))
            | refine AWp.exit ?_
            | refine AWp.ret ⟨.inr rfl, _, RetOk.ev tabOk (by conv => lhs; cbv), ?_⟩)
        | (refine AOLg.pass ?_; refine AOLg.nx hA tabOk (by conv => lhs; cbv) ?_; first
            | refine NX.done ?_
            | refine NX.gt ?_
            | refine NX.gf ?_
            | (refine NX.gs ?_ ?_ <;> intro hc <;> rw [hc] <;> ((try simp only [zn] at hc) <;> (try simp (disch := omega) only [zz hA, zb, zy, reduceCtorEq, Bool.false_eq_true, Int.reduceLT, Int.reduceLE, Int.reduceNeg] at hc) <;> (try simp only [zw] at hc)) <;> (try (exfalso; omega)))
            | ((first | (refine NX.k 1 ?_; first | refine NX.one (One.elemM hA tabOk rfl rfl rfl rfl ?_ ?_) ?_ | refine NX.one (One.elemOwnM hA tabOk rfl rfl rfl rfl rfl ?_ ?_) ?_) | (refine NX.k 10 ?_; first | refine NX.one (One.lenOwnM hA tabOk rfl rfl rfl rfl) ?_) | (refine NX.k 14 ?_; first | refine NX.one (One.loadRatM hA tabOk rfl rfl rfl rfl rfl rfl ?_) ?_)) <;> (first | refine AOLg.pass ?_ | (((try simp only [zn]) <;> (try simp (disch := omega) only [zz hA, zb, zy, reduceCtorEq, Bool.false_eq_true, Int.reduceLT, Int.reduceLE, Int.reduceNeg]) <;> (try simp only [zw])) <;> omega)))
            | refine NX.raw ?_)
        | refine Thn.exit ?_
        | refine Blk.here ?_
        | refine Blk.other (by decide) ?_
        | refine ⟨.inl rfl, _, RetOk.ev tabOk (by conv => lhs; cbv), ?_⟩
        | fail)
      exact ⟨rfl, .inr hf⟩
end Go.Proofs.Ytgemcogfpkolfaa.Aw

/- Contract of side.Of: each node's side. -/
set_option linter.unusedVariables false
set_option linter.unusedSimpArgs false
set_option linter.unusedSectionVars false
namespace Go.Proofs.Ytgemcogfpkolfaa.Aw
open Go Go.RowKit
set_option maxRecDepth 10000
attribute [local irreducible] AWp AOL QS One AOLg QSg NX QX TRg TX AllO Fin3
theorem vary_parts (l : List Sg) (k : Int) (s : ByteArray) (n : Int) (hk : k = 3 ∨ k = 6) (h6 : k = 6 → 1 ≤ n) (j : Nat) (hj : (j : Int) < partsM k n) :
    ((partsS l k s n).2 = true → (0 : Int) ≤ j ∧ (j : Int) < (partsS l k s n).1.size) ∧ (if (partsS l k s n).2 = true then sb (partsS l k s n).1 j else 61) = varyD l k s n j := by
  rw [partsS_known]
  unfold varyD
  rw [if_pos hk]
  cases hb : knownD l k s n with
  | false => exact ⟨fun h => (Bool.noConfusion h), rfl⟩
  | true =>
    rw [if_pos rfl, if_pos rfl]
    unfold knownD at hb
    split at hb
    · cases hb
    rename_i hf
    unfold partsS
    rw [if_neg hf]
    unfold partsM at hj
    rcases hk with rfl | rfl
    · rw [if_pos rfl] at hb ⊢
      rw [if_neg (by decide)] at hj
      have := of_decide_eq_true hb
      refine ⟨fun _ => ⟨by omega, by simp only; omega⟩, ?_⟩
      rw [if_neg (by decide)]
    · rw [if_neg (by decide)] at hb ⊢
      rw [if_pos rfl] at hj
      have h := of_decide_eq_true hb
      have hn := h6 rfl
      obtain rfl : j = 0 := by omega
      rw [if_pos h, if_pos rfl]
      have hz := cutS_size (argG l (findG l s)) (n - 1) n (by omega) (by omega) h
      refine ⟨fun _ => ⟨by omega, by simp only; omega⟩, ?_⟩
      have := cutS_get (argG l (findG l s)) (n - 1) n 0 (by omega) h (by omega) (by omega)
      simpa using this
variable {A : Ar} (hA : A = real)
include hA
theorem of2_at (k : Nat) (p : ByteArray) (b : Bool) (h : b = true → (0 : Int) ≤ k ∧ (k : Int) < p.size) {V : Int} (hV : (if b = true then sb p k else 61) = V) : ∀ z : Int, z = k → ACalls Try.prog 30 [.ic (.lit (.int .i64 z)), .ptr 1 0, .ptr 0 0] [.var true 9 [.ic (.lit (.string (hid A p)))], .var true 4 [.ic (.lit (.bool (hid A b)))]]
    (fun x st' => x = .ic (.lit (.int .u8 (hid A V))) ∧ st' = [.var true 9 [.ic (.lit (.string (hid A p)))], .var true 4 [.ic (.lit (.bool (hid A b)))]]) := by
  rintro z rfl
  subst hV
  exact of2_c hA _ p b h
theorem turned_at (a v : Int) (h : sideOk a) : ∀ a' v', a' = a → v' = v → PureCalls Try.prog 31 [UP a', UP v'] (UP (hid A (turnD a v))) := by
  rintro a' v' rfl rfl
  exact turned_c hA _ _ h
set_option maxHeartbeats 16000000 in
theorem sOf_c (l : List Sg) (E : List Nd) (s : Int) (hl : l.length ≤ 1000000) (hsz : FitG l) (hg : goodD E) (h1 : manyD E E.length = 1) (hE : E.length ≤ 1000000) :
    PureCalls Try.prog 14 [slP A 2 (encG A) l, slP A 3 (encD A) E, UP s] (slP A 1 encU (sidesD l E s)) := by
  have hle : 1 ≤ E.length := by
    cases E with
    | nil => simp [manyD] at h1
    | cons => simp
  have hst := eStarts_c hA E hE hg.shape (fun i hi => by have := hg.parts hi; omega)
  have hSl := stD_len E E.length
  refine PureCalls.of Try.func14 rfl (by kernel_rfl) rfl ?_
  try first | refine AOLg.of [] ?_ | refine QSg.of [] ?_
  repeat' (first
    | (refine AWp.pass ?_; first
        | refine AWp.seq ?_
        | refine AWp.block ?_
        | refine AWp.skip ?_
        | refine AWp.regG [] (by conv => lhs; cbv) ?_
        | refine AWp.cond_t rfl ?_
        | refine AWp.cond_f rfl ?_
        | (refine AWp.cond rfl ?_ ?_ <;> intro hc <;> (try rw [hc]) <;> ((try simp only [zn] at hc) <;> (try simp (disch := omega) only [zz hA, zb, zy, reduceCtorEq, Bool.false_eq_true, Int.reduceLT, Int.reduceLE, Int.reduceNeg] at hc) <;> (try simp only [zw] at hc)) <;> (try (exfalso; omega)))
        | refine AWp.exit ?_
        | refine AWp.ret ⟨.inr rfl, _, RetOk.ev tabOk (by conv => lhs; cbv), ?_⟩
        | refine AWp.drawVG [] rfl (by decide +kernel) (by conv => lhs; cbv) ?_)
    | (refine AOLg.pass ?_; refine AOLg.nx hA tabOk (by conv => lhs; cbv) ?_; first
        | refine NX.done ?_
        | refine NX.gt ?_
        | refine NX.gf ?_
        | (refine NX.gs ?_ ?_ <;> intro hc <;> rw [hc] <;> ((try simp only [zn] at hc) <;> (try simp (disch := omega) only [zz hA, zb, zy, reduceCtorEq, Bool.false_eq_true, Int.reduceLT, Int.reduceLE, Int.reduceNeg] at hc) <;> (try simp only [zw] at hc)) <;> (try (exfalso; omega)))
        | (refine NX.kC ?_; first | (with_reducible refine NX.call (hst) ?_) | ((first | refine NX.call (hst) ?_)) | fail)
        | (refine NX.kO ?_; (first | refine NX.callO (hst) (by simp [allEq]) rfl ?_))
        | ((first | (refine NX.k 1 ?_; first | refine NX.one (One.elemM hA tabOk rfl rfl rfl rfl ?_ ?_) ?_ | refine NX.one (One.elemOwnM hA tabOk rfl rfl rfl rfl rfl ?_ ?_) ?_) | (refine NX.k 8 ?_; first | refine NX.one (One.eqBoolM hA tabOk rfl rfl rfl rfl rfl) ?_) | (refine NX.k 9 ?_; first | refine NX.one (One.neBoolM hA tabOk rfl rfl rfl rfl rfl) ?_) | (refine NX.k 10 ?_; first | refine NX.one (One.lenOwnM hA tabOk rfl rfl rfl rfl) ?_) | (refine NX.k 14 ?_; first | refine NX.one (One.loadRatM hA tabOk rfl rfl rfl rfl rfl rfl ?_) ?_) | (refine NX.k 15 ?_; first | refine NX.one (One.storeRatM hA tabOk _ rfl rfl rfl rfl rfl rfl rfl rfl (fun _ => rfl) ?_) ?_) | (refine NX.k 16 ?_; first | refine NX.one (One.makeM hA tabOk encI 0 rfl rfl rfl rfl rfl rfl rfl ?_ ?_ ?_) ?_) | (refine NX.k 18 ?_; first | refine NX.one (One.fieldRat tabOk rfl rfl rfl rfl (by decide) rfl rfl) ?_)) <;> (first | refine AOLg.pass ?_ | (((try simp only [zn]) <;> (try simp (disch := omega) only [zz hA, zb, zy, reduceCtorEq, Bool.false_eq_true, Int.reduceLT, Int.reduceLE, Int.reduceNeg]) <;> (try simp only [zw])) <;> omega)))
        | (refine NX.one (One.makeM hA tabOk encU 0 rfl rfl rfl rfl rfl rfl rfl (by (((try simp only [zn]) <;> (try simp (disch := omega) only [zz hA, zb, zy, reduceCtorEq, Bool.false_eq_true, Int.reduceLT, Int.reduceLE, Int.reduceNeg]) <;> (try simp only [zw])) <;> omega)) (by (((try simp only [zn]) <;> (try simp (disch := omega) only [zz hA, zb, zy, reduceCtorEq, Bool.false_eq_true, Int.reduceLT, Int.reduceLE, Int.reduceNeg]) <;> (try simp only [zw])) <;> omega)) (by (((try simp only [zn]) <;> (try simp (disch := omega) only [zz hA, zb, zy, reduceCtorEq, Bool.false_eq_true, Int.reduceLT, Int.reduceLE, Int.reduceNeg]) <;> (try simp only [zw])) <;> omega))) ?_)
        | refine NX.raw ?_)
    | (refine TRg.pass ?_; refine TRg.nx hA tabOk (by conv => lhs; cbv) ?_; first
        | refine TX.done ?_
        | refine TX.gt ?_
        | refine TX.gf ?_
        | (refine TX.gs ?_ ?_ <;> intro hc <;> rw [hc] <;> ((try simp only [zn] at hc) <;> (try simp (disch := omega) only [zz hA, zb, zy, reduceCtorEq, Bool.false_eq_true, Int.reduceLT, Int.reduceLE, Int.reduceNeg] at hc) <;> (try simp only [zw] at hc)) <;> (try (exfalso; omega)))
        | (refine TX.kC ?_; first | (with_reducible refine TX.call (hst) ?_) | ((first | refine TX.call (hst) ?_)) | fail)
        | (refine TX.kO ?_; (first | refine TX.callO (hst) (by simp [allEq]) rfl ?_))
        | ((first | (refine TX.k 1 ?_; first | refine TX.one (One.elemM hA tabOk rfl rfl rfl rfl ?_ ?_) ?_ | refine TX.one (One.elemOwnM hA tabOk rfl rfl rfl rfl rfl ?_ ?_) ?_) | (refine TX.k 8 ?_; first | refine TX.one (One.eqBoolM hA tabOk rfl rfl rfl rfl rfl) ?_) | (refine TX.k 9 ?_; first | refine TX.one (One.neBoolM hA tabOk rfl rfl rfl rfl rfl) ?_) | (refine TX.k 10 ?_; first | refine TX.one (One.lenOwnM hA tabOk rfl rfl rfl rfl) ?_) | (refine TX.k 14 ?_; first | refine TX.one (One.loadRatM hA tabOk rfl rfl rfl rfl rfl rfl ?_) ?_) | (refine TX.k 15 ?_; first | refine TX.one (One.storeRatM hA tabOk _ rfl rfl rfl rfl rfl rfl rfl rfl (fun _ => rfl) ?_) ?_) | (refine TX.k 16 ?_; first | refine TX.one (One.makeM hA tabOk encI 0 rfl rfl rfl rfl rfl rfl rfl ?_ ?_ ?_) ?_) | (refine TX.k 18 ?_; first | refine TX.one (One.fieldRat tabOk rfl rfl rfl rfl (by decide) rfl rfl) ?_)) <;> (first | refine TRg.pass ?_ | (((try simp only [zn]) <;> (try simp (disch := omega) only [zz hA, zb, zy, reduceCtorEq, Bool.false_eq_true, Int.reduceLT, Int.reduceLE, Int.reduceNeg]) <;> (try simp only [zw])) <;> omega)))
        | (refine TX.one (One.makeM hA tabOk encU 0 rfl rfl rfl rfl rfl rfl rfl (by (((try simp only [zn]) <;> (try simp (disch := omega) only [zz hA, zb, zy, reduceCtorEq, Bool.false_eq_true, Int.reduceLT, Int.reduceLE, Int.reduceNeg]) <;> (try simp only [zw])) <;> omega)) (by (((try simp only [zn]) <;> (try simp (disch := omega) only [zz hA, zb, zy, reduceCtorEq, Bool.false_eq_true, Int.reduceLT, Int.reduceLE, Int.reduceNeg]) <;> (try simp only [zw])) <;> omega)) (by (((try simp only [zn]) <;> (try simp (disch := omega) only [zz hA, zb, zy, reduceCtorEq, Bool.false_eq_true, Int.reduceLT, Int.reduceLE, Int.reduceNeg]) <;> (try simp only [zw])) <;> omega))) ?_)
        | refine TX.raw ?_)
    | refine Fin3.of (by conv => lhs; cbv) (by repeat' (first | exact True.intro | exact rfl | refine And.intro ?_ ?_)) ?_ ?_
    | (refine AllO.pass ?_; first
        | exact AllO.nil
        | (refine AllO.cons (One.ev hA tabOk ?_) ?_ <;> (first | refine AllO.pass ?_ | ((conv => lhs; cbv); done)))
        | (refine AllO.cons (One.skipB ?_) ?_ <;> (first | refine AllO.pass ?_ | ((conv => lhs; cbv); done)))
        | ((with_reducible refine AllO.call (by conv => lhs; cbv) (hst) ?_ ?_) <;> (first | refine AllO.pass ?_ | exact rfl | (((try simp only [zn]) <;> (try simp (disch := omega) only [zz hA, zb, zy, reduceCtorEq, Bool.false_eq_true, Int.reduceLT, Int.reduceLE, Int.reduceNeg]) <;> (try simp only [zw])) <;> omega)))
        | ((first | refine AllO.consX (One.elemM hA tabOk rfl rfl rfl rfl ?_ ?_) rfl rfl ?_ | refine AllO.consX (One.lenOwnM hA tabOk rfl rfl rfl rfl) rfl rfl ?_ | refine AllO.consX (One.elemOwnM hA tabOk rfl rfl rfl rfl rfl ?_ ?_) rfl rfl ?_ | refine AllO.consX (One.loadRatM hA tabOk rfl rfl rfl rfl rfl rfl ?_) rfl rfl ?_) <;> (first | refine AllO.pass ?_ | (((try simp only [zn]) <;> (try simp (disch := omega) only [zz hA, zb, zy, reduceCtorEq, Bool.false_eq_true, Int.reduceLT, Int.reduceLE, Int.reduceNeg]) <;> (try simp only [zw])) <;> omega))))
    | refine Thn.exit ?_
    | refine Blk.here ?_
    | refine Blk.other (by decide) ?_
    | refine ⟨.inl rfl, _, RetOk.ev tabOk (by conv => lhs; cbv), ?_⟩
    | fail)
  all_goals
    refine AOL.scall rfl rfl (backN_4 hA _ _ _ _ E) ?_
    rintro y st' ⟨rfl, rfl⟩
    try first | refine AOLg.of [] ?_ | refine QSg.of [] ?_
    repeat' (first
      | (refine AWp.pass ?_; first
          | refine AWp.seq ?_
          | refine AWp.block ?_
          | refine AWp.skip ?_
          | refine AWp.regG [] (by conv => lhs; cbv) ?_
          | refine AWp.cond_t rfl ?_
          | refine AWp.cond_f rfl ?_
          | (refine AWp.cond rfl ?_ ?_ <;> intro hc <;> (try rw [hc]) <;> ((try simp only [zn] at hc) <;> (try simp (disch := omega) only [zz hA, zb, zy, reduceCtorEq, Bool.false_eq_true, Int.reduceLT, Int.reduceLE, Int.reduceNeg] at hc) <;> (try simp only [zw] at hc)) <;> (try (exfalso; omega)))
          | refine AWp.exit ?_
          | refine AWp.ret ⟨.inr rfl, _, RetOk.ev tabOk (by conv => lhs; cbv), ?_⟩
          | refine AWp.drawVG [] rfl (by decide +kernel) (by conv => lhs; cbv) ?_)
      | (refine AOLg.pass ?_; refine AOLg.nx hA tabOk (by conv => lhs; cbv) ?_; first
          | refine NX.done ?_
          | refine NX.gt ?_
          | refine NX.gf ?_
          | (refine NX.gs ?_ ?_ <;> intro hc <;> rw [hc] <;> ((try simp only [zn] at hc) <;> (try simp (disch := omega) only [zz hA, zb, zy, reduceCtorEq, Bool.false_eq_true, Int.reduceLT, Int.reduceLE, Int.reduceNeg] at hc) <;> (try simp only [zw] at hc)) <;> (try (exfalso; omega)))
          | ((first | (refine NX.k 1 ?_; first | refine NX.one (One.elemM hA tabOk rfl rfl rfl rfl ?_ ?_) ?_ | refine NX.one (One.elemOwnM hA tabOk rfl rfl rfl rfl rfl ?_ ?_) ?_) | (refine NX.k 8 ?_; first | refine NX.one (One.eqBoolM hA tabOk rfl rfl rfl rfl rfl) ?_) | (refine NX.k 9 ?_; first | refine NX.one (One.neBoolM hA tabOk rfl rfl rfl rfl rfl) ?_) | (refine NX.k 10 ?_; first | refine NX.one (One.lenOwnM hA tabOk rfl rfl rfl rfl) ?_) | (refine NX.k 14 ?_; first | refine NX.one (One.loadRatM hA tabOk rfl rfl rfl rfl rfl rfl ?_) ?_) | (refine NX.k 15 ?_; first | refine NX.one (One.storeRatM hA tabOk _ rfl rfl rfl rfl rfl rfl rfl rfl (fun _ => rfl) ?_) ?_) | (refine NX.k 16 ?_; first | refine NX.one (One.makeM hA tabOk encI 0 rfl rfl rfl rfl rfl rfl rfl ?_ ?_ ?_) ?_) | (refine NX.k 18 ?_; first | refine NX.one (One.fieldRat tabOk rfl rfl rfl rfl (by decide) rfl rfl) ?_)) <;> (first | refine AOLg.pass ?_ | (((try simp only [zn]) <;> (try simp (disch := omega) only [zz hA, zb, zy, reduceCtorEq, Bool.false_eq_true, Int.reduceLT, Int.reduceLE, Int.reduceNeg]) <;> (try simp only [zw])) <;> omega)))
          | refine NX.raw ?_)
      | (refine TRg.pass ?_; refine TRg.nx hA tabOk (by conv => lhs; cbv) ?_; first
          | refine TX.done ?_
          | refine TX.gt ?_
          | refine TX.gf ?_
          | (refine TX.gs ?_ ?_ <;> intro hc <;> rw [hc] <;> ((try simp only [zn] at hc) <;> (try simp (disch := omega) only [zz hA, zb, zy, reduceCtorEq, Bool.false_eq_true, Int.reduceLT, Int.reduceLE, Int.reduceNeg] at hc) <;> (try simp only [zw] at hc)) <;> (try (exfalso; omega)))
          | ((first | (refine TX.k 1 ?_; first | refine TX.one (One.elemM hA tabOk rfl rfl rfl rfl ?_ ?_) ?_ | refine TX.one (One.elemOwnM hA tabOk rfl rfl rfl rfl rfl ?_ ?_) ?_) | (refine TX.k 8 ?_; first | refine TX.one (One.eqBoolM hA tabOk rfl rfl rfl rfl rfl) ?_) | (refine TX.k 9 ?_; first | refine TX.one (One.neBoolM hA tabOk rfl rfl rfl rfl rfl) ?_) | (refine TX.k 10 ?_; first | refine TX.one (One.lenOwnM hA tabOk rfl rfl rfl rfl) ?_) | (refine TX.k 14 ?_; first | refine TX.one (One.loadRatM hA tabOk rfl rfl rfl rfl rfl rfl ?_) ?_) | (refine TX.k 15 ?_; first | refine TX.one (One.storeRatM hA tabOk _ rfl rfl rfl rfl rfl rfl rfl rfl (fun _ => rfl) ?_) ?_) | (refine TX.k 16 ?_; first | refine TX.one (One.makeM hA tabOk encI 0 rfl rfl rfl rfl rfl rfl rfl ?_ ?_ ?_) ?_) | (refine TX.k 18 ?_; first | refine TX.one (One.fieldRat tabOk rfl rfl rfl rfl (by decide) rfl rfl) ?_)) <;> (first | refine TRg.pass ?_ | (((try simp only [zn]) <;> (try simp (disch := omega) only [zz hA, zb, zy, reduceCtorEq, Bool.false_eq_true, Int.reduceLT, Int.reduceLE, Int.reduceNeg]) <;> (try simp only [zw])) <;> omega)))
          | refine TX.raw ?_)
      | refine Fin3.of (by conv => lhs; cbv) (by repeat' (first | exact True.intro | exact rfl | refine And.intro ?_ ?_)) ?_ ?_
      | (refine AllO.pass ?_; first
          | exact AllO.nil
          | (refine AllO.cons (One.ev hA tabOk ?_) ?_ <;> (first | refine AllO.pass ?_ | ((conv => lhs; cbv); done)))
          | (refine AllO.cons (One.skipB ?_) ?_ <;> (first | refine AllO.pass ?_ | ((conv => lhs; cbv); done)))
          | ((first | refine AllO.consX (One.elemM hA tabOk rfl rfl rfl rfl ?_ ?_) rfl rfl ?_ | refine AllO.consX (One.lenOwnM hA tabOk rfl rfl rfl rfl) rfl rfl ?_ | refine AllO.consX (One.elemOwnM hA tabOk rfl rfl rfl rfl rfl ?_ ?_) rfl rfl ?_ | refine AllO.consX (One.loadRatM hA tabOk rfl rfl rfl rfl rfl rfl ?_) rfl rfl ?_) <;> (first | refine AllO.pass ?_ | (((try simp only [zn]) <;> (try simp (disch := omega) only [zz hA, zb, zy, reduceCtorEq, Bool.false_eq_true, Int.reduceLT, Int.reduceLE, Int.reduceNeg]) <;> (try simp only [zw])) <;> omega))))
      | refine Thn.exit ?_
      | refine Blk.here ?_
      | refine Blk.other (by decide) ?_
      | refine ⟨.inl rfl, _, RetOk.ev tabOk (by conv => lhs; cbv), ?_⟩
      | fail)
    refine AWp.norm (by conv => lhs; cbv) ?_
    refine AWp.rangeFunc' rfl ?_
    intro c hcr
    refine ⟨_, backNI_4 hA E
      (fun k st => k ≤ E.length ∧ st = [.var true 22 [.ic (.sl 2 false (hid A (List.map (encG A) l)))], .var true 41 [.ic (.sl 1 false (hid A (List.map encI (stD E E.length))))], .row true 0 5 1 (hid A (List.map encU (sdM l E (stD E E.length) s (E.length - k)))), .var true 31 [.own 2 0], .var true 23 [.ic (.sl 3 false (hid A (List.map (encD A) E)))], .lp c])
      (fun _ => False) ?_ ?_ hE _ ?_, ?_⟩
    · rintro k st ⟨_, rfl⟩
      exact ⟨_, _, _, _, _, rfl⟩
    · rintro i st z ka sa na hi ⟨_, rfl⟩ hz hka hsa hna
      have hi1 : E.length - 1 - (E.length - (i + 1)) = i := by omega
      have hstep : sdM l E (stD E E.length) s (E.length - i) = sdStep l E (stD E E.length) (sdM l E (stD E E.length) s (E.length - (i + 1))) i := by
        rw [show E.length - i = E.length - (i + 1) + 1 by omega, sdM, hi1]
      have hok := sd_at (l := l) hg h1 s (show E.length - (i + 1) < E.length by omega)
      rw [hi1] at hok
      have hol := sdM_len l E (stD E E.length) s (E.length - (i + 1))
      have hpr := hg.parts hi
      have hpd : pD E i = partsM (ndK (E.getD i default)) (ndN (E.getD i default)) := rfl
      have hq := mayD_parts (hg.may hi)
      have hsh := hg.shape i hi
      obtain ⟨p, hp⟩ : ∃ p : Nat, pD E i = p := ⟨(pD E i).toNat, by omega⟩
      have hap := kids_apart hg hi hp
      have hkin := fun k (h : k < p) => kids_in hg hi hp h
      have hkg := fun k (h : k < p) => kidsD_get (stD E E.length) i p k h
      have hwd := wayD_in hg.shape (show i ≤ E.length by omega)
      have hway : ∀ k : Nat, k ≤ p → (0 ≤ backD (stD E E.length) i k ∧ backD (stD E E.length) i k ≤ i) := fun k hk => ⟨hwd.lo k (by omega), hwd.hi k (by omega)⟩
      have hwayp : ∀ k : Nat, k < p → 0 < backD (stD E E.length) i k := fun k hk => hwd.pos k (by omega)
      unfold sdStep at hstep
      rw [hp, Int.toNat_natCast, ← hka, ← hsa, ← hna] at hstep
      rw [hp, ← hka, ← hna] at hpd
      rw [← hka, ← hna] at hq
      clear hsh hpr hwd hka hsa hna
      generalize sdM l E (stD E E.length) s (E.length - i) = O2 at *
      generalize sdM l E (stD E E.length) s (E.length - (i + 1)) = O at *
      generalize stD E E.length = S at *
      refine AYield.of' 6 hcr rfl (Nat.le_refl _) rfl rfl ?_
      intro ll
      simp only []
      try first | refine AOLg.of [] ?_ | refine QSg.of [] ?_
      repeat' (first
        | (refine AWp.pass ?_; first
            | refine AWp.seq ?_
            | refine AWp.block ?_
            | refine AWp.skip ?_
            | refine AWp.regG [] (by conv => lhs; cbv) ?_
            | refine AWp.cond_t rfl ?_
            | refine AWp.cond_f rfl ?_
            | (refine AWp.cond rfl ?_ ?_ <;> intro hc <;> (try rw [hc]) <;> ((try simp only [zn] at hc) <;> (try simp (disch := omega) only [zz hA, zb, zy, reduceCtorEq, Bool.false_eq_true, Int.reduceLT, Int.reduceLE, Int.reduceNeg] at hc) <;> (try simp only [zw] at hc)) <;> (try (exfalso; omega)))
            | refine AWp.exit ?_
            | refine AWp.ret ⟨.inr rfl, _, RetOk.ev tabOk (by conv => lhs; cbv), ?_⟩
            | refine AWp.drawVG [] rfl (by decide +kernel) (by conv => lhs; cbv) ?_)
        | (refine AOLg.pass ?_; refine AOLg.nx hA tabOk (by conv => lhs; cbv) ?_; first
            | refine NX.done ?_
            | refine NX.gt ?_
            | refine NX.gf ?_
            | (refine NX.gs ?_ ?_ <;> intro hc <;> rw [hc] <;> ((try simp only [zn] at hc) <;> (try simp (disch := omega) only [zz hA, zb, zy, reduceCtorEq, Bool.false_eq_true, Int.reduceLT, Int.reduceLE, Int.reduceNeg] at hc) <;> (try simp only [zw] at hc)) <;> (try (exfalso; omega)))
            | ((first | (refine NX.k 1 ?_; first | refine NX.one (One.elemM hA tabOk rfl rfl rfl rfl ?_ ?_) ?_ | refine NX.one (One.elemOwnM hA tabOk rfl rfl rfl rfl rfl ?_ ?_) ?_) | (refine NX.k 8 ?_; first | refine NX.one (One.eqBoolM hA tabOk rfl rfl rfl rfl rfl) ?_) | (refine NX.k 9 ?_; first | refine NX.one (One.neBoolM hA tabOk rfl rfl rfl rfl rfl) ?_) | (refine NX.k 10 ?_; first | refine NX.one (One.lenOwnM hA tabOk rfl rfl rfl rfl) ?_) | (refine NX.k 14 ?_; first | refine NX.one (One.loadRatM hA tabOk rfl rfl rfl rfl rfl rfl ?_) ?_) | (refine NX.k 15 ?_; first | refine NX.one (One.storeRatM hA tabOk _ rfl rfl rfl rfl rfl rfl rfl rfl (fun _ => rfl) ?_) ?_) | (refine NX.k 16 ?_; first | refine NX.one (One.makeM hA tabOk encI 0 rfl rfl rfl rfl rfl rfl rfl ?_ ?_ ?_) ?_) | (refine NX.k 18 ?_; first | refine NX.one (One.fieldRat tabOk rfl rfl rfl rfl (by decide) rfl rfl) ?_)) <;> (first | refine AOLg.pass ?_ | (((try simp only [zn]) <;> (try simp (disch := omega) only [zz hA, zb, zy, reduceCtorEq, Bool.false_eq_true, Int.reduceLT, Int.reduceLE, Int.reduceNeg]) <;> (try simp only [zw])) <;> omega)))
            | refine NX.raw ?_)
        | (refine TRg.pass ?_; refine TRg.nx hA tabOk (by conv => lhs; cbv) ?_; first
            | refine TX.done ?_
            | refine TX.gt ?_
            | refine TX.gf ?_
            | (refine TX.gs ?_ ?_ <;> intro hc <;> rw [hc] <;> ((try simp only [zn] at hc) <;> (try simp (disch := omega) only [zz hA, zb, zy, reduceCtorEq, Bool.false_eq_true, Int.reduceLT, Int.reduceLE, Int.reduceNeg] at hc) <;> (try simp only [zw] at hc)) <;> (try (exfalso; omega)))
            | ((first | (refine TX.k 1 ?_; first | refine TX.one (One.elemM hA tabOk rfl rfl rfl rfl ?_ ?_) ?_ | refine TX.one (One.elemOwnM hA tabOk rfl rfl rfl rfl rfl ?_ ?_) ?_) | (refine TX.k 8 ?_; first | refine TX.one (One.eqBoolM hA tabOk rfl rfl rfl rfl rfl) ?_) | (refine TX.k 9 ?_; first | refine TX.one (One.neBoolM hA tabOk rfl rfl rfl rfl rfl) ?_) | (refine TX.k 10 ?_; first | refine TX.one (One.lenOwnM hA tabOk rfl rfl rfl rfl) ?_) | (refine TX.k 14 ?_; first | refine TX.one (One.loadRatM hA tabOk rfl rfl rfl rfl rfl rfl ?_) ?_) | (refine TX.k 15 ?_; first | refine TX.one (One.storeRatM hA tabOk _ rfl rfl rfl rfl rfl rfl rfl rfl (fun _ => rfl) ?_) ?_) | (refine TX.k 16 ?_; first | refine TX.one (One.makeM hA tabOk encI 0 rfl rfl rfl rfl rfl rfl rfl ?_ ?_ ?_) ?_) | (refine TX.k 18 ?_; first | refine TX.one (One.fieldRat tabOk rfl rfl rfl rfl (by decide) rfl rfl) ?_)) <;> (first | refine TRg.pass ?_ | (((try simp only [zn]) <;> (try simp (disch := omega) only [zz hA, zb, zy, reduceCtorEq, Bool.false_eq_true, Int.reduceLT, Int.reduceLE, Int.reduceNeg]) <;> (try simp only [zw])) <;> omega)))
            | refine TX.raw ?_)
        | refine Fin3.of (by conv => lhs; cbv) (by repeat' (first | exact True.intro | exact rfl | refine And.intro ?_ ?_)) ?_ ?_
        | (refine AllO.pass ?_; first
            | exact AllO.nil
            | (refine AllO.cons (One.ev hA tabOk ?_) ?_ <;> (first | refine AllO.pass ?_ | ((conv => lhs; cbv); done)))
            | (refine AllO.cons (One.skipB ?_) ?_ <;> (first | refine AllO.pass ?_ | ((conv => lhs; cbv); done)))
            | ((first | refine AllO.consX (One.elemM hA tabOk rfl rfl rfl rfl ?_ ?_) rfl rfl ?_ | refine AllO.consX (One.lenOwnM hA tabOk rfl rfl rfl rfl) rfl rfl ?_ | refine AllO.consX (One.elemOwnM hA tabOk rfl rfl rfl rfl rfl ?_ ?_) rfl rfl ?_ | refine AllO.consX (One.loadRatM hA tabOk rfl rfl rfl rfl rfl rfl ?_) rfl rfl ?_) <;> (first | refine AllO.pass ?_ | (((try simp only [zn]) <;> (try simp (disch := omega) only [zz hA, zb, zy, reduceCtorEq, Bool.false_eq_true, Int.reduceLT, Int.reduceLE, Int.reduceNeg]) <;> (try simp only [zw])) <;> omega))))
        | refine Thn.exit ?_
        | refine Blk.here ?_
        | refine Blk.other (by decide) ?_
        | refine ⟨.inl rfl, _, RetOk.ev tabOk (by conv => lhs; cbv), ?_⟩
        | fail)
      refine ⟨rfl, rfl, ?_⟩
      intro bz hbz
      have hk7 : ka = 0 ∨ ka = 1 ∨ ka = 2 ∨ ka = 3 ∨ ka = 4 ∨ ka = 5 ∨ ka = 6 := by omega
      rcases hk7 with rfl | rfl | rfl | rfl | rfl | rfl | rfl
      · have hp0 : p = 0 := by unfold partsM at hpd; simp at hpd; omega
        have hn0 : na = 0 := by omega
        subst hn0 hp0
        have hO2 : O2 = O := hstep
        try first | refine AOLg.of [] ?_ | refine QSg.of [] ?_
        repeat' (first
          | (refine AWp.pass ?_; first
              | refine AWp.seq ?_
              | refine AWp.block ?_
              | refine AWp.skip ?_
              | refine AWp.regG [] (by conv => lhs; cbv) ?_
              | refine AWp.cond_t rfl ?_
              | refine AWp.cond_f rfl ?_
              | (refine AWp.cond rfl ?_ ?_ <;> intro hc <;> (try rw [hc]) <;> ((try simp only [zn] at hc) <;> (try simp (disch := omega) only [zz hA, zb, zy, reduceCtorEq, Bool.false_eq_true, Int.reduceLT, Int.reduceLE, Int.reduceNeg] at hc) <;> (try simp only [zw] at hc)) <;> (try (exfalso; omega)))
              | refine AWp.exit ?_
              | refine AWp.ret ⟨.inr rfl, _, RetOk.ev tabOk (by conv => lhs; cbv), ?_⟩
              | refine AWp.drawVG [] rfl (by decide +kernel) (by conv => lhs; cbv) ?_)
          | (refine AOLg.pass ?_; refine AOLg.nx hA tabOk (by conv => lhs; cbv) ?_; first
              | refine NX.done ?_
              | refine NX.gt ?_
              | refine NX.gf ?_
              | (refine NX.gs ?_ ?_ <;> intro hc <;> rw [hc] <;> ((try simp only [zn] at hc) <;> (try simp (disch := omega) only [zz hA, zb, zy, reduceCtorEq, Bool.false_eq_true, Int.reduceLT, Int.reduceLE, Int.reduceNeg] at hc) <;> (try simp only [zw] at hc)) <;> (try (exfalso; omega)))
              | ((first | (refine NX.k 1 ?_; first | refine NX.one (One.elemM hA tabOk rfl rfl rfl rfl ?_ ?_) ?_ | refine NX.one (One.elemOwnM hA tabOk rfl rfl rfl rfl rfl ?_ ?_) ?_) | (refine NX.k 8 ?_; first | refine NX.one (One.eqBoolM hA tabOk rfl rfl rfl rfl rfl) ?_) | (refine NX.k 9 ?_; first | refine NX.one (One.neBoolM hA tabOk rfl rfl rfl rfl rfl) ?_) | (refine NX.k 10 ?_; first | refine NX.one (One.lenOwnM hA tabOk rfl rfl rfl rfl) ?_) | (refine NX.k 14 ?_; first | refine NX.one (One.loadRatM hA tabOk rfl rfl rfl rfl rfl rfl ?_) ?_) | (refine NX.k 15 ?_; first | refine NX.one (One.storeRatM hA tabOk _ rfl rfl rfl rfl rfl rfl rfl rfl (fun _ => rfl) ?_) ?_) | (refine NX.k 16 ?_; first | refine NX.one (One.makeM hA tabOk encI 0 rfl rfl rfl rfl rfl rfl rfl ?_ ?_ ?_) ?_) | (refine NX.k 18 ?_; first | refine NX.one (One.fieldRat tabOk rfl rfl rfl rfl (by decide) rfl rfl) ?_)) <;> (first | refine AOLg.pass ?_ | (((try simp only [zn]) <;> (try simp (disch := omega) only [zz hA, zb, zy, reduceCtorEq, Bool.false_eq_true, Int.reduceLT, Int.reduceLE, Int.reduceNeg]) <;> (try simp only [zw])) <;> omega)))
              | refine NX.raw ?_)
          | (refine TRg.pass ?_; refine TRg.nx hA tabOk (by conv => lhs; cbv) ?_; first
              | refine TX.done ?_
              | refine TX.gt ?_
              | refine TX.gf ?_
              | (refine TX.gs ?_ ?_ <;> intro hc <;> rw [hc] <;> ((try simp only [zn] at hc) <;> (try simp (disch := omega) only [zz hA, zb, zy, reduceCtorEq, Bool.false_eq_true, Int.reduceLT, Int.reduceLE, Int.reduceNeg] at hc) <;> (try simp only [zw] at hc)) <;> (try (exfalso; omega)))
              | ((first | (refine TX.k 1 ?_; first | refine TX.one (One.elemM hA tabOk rfl rfl rfl rfl ?_ ?_) ?_ | refine TX.one (One.elemOwnM hA tabOk rfl rfl rfl rfl rfl ?_ ?_) ?_) | (refine TX.k 8 ?_; first | refine TX.one (One.eqBoolM hA tabOk rfl rfl rfl rfl rfl) ?_) | (refine TX.k 9 ?_; first | refine TX.one (One.neBoolM hA tabOk rfl rfl rfl rfl rfl) ?_) | (refine TX.k 10 ?_; first | refine TX.one (One.lenOwnM hA tabOk rfl rfl rfl rfl) ?_) | (refine TX.k 14 ?_; first | refine TX.one (One.loadRatM hA tabOk rfl rfl rfl rfl rfl rfl ?_) ?_) | (refine TX.k 15 ?_; first | refine TX.one (One.storeRatM hA tabOk _ rfl rfl rfl rfl rfl rfl rfl rfl (fun _ => rfl) ?_) ?_) | (refine TX.k 16 ?_; first | refine TX.one (One.makeM hA tabOk encI 0 rfl rfl rfl rfl rfl rfl rfl ?_ ?_ ?_) ?_) | (refine TX.k 18 ?_; first | refine TX.one (One.fieldRat tabOk rfl rfl rfl rfl (by decide) rfl rfl) ?_)) <;> (first | refine TRg.pass ?_ | (((try simp only [zn]) <;> (try simp (disch := omega) only [zz hA, zb, zy, reduceCtorEq, Bool.false_eq_true, Int.reduceLT, Int.reduceLE, Int.reduceNeg]) <;> (try simp only [zw])) <;> omega)))
              | refine TX.raw ?_)
          | refine Fin3.of (by conv => lhs; cbv) (by repeat' (first | exact True.intro | exact rfl | refine And.intro ?_ ?_)) ?_ ?_
          | (refine AllO.pass ?_; first
              | exact AllO.nil
              | (refine AllO.cons (One.ev hA tabOk ?_) ?_ <;> (first | refine AllO.pass ?_ | ((conv => lhs; cbv); done)))
              | (refine AllO.cons (One.skipB ?_) ?_ <;> (first | refine AllO.pass ?_ | ((conv => lhs; cbv); done)))
              | ((first | refine AllO.consX (One.elemM hA tabOk rfl rfl rfl rfl ?_ ?_) rfl rfl ?_ | refine AllO.consX (One.lenOwnM hA tabOk rfl rfl rfl rfl) rfl rfl ?_ | refine AllO.consX (One.elemOwnM hA tabOk rfl rfl rfl rfl rfl ?_ ?_) rfl rfl ?_ | refine AllO.consX (One.loadRatM hA tabOk rfl rfl rfl rfl rfl rfl ?_) rfl rfl ?_) <;> (first | refine AllO.pass ?_ | (((try simp only [zn]) <;> (try simp (disch := omega) only [zz hA, zb, zy, reduceCtorEq, Bool.false_eq_true, Int.reduceLT, Int.reduceLE, Int.reduceNeg]) <;> (try simp only [zw])) <;> omega))))
          | refine Thn.exit ?_
          | refine Blk.here ?_
          | refine Blk.other (by decide) ?_
          | refine ⟨.inl rfl, _, RetOk.ev tabOk (by conv => lhs; cbv), ?_⟩
          | fail)
        refine AWp.loopU (fun j : Nat => [(16, .ic (.lit (.int .i64 (hid A (cN 0 - 1 - cN j)))))]) (fun j => [.var true 22 [.ic (.sl 2 false (hid A (List.map (encG A) l)))], .var true 41 [.ic (.sl 1 false (hid A (List.map encI S)))], .row true 0 5 1 (hid A (List.map encU O)), .var true 31 [.own 2 0], .var true 23 [.ic (.sl 3 false (hid A (List.map (encD A) E)))], .lp bz, .var true 38 [.ic (.lit (.int .i64 0)), .ic (.lit (.string sa)), .ic (.lit (.int .i64 0))]]) (fun j => 0 - j) (fun j => j = 0) 0 (by conv => lhs; cbv) rfl (.int rfl (by (((try simp only [zn]) <;> (try simp (disch := omega) only [zz hA, zb, zy, reduceCtorEq, Bool.false_eq_true, Int.reduceLT, Int.reduceLE, Int.reduceNeg]) <;> (try simp only [zw])) <;> omega)) .nil) rfl ?_
        rintro j rfl
        try first | refine AOLg.of [] ?_ | refine QSg.of [] ?_
        repeat' (first
          | (refine AWp.pass ?_; first
              | refine AWp.seq ?_
              | refine AWp.block ?_
              | refine AWp.skip ?_
              | refine AWp.regG [] (by conv => lhs; cbv) ?_
              | refine AWp.cond_t rfl ?_
              | refine AWp.cond_f rfl ?_
              | (refine AWp.cond rfl ?_ ?_ <;> intro hc <;> (try rw [hc]) <;> ((try simp only [zn] at hc) <;> (try simp (disch := omega) only [zz hA, zb, zy, reduceCtorEq, Bool.false_eq_true, Int.reduceLT, Int.reduceLE, Int.reduceNeg] at hc) <;> (try simp only [zw] at hc)) <;> (try (exfalso; omega)))
              | refine AWp.exit ?_
              | refine AWp.ret ⟨.inr rfl, _, RetOk.ev tabOk (by conv => lhs; cbv), ?_⟩
              | refine AWp.drawVG [] rfl (by decide +kernel) (by conv => lhs; cbv) ?_)
          | (refine AOLg.pass ?_; refine AOLg.nx hA tabOk (by conv => lhs; cbv) ?_; first
              | refine NX.done ?_
              | refine NX.gt ?_
              | refine NX.gf ?_
              | (refine NX.gs ?_ ?_ <;> intro hc <;> rw [hc] <;> ((try simp only [zn] at hc) <;> (try simp (disch := omega) only [zz hA, zb, zy, reduceCtorEq, Bool.false_eq_true, Int.reduceLT, Int.reduceLE, Int.reduceNeg] at hc) <;> (try simp only [zw] at hc)) <;> (try (exfalso; omega)))
              | ((first | (refine NX.k 1 ?_; first | refine NX.one (One.elemM hA tabOk rfl rfl rfl rfl ?_ ?_) ?_ | refine NX.one (One.elemOwnM hA tabOk rfl rfl rfl rfl rfl ?_ ?_) ?_) | (refine NX.k 8 ?_; first | refine NX.one (One.eqBoolM hA tabOk rfl rfl rfl rfl rfl) ?_) | (refine NX.k 9 ?_; first | refine NX.one (One.neBoolM hA tabOk rfl rfl rfl rfl rfl) ?_) | (refine NX.k 10 ?_; first | refine NX.one (One.lenOwnM hA tabOk rfl rfl rfl rfl) ?_) | (refine NX.k 14 ?_; first | refine NX.one (One.loadRatM hA tabOk rfl rfl rfl rfl rfl rfl ?_) ?_) | (refine NX.k 15 ?_; first | refine NX.one (One.storeRatM hA tabOk _ rfl rfl rfl rfl rfl rfl rfl rfl (fun _ => rfl) ?_) ?_) | (refine NX.k 16 ?_; first | refine NX.one (One.makeM hA tabOk encI 0 rfl rfl rfl rfl rfl rfl rfl ?_ ?_ ?_) ?_) | (refine NX.k 18 ?_; first | refine NX.one (One.fieldRat tabOk rfl rfl rfl rfl (by decide) rfl rfl) ?_)) <;> (first | refine AOLg.pass ?_ | (((try simp only [zn]) <;> (try simp (disch := omega) only [zz hA, zb, zy, reduceCtorEq, Bool.false_eq_true, Int.reduceLT, Int.reduceLE, Int.reduceNeg]) <;> (try simp only [zw])) <;> omega)))
              | refine NX.raw ?_)
          | (refine TRg.pass ?_; refine TRg.nx hA tabOk (by conv => lhs; cbv) ?_; first
              | refine TX.done ?_
              | refine TX.gt ?_
              | refine TX.gf ?_
              | (refine TX.gs ?_ ?_ <;> intro hc <;> rw [hc] <;> ((try simp only [zn] at hc) <;> (try simp (disch := omega) only [zz hA, zb, zy, reduceCtorEq, Bool.false_eq_true, Int.reduceLT, Int.reduceLE, Int.reduceNeg] at hc) <;> (try simp only [zw] at hc)) <;> (try (exfalso; omega)))
              | ((first | (refine TX.k 1 ?_; first | refine TX.one (One.elemM hA tabOk rfl rfl rfl rfl ?_ ?_) ?_ | refine TX.one (One.elemOwnM hA tabOk rfl rfl rfl rfl rfl ?_ ?_) ?_) | (refine TX.k 8 ?_; first | refine TX.one (One.eqBoolM hA tabOk rfl rfl rfl rfl rfl) ?_) | (refine TX.k 9 ?_; first | refine TX.one (One.neBoolM hA tabOk rfl rfl rfl rfl rfl) ?_) | (refine TX.k 10 ?_; first | refine TX.one (One.lenOwnM hA tabOk rfl rfl rfl rfl) ?_) | (refine TX.k 14 ?_; first | refine TX.one (One.loadRatM hA tabOk rfl rfl rfl rfl rfl rfl ?_) ?_) | (refine TX.k 15 ?_; first | refine TX.one (One.storeRatM hA tabOk _ rfl rfl rfl rfl rfl rfl rfl rfl (fun _ => rfl) ?_) ?_) | (refine TX.k 16 ?_; first | refine TX.one (One.makeM hA tabOk encI 0 rfl rfl rfl rfl rfl rfl rfl ?_ ?_ ?_) ?_) | (refine TX.k 18 ?_; first | refine TX.one (One.fieldRat tabOk rfl rfl rfl rfl (by decide) rfl rfl) ?_)) <;> (first | refine TRg.pass ?_ | (((try simp only [zn]) <;> (try simp (disch := omega) only [zz hA, zb, zy, reduceCtorEq, Bool.false_eq_true, Int.reduceLT, Int.reduceLE, Int.reduceNeg]) <;> (try simp only [zw])) <;> omega)))
              | refine TX.raw ?_)
          | refine Fin3.of (by conv => lhs; cbv) (by repeat' (first | exact True.intro | exact rfl | refine And.intro ?_ ?_)) ?_ ?_
          | (refine AllO.pass ?_; first
              | exact AllO.nil
              | (refine AllO.cons (One.ev hA tabOk ?_) ?_ <;> (first | refine AllO.pass ?_ | ((conv => lhs; cbv); done)))
              | (refine AllO.cons (One.skipB ?_) ?_ <;> (first | refine AllO.pass ?_ | ((conv => lhs; cbv); done)))
              | ((first | refine AllO.consX (One.elemM hA tabOk rfl rfl rfl rfl ?_ ?_) rfl rfl ?_ | refine AllO.consX (One.lenOwnM hA tabOk rfl rfl rfl rfl) rfl rfl ?_ | refine AllO.consX (One.elemOwnM hA tabOk rfl rfl rfl rfl rfl ?_ ?_) rfl rfl ?_ | refine AllO.consX (One.loadRatM hA tabOk rfl rfl rfl rfl rfl rfl ?_) rfl rfl ?_) <;> (first | refine AllO.pass ?_ | (((try simp only [zn]) <;> (try simp (disch := omega) only [zz hA, zb, zy, reduceCtorEq, Bool.false_eq_true, Int.reduceLT, Int.reduceLE, Int.reduceNeg]) <;> (try simp only [zw])) <;> omega))))
          | refine Thn.exit ?_
          | refine Blk.here ?_
          | refine Blk.other (by decide) ?_
          | refine ⟨.inl rfl, _, RetOk.ev tabOk (by conv => lhs; cbv), ?_⟩
          | fail)
        refine ⟨rfl, Nat.le_of_ble_eq_true rfl, (by repeat' (first | exact trimOk.nil | refine trimOk.same ?_ | refine trimOk.turn rfl ?_)), ?_⟩
        refine .inl ⟨rfl, by omega, ?_⟩
        rw [hO2]
        rfl
      · have hp0 : p = 0 := by unfold partsM at hpd; simp at hpd; omega
        have hn0 : na = 0 := by omega
        subst hn0 hp0
        have hO2 : O2 = O := hstep
        try first | refine AOLg.of [] ?_ | refine QSg.of [] ?_
        repeat' (first
          | (refine AWp.pass ?_; first
              | refine AWp.seq ?_
              | refine AWp.block ?_
              | refine AWp.skip ?_
              | refine AWp.regG [] (by conv => lhs; cbv) ?_
              | refine AWp.cond_t rfl ?_
              | refine AWp.cond_f rfl ?_
              | (refine AWp.cond rfl ?_ ?_ <;> intro hc <;> (try rw [hc]) <;> ((try simp only [zn] at hc) <;> (try simp (disch := omega) only [zz hA, zb, zy, reduceCtorEq, Bool.false_eq_true, Int.reduceLT, Int.reduceLE, Int.reduceNeg] at hc) <;> (try simp only [zw] at hc)) <;> (try (exfalso; omega)))
              | refine AWp.exit ?_
              | refine AWp.ret ⟨.inr rfl, _, RetOk.ev tabOk (by conv => lhs; cbv), ?_⟩
              | refine AWp.drawVG [] rfl (by decide +kernel) (by conv => lhs; cbv) ?_)
          | (refine AOLg.pass ?_; refine AOLg.nx hA tabOk (by conv => lhs; cbv) ?_; first
              | refine NX.done ?_
              | refine NX.gt ?_
              | refine NX.gf ?_
              | (refine NX.gs ?_ ?_ <;> intro hc <;> rw [hc] <;> ((try simp only [zn] at hc) <;> (try simp (disch := omega) only [zz hA, zb, zy, reduceCtorEq, Bool.false_eq_true, Int.reduceLT, Int.reduceLE, Int.reduceNeg] at hc) <;> (try simp only [zw] at hc)) <;> (try (exfalso; omega)))
              | ((first | (refine NX.k 1 ?_; first | refine NX.one (One.elemM hA tabOk rfl rfl rfl rfl ?_ ?_) ?_ | refine NX.one (One.elemOwnM hA tabOk rfl rfl rfl rfl rfl ?_ ?_) ?_) | (refine NX.k 8 ?_; first | refine NX.one (One.eqBoolM hA tabOk rfl rfl rfl rfl rfl) ?_) | (refine NX.k 9 ?_; first | refine NX.one (One.neBoolM hA tabOk rfl rfl rfl rfl rfl) ?_) | (refine NX.k 10 ?_; first | refine NX.one (One.lenOwnM hA tabOk rfl rfl rfl rfl) ?_) | (refine NX.k 14 ?_; first | refine NX.one (One.loadRatM hA tabOk rfl rfl rfl rfl rfl rfl ?_) ?_) | (refine NX.k 15 ?_; first | refine NX.one (One.storeRatM hA tabOk _ rfl rfl rfl rfl rfl rfl rfl rfl (fun _ => rfl) ?_) ?_) | (refine NX.k 16 ?_; first | refine NX.one (One.makeM hA tabOk encI 0 rfl rfl rfl rfl rfl rfl rfl ?_ ?_ ?_) ?_) | (refine NX.k 18 ?_; first | refine NX.one (One.fieldRat tabOk rfl rfl rfl rfl (by decide) rfl rfl) ?_)) <;> (first | refine AOLg.pass ?_ | (((try simp only [zn]) <;> (try simp (disch := omega) only [zz hA, zb, zy, reduceCtorEq, Bool.false_eq_true, Int.reduceLT, Int.reduceLE, Int.reduceNeg]) <;> (try simp only [zw])) <;> omega)))
              | refine NX.raw ?_)
          | (refine TRg.pass ?_; refine TRg.nx hA tabOk (by conv => lhs; cbv) ?_; first
              | refine TX.done ?_
              | refine TX.gt ?_
              | refine TX.gf ?_
              | (refine TX.gs ?_ ?_ <;> intro hc <;> rw [hc] <;> ((try simp only [zn] at hc) <;> (try simp (disch := omega) only [zz hA, zb, zy, reduceCtorEq, Bool.false_eq_true, Int.reduceLT, Int.reduceLE, Int.reduceNeg] at hc) <;> (try simp only [zw] at hc)) <;> (try (exfalso; omega)))
              | ((first | (refine TX.k 1 ?_; first | refine TX.one (One.elemM hA tabOk rfl rfl rfl rfl ?_ ?_) ?_ | refine TX.one (One.elemOwnM hA tabOk rfl rfl rfl rfl rfl ?_ ?_) ?_) | (refine TX.k 8 ?_; first | refine TX.one (One.eqBoolM hA tabOk rfl rfl rfl rfl rfl) ?_) | (refine TX.k 9 ?_; first | refine TX.one (One.neBoolM hA tabOk rfl rfl rfl rfl rfl) ?_) | (refine TX.k 10 ?_; first | refine TX.one (One.lenOwnM hA tabOk rfl rfl rfl rfl) ?_) | (refine TX.k 14 ?_; first | refine TX.one (One.loadRatM hA tabOk rfl rfl rfl rfl rfl rfl ?_) ?_) | (refine TX.k 15 ?_; first | refine TX.one (One.storeRatM hA tabOk _ rfl rfl rfl rfl rfl rfl rfl rfl (fun _ => rfl) ?_) ?_) | (refine TX.k 16 ?_; first | refine TX.one (One.makeM hA tabOk encI 0 rfl rfl rfl rfl rfl rfl rfl ?_ ?_ ?_) ?_) | (refine TX.k 18 ?_; first | refine TX.one (One.fieldRat tabOk rfl rfl rfl rfl (by decide) rfl rfl) ?_)) <;> (first | refine TRg.pass ?_ | (((try simp only [zn]) <;> (try simp (disch := omega) only [zz hA, zb, zy, reduceCtorEq, Bool.false_eq_true, Int.reduceLT, Int.reduceLE, Int.reduceNeg]) <;> (try simp only [zw])) <;> omega)))
              | refine TX.raw ?_)
          | refine Fin3.of (by conv => lhs; cbv) (by repeat' (first | exact True.intro | exact rfl | refine And.intro ?_ ?_)) ?_ ?_
          | (refine AllO.pass ?_; first
              | exact AllO.nil
              | (refine AllO.cons (One.ev hA tabOk ?_) ?_ <;> (first | refine AllO.pass ?_ | ((conv => lhs; cbv); done)))
              | (refine AllO.cons (One.skipB ?_) ?_ <;> (first | refine AllO.pass ?_ | ((conv => lhs; cbv); done)))
              | ((first | refine AllO.consX (One.elemM hA tabOk rfl rfl rfl rfl ?_ ?_) rfl rfl ?_ | refine AllO.consX (One.lenOwnM hA tabOk rfl rfl rfl rfl) rfl rfl ?_ | refine AllO.consX (One.elemOwnM hA tabOk rfl rfl rfl rfl rfl ?_ ?_) rfl rfl ?_ | refine AllO.consX (One.loadRatM hA tabOk rfl rfl rfl rfl rfl rfl ?_) rfl rfl ?_) <;> (first | refine AllO.pass ?_ | (((try simp only [zn]) <;> (try simp (disch := omega) only [zz hA, zb, zy, reduceCtorEq, Bool.false_eq_true, Int.reduceLT, Int.reduceLE, Int.reduceNeg]) <;> (try simp only [zw])) <;> omega))))
          | refine Thn.exit ?_
          | refine Blk.here ?_
          | refine Blk.other (by decide) ?_
          | refine ⟨.inl rfl, _, RetOk.ev tabOk (by conv => lhs; cbv), ?_⟩
          | fail)
        refine AWp.loopU (fun j : Nat => [(16, .ic (.lit (.int .i64 (hid A (cN 0 - 1 - cN j)))))]) (fun j => [.var true 22 [.ic (.sl 2 false (hid A (List.map (encG A) l)))], .var true 41 [.ic (.sl 1 false (hid A (List.map encI S)))], .row true 0 5 1 (hid A (List.map encU O)), .var true 31 [.own 2 0], .var true 23 [.ic (.sl 3 false (hid A (List.map (encD A) E)))], .lp bz, .var true 38 [.ic (.lit (.int .i64 1)), .ic (.lit (.string sa)), .ic (.lit (.int .i64 0))]]) (fun j => 0 - j) (fun j => j = 0) 0 (by conv => lhs; cbv) rfl (.int rfl (by (((try simp only [zn]) <;> (try simp (disch := omega) only [zz hA, zb, zy, reduceCtorEq, Bool.false_eq_true, Int.reduceLT, Int.reduceLE, Int.reduceNeg]) <;> (try simp only [zw])) <;> omega)) .nil) rfl ?_
        rintro j rfl
        try first | refine AOLg.of [] ?_ | refine QSg.of [] ?_
        repeat' (first
          | (refine AWp.pass ?_; first
              | refine AWp.seq ?_
              | refine AWp.block ?_
              | refine AWp.skip ?_
              | refine AWp.regG [] (by conv => lhs; cbv) ?_
              | refine AWp.cond_t rfl ?_
              | refine AWp.cond_f rfl ?_
              | (refine AWp.cond rfl ?_ ?_ <;> intro hc <;> (try rw [hc]) <;> ((try simp only [zn] at hc) <;> (try simp (disch := omega) only [zz hA, zb, zy, reduceCtorEq, Bool.false_eq_true, Int.reduceLT, Int.reduceLE, Int.reduceNeg] at hc) <;> (try simp only [zw] at hc)) <;> (try (exfalso; omega)))
              | refine AWp.exit ?_
              | refine AWp.ret ⟨.inr rfl, _, RetOk.ev tabOk (by conv => lhs; cbv), ?_⟩
              | refine AWp.drawVG [] rfl (by decide +kernel) (by conv => lhs; cbv) ?_)
          | (refine AOLg.pass ?_; refine AOLg.nx hA tabOk (by conv => lhs; cbv) ?_; first
              | refine NX.done ?_
              | refine NX.gt ?_
              | refine NX.gf ?_
              | (refine NX.gs ?_ ?_ <;> intro hc <;> rw [hc] <;> ((try simp only [zn] at hc) <;> (try simp (disch := omega) only [zz hA, zb, zy, reduceCtorEq, Bool.false_eq_true, Int.reduceLT, Int.reduceLE, Int.reduceNeg] at hc) <;> (try simp only [zw] at hc)) <;> (try (exfalso; omega)))
              | ((first | (refine NX.k 1 ?_; first | refine NX.one (One.elemM hA tabOk rfl rfl rfl rfl ?_ ?_) ?_ | refine NX.one (One.elemOwnM hA tabOk rfl rfl rfl rfl rfl ?_ ?_) ?_) | (refine NX.k 8 ?_; first | refine NX.one (One.eqBoolM hA tabOk rfl rfl rfl rfl rfl) ?_) | (refine NX.k 9 ?_; first | refine NX.one (One.neBoolM hA tabOk rfl rfl rfl rfl rfl) ?_) | (refine NX.k 10 ?_; first | refine NX.one (One.lenOwnM hA tabOk rfl rfl rfl rfl) ?_) | (refine NX.k 14 ?_; first | refine NX.one (One.loadRatM hA tabOk rfl rfl rfl rfl rfl rfl ?_) ?_) | (refine NX.k 15 ?_; first | refine NX.one (One.storeRatM hA tabOk _ rfl rfl rfl rfl rfl rfl rfl rfl (fun _ => rfl) ?_) ?_) | (refine NX.k 16 ?_; first | refine NX.one (One.makeM hA tabOk encI 0 rfl rfl rfl rfl rfl rfl rfl ?_ ?_ ?_) ?_) | (refine NX.k 18 ?_; first | refine NX.one (One.fieldRat tabOk rfl rfl rfl rfl (by decide) rfl rfl) ?_)) <;> (first | refine AOLg.pass ?_ | (((try simp only [zn]) <;> (try simp (disch := omega) only [zz hA, zb, zy, reduceCtorEq, Bool.false_eq_true, Int.reduceLT, Int.reduceLE, Int.reduceNeg]) <;> (try simp only [zw])) <;> omega)))
              | refine NX.raw ?_)
          | (refine TRg.pass ?_; refine TRg.nx hA tabOk (by conv => lhs; cbv) ?_; first
              | refine TX.done ?_
              | refine TX.gt ?_
              | refine TX.gf ?_
              | (refine TX.gs ?_ ?_ <;> intro hc <;> rw [hc] <;> ((try simp only [zn] at hc) <;> (try simp (disch := omega) only [zz hA, zb, zy, reduceCtorEq, Bool.false_eq_true, Int.reduceLT, Int.reduceLE, Int.reduceNeg] at hc) <;> (try simp only [zw] at hc)) <;> (try (exfalso; omega)))
              | ((first | (refine TX.k 1 ?_; first | refine TX.one (One.elemM hA tabOk rfl rfl rfl rfl ?_ ?_) ?_ | refine TX.one (One.elemOwnM hA tabOk rfl rfl rfl rfl rfl ?_ ?_) ?_) | (refine TX.k 8 ?_; first | refine TX.one (One.eqBoolM hA tabOk rfl rfl rfl rfl rfl) ?_) | (refine TX.k 9 ?_; first | refine TX.one (One.neBoolM hA tabOk rfl rfl rfl rfl rfl) ?_) | (refine TX.k 10 ?_; first | refine TX.one (One.lenOwnM hA tabOk rfl rfl rfl rfl) ?_) | (refine TX.k 14 ?_; first | refine TX.one (One.loadRatM hA tabOk rfl rfl rfl rfl rfl rfl ?_) ?_) | (refine TX.k 15 ?_; first | refine TX.one (One.storeRatM hA tabOk _ rfl rfl rfl rfl rfl rfl rfl rfl (fun _ => rfl) ?_) ?_) | (refine TX.k 16 ?_; first | refine TX.one (One.makeM hA tabOk encI 0 rfl rfl rfl rfl rfl rfl rfl ?_ ?_ ?_) ?_) | (refine TX.k 18 ?_; first | refine TX.one (One.fieldRat tabOk rfl rfl rfl rfl (by decide) rfl rfl) ?_)) <;> (first | refine TRg.pass ?_ | (((try simp only [zn]) <;> (try simp (disch := omega) only [zz hA, zb, zy, reduceCtorEq, Bool.false_eq_true, Int.reduceLT, Int.reduceLE, Int.reduceNeg]) <;> (try simp only [zw])) <;> omega)))
              | refine TX.raw ?_)
          | refine Fin3.of (by conv => lhs; cbv) (by repeat' (first | exact True.intro | exact rfl | refine And.intro ?_ ?_)) ?_ ?_
          | (refine AllO.pass ?_; first
              | exact AllO.nil
              | (refine AllO.cons (One.ev hA tabOk ?_) ?_ <;> (first | refine AllO.pass ?_ | ((conv => lhs; cbv); done)))
              | (refine AllO.cons (One.skipB ?_) ?_ <;> (first | refine AllO.pass ?_ | ((conv => lhs; cbv); done)))
              | ((first | refine AllO.consX (One.elemM hA tabOk rfl rfl rfl rfl ?_ ?_) rfl rfl ?_ | refine AllO.consX (One.lenOwnM hA tabOk rfl rfl rfl rfl) rfl rfl ?_ | refine AllO.consX (One.elemOwnM hA tabOk rfl rfl rfl rfl rfl ?_ ?_) rfl rfl ?_ | refine AllO.consX (One.loadRatM hA tabOk rfl rfl rfl rfl rfl rfl ?_) rfl rfl ?_) <;> (first | refine AllO.pass ?_ | (((try simp only [zn]) <;> (try simp (disch := omega) only [zz hA, zb, zy, reduceCtorEq, Bool.false_eq_true, Int.reduceLT, Int.reduceLE, Int.reduceNeg]) <;> (try simp only [zw])) <;> omega))))
          | refine Thn.exit ?_
          | refine Blk.here ?_
          | refine Blk.other (by decide) ?_
          | refine ⟨.inl rfl, _, RetOk.ev tabOk (by conv => lhs; cbv), ?_⟩
          | fail)
        refine ⟨rfl, Nat.le_of_ble_eq_true rfl, (by repeat' (first | exact trimOk.nil | refine trimOk.same ?_ | refine trimOk.turn rfl ?_)), ?_⟩
        refine .inl ⟨rfl, by omega, ?_⟩
        rw [hO2]
        rfl
      · have hp0 : p = 0 := by unfold partsM at hpd; simp at hpd; omega
        have hn0 : na = 0 := by omega
        subst hn0 hp0
        have hO2 : O2 = O := hstep
        try first | refine AOLg.of [] ?_ | refine QSg.of [] ?_
        repeat' (first
          | (refine AWp.pass ?_; first
              | refine AWp.seq ?_
              | refine AWp.block ?_
              | refine AWp.skip ?_
              | refine AWp.regG [] (by conv => lhs; cbv) ?_
              | refine AWp.cond_t rfl ?_
              | refine AWp.cond_f rfl ?_
              | (refine AWp.cond rfl ?_ ?_ <;> intro hc <;> (try rw [hc]) <;> ((try simp only [zn] at hc) <;> (try simp (disch := omega) only [zz hA, zb, zy, reduceCtorEq, Bool.false_eq_true, Int.reduceLT, Int.reduceLE, Int.reduceNeg] at hc) <;> (try simp only [zw] at hc)) <;> (try (exfalso; omega)))
              | refine AWp.exit ?_
              | refine AWp.ret ⟨.inr rfl, _, RetOk.ev tabOk (by conv => lhs; cbv), ?_⟩
              | refine AWp.drawVG [] rfl (by decide +kernel) (by conv => lhs; cbv) ?_)
          | (refine AOLg.pass ?_; refine AOLg.nx hA tabOk (by conv => lhs; cbv) ?_; first
              | refine NX.done ?_
              | refine NX.gt ?_
              | refine NX.gf ?_
              | (refine NX.gs ?_ ?_ <;> intro hc <;> rw [hc] <;> ((try simp only [zn] at hc) <;> (try simp (disch := omega) only [zz hA, zb, zy, reduceCtorEq, Bool.false_eq_true, Int.reduceLT, Int.reduceLE, Int.reduceNeg] at hc) <;> (try simp only [zw] at hc)) <;> (try (exfalso; omega)))
              | ((first | (refine NX.k 1 ?_; first | refine NX.one (One.elemM hA tabOk rfl rfl rfl rfl ?_ ?_) ?_ | refine NX.one (One.elemOwnM hA tabOk rfl rfl rfl rfl rfl ?_ ?_) ?_) | (refine NX.k 8 ?_; first | refine NX.one (One.eqBoolM hA tabOk rfl rfl rfl rfl rfl) ?_) | (refine NX.k 9 ?_; first | refine NX.one (One.neBoolM hA tabOk rfl rfl rfl rfl rfl) ?_) | (refine NX.k 10 ?_; first | refine NX.one (One.lenOwnM hA tabOk rfl rfl rfl rfl) ?_) | (refine NX.k 14 ?_; first | refine NX.one (One.loadRatM hA tabOk rfl rfl rfl rfl rfl rfl ?_) ?_) | (refine NX.k 15 ?_; first | refine NX.one (One.storeRatM hA tabOk _ rfl rfl rfl rfl rfl rfl rfl rfl (fun _ => rfl) ?_) ?_) | (refine NX.k 16 ?_; first | refine NX.one (One.makeM hA tabOk encI 0 rfl rfl rfl rfl rfl rfl rfl ?_ ?_ ?_) ?_) | (refine NX.k 18 ?_; first | refine NX.one (One.fieldRat tabOk rfl rfl rfl rfl (by decide) rfl rfl) ?_)) <;> (first | refine AOLg.pass ?_ | (((try simp only [zn]) <;> (try simp (disch := omega) only [zz hA, zb, zy, reduceCtorEq, Bool.false_eq_true, Int.reduceLT, Int.reduceLE, Int.reduceNeg]) <;> (try simp only [zw])) <;> omega)))
              | refine NX.raw ?_)
          | (refine TRg.pass ?_; refine TRg.nx hA tabOk (by conv => lhs; cbv) ?_; first
              | refine TX.done ?_
              | refine TX.gt ?_
              | refine TX.gf ?_
              | (refine TX.gs ?_ ?_ <;> intro hc <;> rw [hc] <;> ((try simp only [zn] at hc) <;> (try simp (disch := omega) only [zz hA, zb, zy, reduceCtorEq, Bool.false_eq_true, Int.reduceLT, Int.reduceLE, Int.reduceNeg] at hc) <;> (try simp only [zw] at hc)) <;> (try (exfalso; omega)))
              | ((first | (refine TX.k 1 ?_; first | refine TX.one (One.elemM hA tabOk rfl rfl rfl rfl ?_ ?_) ?_ | refine TX.one (One.elemOwnM hA tabOk rfl rfl rfl rfl rfl ?_ ?_) ?_) | (refine TX.k 8 ?_; first | refine TX.one (One.eqBoolM hA tabOk rfl rfl rfl rfl rfl) ?_) | (refine TX.k 9 ?_; first | refine TX.one (One.neBoolM hA tabOk rfl rfl rfl rfl rfl) ?_) | (refine TX.k 10 ?_; first | refine TX.one (One.lenOwnM hA tabOk rfl rfl rfl rfl) ?_) | (refine TX.k 14 ?_; first | refine TX.one (One.loadRatM hA tabOk rfl rfl rfl rfl rfl rfl ?_) ?_) | (refine TX.k 15 ?_; first | refine TX.one (One.storeRatM hA tabOk _ rfl rfl rfl rfl rfl rfl rfl rfl (fun _ => rfl) ?_) ?_) | (refine TX.k 16 ?_; first | refine TX.one (One.makeM hA tabOk encI 0 rfl rfl rfl rfl rfl rfl rfl ?_ ?_ ?_) ?_) | (refine TX.k 18 ?_; first | refine TX.one (One.fieldRat tabOk rfl rfl rfl rfl (by decide) rfl rfl) ?_)) <;> (first | refine TRg.pass ?_ | (((try simp only [zn]) <;> (try simp (disch := omega) only [zz hA, zb, zy, reduceCtorEq, Bool.false_eq_true, Int.reduceLT, Int.reduceLE, Int.reduceNeg]) <;> (try simp only [zw])) <;> omega)))
              | refine TX.raw ?_)
          | refine Fin3.of (by conv => lhs; cbv) (by repeat' (first | exact True.intro | exact rfl | refine And.intro ?_ ?_)) ?_ ?_
          | (refine AllO.pass ?_; first
              | exact AllO.nil
              | (refine AllO.cons (One.ev hA tabOk ?_) ?_ <;> (first | refine AllO.pass ?_ | ((conv => lhs; cbv); done)))
              | (refine AllO.cons (One.skipB ?_) ?_ <;> (first | refine AllO.pass ?_ | ((conv => lhs; cbv); done)))
              | ((first | refine AllO.consX (One.elemM hA tabOk rfl rfl rfl rfl ?_ ?_) rfl rfl ?_ | refine AllO.consX (One.lenOwnM hA tabOk rfl rfl rfl rfl) rfl rfl ?_ | refine AllO.consX (One.elemOwnM hA tabOk rfl rfl rfl rfl rfl ?_ ?_) rfl rfl ?_ | refine AllO.consX (One.loadRatM hA tabOk rfl rfl rfl rfl rfl rfl ?_) rfl rfl ?_) <;> (first | refine AllO.pass ?_ | (((try simp only [zn]) <;> (try simp (disch := omega) only [zz hA, zb, zy, reduceCtorEq, Bool.false_eq_true, Int.reduceLT, Int.reduceLE, Int.reduceNeg]) <;> (try simp only [zw])) <;> omega))))
          | refine Thn.exit ?_
          | refine Blk.here ?_
          | refine Blk.other (by decide) ?_
          | refine ⟨.inl rfl, _, RetOk.ev tabOk (by conv => lhs; cbv), ?_⟩
          | fail)
        refine AWp.loopU (fun j : Nat => [(16, .ic (.lit (.int .i64 (hid A (cN 0 - 1 - cN j)))))]) (fun j => [.var true 22 [.ic (.sl 2 false (hid A (List.map (encG A) l)))], .var true 41 [.ic (.sl 1 false (hid A (List.map encI S)))], .row true 0 5 1 (hid A (List.map encU O)), .var true 31 [.own 2 0], .var true 23 [.ic (.sl 3 false (hid A (List.map (encD A) E)))], .lp bz, .var true 38 [.ic (.lit (.int .i64 2)), .ic (.lit (.string sa)), .ic (.lit (.int .i64 0))]]) (fun j => 0 - j) (fun j => j = 0) 0 (by conv => lhs; cbv) rfl (.int rfl (by (((try simp only [zn]) <;> (try simp (disch := omega) only [zz hA, zb, zy, reduceCtorEq, Bool.false_eq_true, Int.reduceLT, Int.reduceLE, Int.reduceNeg]) <;> (try simp only [zw])) <;> omega)) .nil) rfl ?_
        rintro j rfl
        try first | refine AOLg.of [] ?_ | refine QSg.of [] ?_
        repeat' (first
          | (refine AWp.pass ?_; first
              | refine AWp.seq ?_
              | refine AWp.block ?_
              | refine AWp.skip ?_
              | refine AWp.regG [] (by conv => lhs; cbv) ?_
              | refine AWp.cond_t rfl ?_
              | refine AWp.cond_f rfl ?_
              | (refine AWp.cond rfl ?_ ?_ <;> intro hc <;> (try rw [hc]) <;> ((try simp only [zn] at hc) <;> (try simp (disch := omega) only [zz hA, zb, zy, reduceCtorEq, Bool.false_eq_true, Int.reduceLT, Int.reduceLE, Int.reduceNeg] at hc) <;> (try simp only [zw] at hc)) <;> (try (exfalso; omega)))
              | refine AWp.exit ?_
              | refine AWp.ret ⟨.inr rfl, _, RetOk.ev tabOk (by conv => lhs; cbv), ?_⟩
              | refine AWp.drawVG [] rfl (by decide +kernel) (by conv => lhs; cbv) ?_)
          | (refine AOLg.pass ?_; refine AOLg.nx hA tabOk (by conv => lhs; cbv) ?_; first
              | refine NX.done ?_
              | refine NX.gt ?_
              | refine NX.gf ?_
              | (refine NX.gs ?_ ?_ <;> intro hc <;> rw [hc] <;> ((try simp only [zn] at hc) <;> (try simp (disch := omega) only [zz hA, zb, zy, reduceCtorEq, Bool.false_eq_true, Int.reduceLT, Int.reduceLE, Int.reduceNeg] at hc) <;> (try simp only [zw] at hc)) <;> (try (exfalso; omega)))
              | ((first | (refine NX.k 1 ?_; first | refine NX.one (One.elemM hA tabOk rfl rfl rfl rfl ?_ ?_) ?_ | refine NX.one (One.elemOwnM hA tabOk rfl rfl rfl rfl rfl ?_ ?_) ?_) | (refine NX.k 8 ?_; first | refine NX.one (One.eqBoolM hA tabOk rfl rfl rfl rfl rfl) ?_) | (refine NX.k 9 ?_; first | refine NX.one (One.neBoolM hA tabOk rfl rfl rfl rfl rfl) ?_) | (refine NX.k 10 ?_; first | refine NX.one (One.lenOwnM hA tabOk rfl rfl rfl rfl) ?_) | (refine NX.k 14 ?_; first | refine NX.one (One.loadRatM hA tabOk rfl rfl rfl rfl rfl rfl ?_) ?_) | (refine NX.k 15 ?_; first | refine NX.one (One.storeRatM hA tabOk _ rfl rfl rfl rfl rfl rfl rfl rfl (fun _ => rfl) ?_) ?_) | (refine NX.k 16 ?_; first | refine NX.one (One.makeM hA tabOk encI 0 rfl rfl rfl rfl rfl rfl rfl ?_ ?_ ?_) ?_) | (refine NX.k 18 ?_; first | refine NX.one (One.fieldRat tabOk rfl rfl rfl rfl (by decide) rfl rfl) ?_)) <;> (first | refine AOLg.pass ?_ | (((try simp only [zn]) <;> (try simp (disch := omega) only [zz hA, zb, zy, reduceCtorEq, Bool.false_eq_true, Int.reduceLT, Int.reduceLE, Int.reduceNeg]) <;> (try simp only [zw])) <;> omega)))
              | refine NX.raw ?_)
          | (refine TRg.pass ?_; refine TRg.nx hA tabOk (by conv => lhs; cbv) ?_; first
              | refine TX.done ?_
              | refine TX.gt ?_
              | refine TX.gf ?_
              | (refine TX.gs ?_ ?_ <;> intro hc <;> rw [hc] <;> ((try simp only [zn] at hc) <;> (try simp (disch := omega) only [zz hA, zb, zy, reduceCtorEq, Bool.false_eq_true, Int.reduceLT, Int.reduceLE, Int.reduceNeg] at hc) <;> (try simp only [zw] at hc)) <;> (try (exfalso; omega)))
              | ((first | (refine TX.k 1 ?_; first | refine TX.one (One.elemM hA tabOk rfl rfl rfl rfl ?_ ?_) ?_ | refine TX.one (One.elemOwnM hA tabOk rfl rfl rfl rfl rfl ?_ ?_) ?_) | (refine TX.k 8 ?_; first | refine TX.one (One.eqBoolM hA tabOk rfl rfl rfl rfl rfl) ?_) | (refine TX.k 9 ?_; first | refine TX.one (One.neBoolM hA tabOk rfl rfl rfl rfl rfl) ?_) | (refine TX.k 10 ?_; first | refine TX.one (One.lenOwnM hA tabOk rfl rfl rfl rfl) ?_) | (refine TX.k 14 ?_; first | refine TX.one (One.loadRatM hA tabOk rfl rfl rfl rfl rfl rfl ?_) ?_) | (refine TX.k 15 ?_; first | refine TX.one (One.storeRatM hA tabOk _ rfl rfl rfl rfl rfl rfl rfl rfl (fun _ => rfl) ?_) ?_) | (refine TX.k 16 ?_; first | refine TX.one (One.makeM hA tabOk encI 0 rfl rfl rfl rfl rfl rfl rfl ?_ ?_ ?_) ?_) | (refine TX.k 18 ?_; first | refine TX.one (One.fieldRat tabOk rfl rfl rfl rfl (by decide) rfl rfl) ?_)) <;> (first | refine TRg.pass ?_ | (((try simp only [zn]) <;> (try simp (disch := omega) only [zz hA, zb, zy, reduceCtorEq, Bool.false_eq_true, Int.reduceLT, Int.reduceLE, Int.reduceNeg]) <;> (try simp only [zw])) <;> omega)))
              | refine TX.raw ?_)
          | refine Fin3.of (by conv => lhs; cbv) (by repeat' (first | exact True.intro | exact rfl | refine And.intro ?_ ?_)) ?_ ?_
          | (refine AllO.pass ?_; first
              | exact AllO.nil
              | (refine AllO.cons (One.ev hA tabOk ?_) ?_ <;> (first | refine AllO.pass ?_ | ((conv => lhs; cbv); done)))
              | (refine AllO.cons (One.skipB ?_) ?_ <;> (first | refine AllO.pass ?_ | ((conv => lhs; cbv); done)))
              | ((first | refine AllO.consX (One.elemM hA tabOk rfl rfl rfl rfl ?_ ?_) rfl rfl ?_ | refine AllO.consX (One.lenOwnM hA tabOk rfl rfl rfl rfl) rfl rfl ?_ | refine AllO.consX (One.elemOwnM hA tabOk rfl rfl rfl rfl rfl ?_ ?_) rfl rfl ?_ | refine AllO.consX (One.loadRatM hA tabOk rfl rfl rfl rfl rfl rfl ?_) rfl rfl ?_) <;> (first | refine AllO.pass ?_ | (((try simp only [zn]) <;> (try simp (disch := omega) only [zz hA, zb, zy, reduceCtorEq, Bool.false_eq_true, Int.reduceLT, Int.reduceLE, Int.reduceNeg]) <;> (try simp only [zw])) <;> omega))))
          | refine Thn.exit ?_
          | refine Blk.here ?_
          | refine Blk.other (by decide) ?_
          | refine ⟨.inl rfl, _, RetOk.ev tabOk (by conv => lhs; cbv), ?_⟩
          | fail)
        refine ⟨rfl, Nat.le_of_ble_eq_true rfl, (by repeat' (first | exact trimOk.nil | refine trimOk.same ?_ | refine trimOk.turn rfl ?_)), ?_⟩
        refine .inl ⟨rfl, by omega, ?_⟩
        rw [hO2]
        rfl
      · have hpn : (p : Int) = na := by unfold partsM at hpd; simp at hpd; omega
        have hpt := sParts_c hA l 3 sa na hl hsz (by omega)
        have hvp := fun j h => vary_parts l 3 sa na (by decide) (by omega) j h
        generalize (partsS l 3 sa na).1 = pp at *
        generalize (partsS l 3 sa na).2 = pb at *
        try first | refine AOLg.of [] ?_ | refine QSg.of [] ?_
        repeat' (first
          | (refine AWp.pass ?_; first
              | refine AWp.seq ?_
              | refine AWp.block ?_
              | refine AWp.skip ?_
              | refine AWp.regG [] (by conv => lhs; cbv) ?_
              | refine AWp.cond_t rfl ?_
              | refine AWp.cond_f rfl ?_
              | (refine AWp.cond rfl ?_ ?_ <;> intro hc <;> (try rw [hc]) <;> ((try simp only [zn] at hc) <;> (try simp (disch := omega) only [zz hA, zb, zy, reduceCtorEq, Bool.false_eq_true, Int.reduceLT, Int.reduceLE, Int.reduceNeg] at hc) <;> (try simp only [zw] at hc)) <;> (try (exfalso; omega)))
              | refine AWp.exit ?_
              | refine AWp.ret ⟨.inr rfl, _, RetOk.ev tabOk (by conv => lhs; cbv), ?_⟩
              | refine AWp.drawVG [] rfl (by decide +kernel) (by conv => lhs; cbv) ?_)
          | (refine AOLg.pass ?_; refine AOLg.nx hA tabOk (by conv => lhs; cbv) ?_; first
              | refine NX.done ?_
              | refine NX.gt ?_
              | refine NX.gf ?_
              | (refine NX.gs ?_ ?_ <;> intro hc <;> rw [hc] <;> ((try simp only [zn] at hc) <;> (try simp (disch := omega) only [zz hA, zb, zy, reduceCtorEq, Bool.false_eq_true, Int.reduceLT, Int.reduceLE, Int.reduceNeg] at hc) <;> (try simp only [zw] at hc)) <;> (try (exfalso; omega)))
              | (refine NX.kC ?_; first | (with_reducible refine NX.call (hpt) ?_) | ((first | refine NX.call (hpt) ?_)) | fail)
              | (refine NX.kO ?_; (first | refine NX.callO (hpt) (by simp [allEq]) rfl ?_))
              | ((first | (refine NX.k 1 ?_; first | refine NX.one (One.elemM hA tabOk rfl rfl rfl rfl ?_ ?_) ?_ | refine NX.one (One.elemOwnM hA tabOk rfl rfl rfl rfl rfl ?_ ?_) ?_) | (refine NX.k 8 ?_; first | refine NX.one (One.eqBoolM hA tabOk rfl rfl rfl rfl rfl) ?_) | (refine NX.k 9 ?_; first | refine NX.one (One.neBoolM hA tabOk rfl rfl rfl rfl rfl) ?_) | (refine NX.k 10 ?_; first | refine NX.one (One.lenOwnM hA tabOk rfl rfl rfl rfl) ?_) | (refine NX.k 14 ?_; first | refine NX.one (One.loadRatM hA tabOk rfl rfl rfl rfl rfl rfl ?_) ?_) | (refine NX.k 15 ?_; first | refine NX.one (One.storeRatM hA tabOk _ rfl rfl rfl rfl rfl rfl rfl rfl (fun _ => rfl) ?_) ?_) | (refine NX.k 16 ?_; first | refine NX.one (One.makeM hA tabOk encI 0 rfl rfl rfl rfl rfl rfl rfl ?_ ?_ ?_) ?_) | (refine NX.k 18 ?_; first | refine NX.one (One.fieldRat tabOk rfl rfl rfl rfl (by decide) rfl rfl) ?_)) <;> (first | refine AOLg.pass ?_ | (((try simp only [zn]) <;> (try simp (disch := omega) only [zz hA, zb, zy, reduceCtorEq, Bool.false_eq_true, Int.reduceLT, Int.reduceLE, Int.reduceNeg]) <;> (try simp only [zw])) <;> omega)))
              | refine NX.raw ?_)
          | (refine TRg.pass ?_; refine TRg.nx hA tabOk (by conv => lhs; cbv) ?_; first
              | refine TX.done ?_
              | refine TX.gt ?_
              | refine TX.gf ?_
              | (refine TX.gs ?_ ?_ <;> intro hc <;> rw [hc] <;> ((try simp only [zn] at hc) <;> (try simp (disch := omega) only [zz hA, zb, zy, reduceCtorEq, Bool.false_eq_true, Int.reduceLT, Int.reduceLE, Int.reduceNeg] at hc) <;> (try simp only [zw] at hc)) <;> (try (exfalso; omega)))
              | (refine TX.kC ?_; first | (with_reducible refine TX.call (hpt) ?_) | ((first | refine TX.call (hpt) ?_)) | fail)
              | (refine TX.kO ?_; (first | refine TX.callO (hpt) (by simp [allEq]) rfl ?_))
              | ((first | (refine TX.k 1 ?_; first | refine TX.one (One.elemM hA tabOk rfl rfl rfl rfl ?_ ?_) ?_ | refine TX.one (One.elemOwnM hA tabOk rfl rfl rfl rfl rfl ?_ ?_) ?_) | (refine TX.k 8 ?_; first | refine TX.one (One.eqBoolM hA tabOk rfl rfl rfl rfl rfl) ?_) | (refine TX.k 9 ?_; first | refine TX.one (One.neBoolM hA tabOk rfl rfl rfl rfl rfl) ?_) | (refine TX.k 10 ?_; first | refine TX.one (One.lenOwnM hA tabOk rfl rfl rfl rfl) ?_) | (refine TX.k 14 ?_; first | refine TX.one (One.loadRatM hA tabOk rfl rfl rfl rfl rfl rfl ?_) ?_) | (refine TX.k 15 ?_; first | refine TX.one (One.storeRatM hA tabOk _ rfl rfl rfl rfl rfl rfl rfl rfl (fun _ => rfl) ?_) ?_) | (refine TX.k 16 ?_; first | refine TX.one (One.makeM hA tabOk encI 0 rfl rfl rfl rfl rfl rfl rfl ?_ ?_ ?_) ?_) | (refine TX.k 18 ?_; first | refine TX.one (One.fieldRat tabOk rfl rfl rfl rfl (by decide) rfl rfl) ?_)) <;> (first | refine TRg.pass ?_ | (((try simp only [zn]) <;> (try simp (disch := omega) only [zz hA, zb, zy, reduceCtorEq, Bool.false_eq_true, Int.reduceLT, Int.reduceLE, Int.reduceNeg]) <;> (try simp only [zw])) <;> omega)))
              | refine TX.raw ?_)
          | refine Fin3.of (by conv => lhs; cbv) (by repeat' (first | exact True.intro | exact rfl | refine And.intro ?_ ?_)) ?_ ?_
          | (refine AllO.pass ?_; first
              | exact AllO.nil
              | (refine AllO.cons (One.ev hA tabOk ?_) ?_ <;> (first | refine AllO.pass ?_ | ((conv => lhs; cbv); done)))
              | (refine AllO.cons (One.skipB ?_) ?_ <;> (first | refine AllO.pass ?_ | ((conv => lhs; cbv); done)))
              | ((with_reducible refine AllO.call (by conv => lhs; cbv) (hpt) ?_ ?_) <;> (first | refine AllO.pass ?_ | exact rfl | (((try simp only [zn]) <;> (try simp (disch := omega) only [zz hA, zb, zy, reduceCtorEq, Bool.false_eq_true, Int.reduceLT, Int.reduceLE, Int.reduceNeg]) <;> (try simp only [zw])) <;> omega)))
              | ((first | refine AllO.consX (One.elemM hA tabOk rfl rfl rfl rfl ?_ ?_) rfl rfl ?_ | refine AllO.consX (One.lenOwnM hA tabOk rfl rfl rfl rfl) rfl rfl ?_ | refine AllO.consX (One.elemOwnM hA tabOk rfl rfl rfl rfl rfl ?_ ?_) rfl rfl ?_ | refine AllO.consX (One.loadRatM hA tabOk rfl rfl rfl rfl rfl rfl ?_) rfl rfl ?_) <;> (first | refine AllO.pass ?_ | (((try simp only [zn]) <;> (try simp (disch := omega) only [zz hA, zb, zy, reduceCtorEq, Bool.false_eq_true, Int.reduceLT, Int.reduceLE, Int.reduceNeg]) <;> (try simp only [zw])) <;> omega))))
          | refine Thn.exit ?_
          | refine Blk.here ?_
          | refine Blk.other (by decide) ?_
          | refine ⟨.inl rfl, _, RetOk.ev tabOk (by conv => lhs; cbv), ?_⟩
          | fail)
        refine AWp.loopU (fun j : Nat => [(16, .ic (.lit (.int .i64 (hid A (cN p - 1 - cN j))))), (15, .ic (.lit (.int .i64 (hid A (backD S i j - 1)))))]) (fun j => [.var true 22 [.ic (.sl 2 false (hid A (List.map (encG A) l)))], .var true 41 [.ic (.sl 1 false (hid A (List.map encI S)))], .row true 0 5 1 (hid A (List.map encU (setsD O (kidsD S i p) (fun k => turnD (O.getD i default) (varyD l 3 sa na k)) (dnL p j)))), .var true 31 [.own 2 0], .var true 23 [.ic (.sl 3 false (hid A (List.map (encD A) E)))], .lp bz, .var true 38 [.ic (.lit (.int .i64 3)), .ic (.lit (.string sa)), .ic (.lit (.int .i64 na))], .var true 9 [.ic (.lit (.string (hid A pp)))], .var true 4 [.ic (.lit (.bool (hid A pb)))]]) (fun j => p - j) (fun j => j ≤ p) 0 (by conv => lhs; cbv) (Nat.zero_le _) (.int rfl (by (((try simp only [zn]) <;> (try simp (disch := omega) only [zz hA, zb, zy, reduceCtorEq, Bool.false_eq_true, Int.reduceLT, Int.reduceLE, Int.reduceNeg]) <;> (try simp only [zw])) <;> omega)) (.int rfl (by simp only [backD]; (((try simp only [zn]) <;> (try simp (disch := omega) only [zz hA, zb, zy, reduceCtorEq, Bool.false_eq_true, Int.reduceLT, Int.reduceLE, Int.reduceNeg]) <;> (try simp only [zw])) <;> omega)) .nil)) (by
          simp only [dnL, List.range_zero, List.map_nil, setsD, List.foldl_nil]) ?_
        intro j hj0
        have hml := setsD_len (kidsD S i p) (fun k => turnD (O.getD i default) (varyD l 3 sa na k)) (dnL p j) O
        by_cases hj : j < p
        · have hnx : setsD O (kidsD S i p) (fun k => turnD (O.getD i default) (varyD l 3 sa na k)) (dnL p (j + 1)) = (setsD O (kidsD S i p) (fun k => turnD (O.getD i default) (varyD l 3 sa na k)) (dnL p j)).set (backD S i j - 1).toNat (turnD (O.getD i default) (varyD l 3 sa na (p - 1 - j))) := by
            rw [dnL_succ, setsD_append]
            show (setsD O (kidsD S i p) _ (dnL p j)).set ((kidsD S i p).getD (p - 1 - j) default).toNat _ = _
            rw [hkg (p - 1 - j) (by omega), show p - 1 - (p - 1 - j) = j by omega]
          have hat : (setsD O (kidsD S i p) (fun k => turnD (O.getD i default) (varyD l 3 sa na k)) (dnL p j)).getD i default = O.getD i default := setsD_other _ _ _ _ _ fun k hk => by
            have h2 := dnL_mem hk hj0
            have := hkin k h2.2
            omega
          have hb0 := hway j hj0
          have hb1 := hway (j + 1) (by omega)
          have hbp := hwayp j hj
          have hbb : ∀ q : Int, q = backD S i j - 1 → S.getD q.toNat default = backD S i (j + 1) := by rintro q rfl; rfl
          have hzi : ∀ q : Int, q = i → (setsD O (kidsD S i p) (fun k => turnD (O.getD i default) (varyD l 3 sa na k)) (dnL p j)).getD q.toNat default = O.getD i default := by rintro q rfl; exact hat
          have hv1 := hvp (p - 1 - j) (by unfold partsM; simp; omega)
          have hcl := of2_at hA (p - 1 - j) pp pb hv1.1 hv1.2
          clear hvp hv1
          have htu := turned_at hA (O.getD i default) (varyD l 3 sa na (p - 1 - j)) hok
          generalize hO3 : setsD O (kidsD S i p) (fun k => turnD (O.getD i default) (varyD l 3 sa na k)) (dnL p (j + 1)) = O3 at *
          generalize setsD O (kidsD S i p) (fun k => turnD (O.getD i default) (varyD l 3 sa na k)) (dnL p j) = O1 at *
          generalize varyD l 3 sa na (p - 1 - j) = V at *
          generalize O.getD i default = W at *
          generalize hB2 : backD S i (j + 1) = b2 at *
          generalize backD S i j = b at *
          have hbb2 := hbb (hid A (b - 1)) (by rw [hid_eq hA])
          try first | refine AOLg.of [] ?_ | refine QSg.of [] ?_
          repeat' (first
            | (refine AWp.pass ?_; first
                | refine AWp.seq ?_
                | refine AWp.block ?_
                | refine AWp.skip ?_
                | refine AWp.regG [] (by conv => lhs; cbv) ?_
                | refine AWp.cond_t rfl ?_
                | refine AWp.cond_f rfl ?_
                | (refine AWp.cond rfl ?_ ?_ <;> intro hc <;> (try rw [hc]) <;> ((try simp only [zn] at hc) <;> (try simp (disch := omega) only [zz hA, zb, zy, reduceCtorEq, Bool.false_eq_true, Int.reduceLT, Int.reduceLE, Int.reduceNeg] at hc) <;> (try simp only [zw] at hc)) <;> (try (exfalso; omega)))
                | refine AWp.exit ?_
                | refine AWp.ret ⟨.inr rfl, _, RetOk.ev tabOk (by conv => lhs; cbv), ?_⟩
                | refine AWp.drawVG [] rfl (by decide +kernel) (by conv => lhs; cbv) ?_)
            | (refine AOLg.pass ?_; refine AOLg.nx hA tabOk (by conv => lhs; cbv) ?_; first
                | refine NX.done ?_
                | refine NX.gt ?_
                | refine NX.gf ?_
                | (refine NX.gs ?_ ?_ <;> intro hc <;> rw [hc] <;> ((try simp only [zn] at hc) <;> (try simp (disch := omega) only [zz hA, zb, zy, reduceCtorEq, Bool.false_eq_true, Int.reduceLT, Int.reduceLE, Int.reduceNeg] at hc) <;> (try simp only [zw] at hc)) <;> (try (exfalso; omega)))
                | (refine NX.kC ?_; first | (with_reducible refine NX.call (htu _ _ (by simp only [hid_eq hA]; exact hzi _ hz) (by simp only [hid_eq hA])) ?_) | ((first | refine NX.call (htu _ _ (by simp only [hid_eq hA]; exact hzi _ hz) (by simp only [hid_eq hA])) ?_)) | fail)
                | (refine NX.kO ?_; (first | refine NX.callO (htu _ _ (by simp only [hid_eq hA]; exact hzi _ hz) (by simp only [hid_eq hA])) (by simp [allEq]) rfl ?_))
                | ((first | (refine NX.k 1 ?_; first | refine NX.one (One.elemM hA tabOk rfl rfl rfl rfl ?_ ?_) ?_ | refine NX.one (One.elemOwnM hA tabOk rfl rfl rfl rfl rfl ?_ ?_) ?_) | (refine NX.k 8 ?_; first | refine NX.one (One.eqBoolM hA tabOk rfl rfl rfl rfl rfl) ?_) | (refine NX.k 9 ?_; first | refine NX.one (One.neBoolM hA tabOk rfl rfl rfl rfl rfl) ?_) | (refine NX.k 10 ?_; first | refine NX.one (One.lenOwnM hA tabOk rfl rfl rfl rfl) ?_) | (refine NX.k 14 ?_; first | refine NX.one (One.loadRatM hA tabOk rfl rfl rfl rfl rfl rfl ?_) ?_) | (refine NX.k 15 ?_; first | refine NX.one (One.storeRatM hA tabOk _ rfl rfl rfl rfl rfl rfl rfl rfl (fun _ => rfl) ?_) ?_) | (refine NX.k 16 ?_; first | refine NX.one (One.makeM hA tabOk encI 0 rfl rfl rfl rfl rfl rfl rfl ?_ ?_ ?_) ?_) | (refine NX.k 18 ?_; first | refine NX.one (One.fieldRat tabOk rfl rfl rfl rfl (by decide) rfl rfl) ?_)) <;> (first | refine AOLg.pass ?_ | (((try simp only [zn]) <;> (try simp (disch := omega) only [zz hA, zb, zy, reduceCtorEq, Bool.false_eq_true, Int.reduceLT, Int.reduceLE, Int.reduceNeg]) <;> (try simp only [zw])) <;> omega)))
                | (refine NX.one (One.fcall 7 (hcl (hid A (cN p - 1 - cN j)) (by (((try simp only [zn]) <;> (try simp (disch := omega) only [zz hA, zb, zy, reduceCtorEq, Bool.false_eq_true, Int.reduceLT, Int.reduceLE, Int.reduceNeg]) <;> (try simp only [zw])) <;> omega))) rfl rfl rfl rfl rfl rfl rfl rfl) ?_)
                | refine NX.raw ?_)
            | (refine TRg.pass ?_; refine TRg.nx hA tabOk (by conv => lhs; cbv) ?_; first
                | refine TX.done ?_
                | refine TX.gt ?_
                | refine TX.gf ?_
                | (refine TX.gs ?_ ?_ <;> intro hc <;> rw [hc] <;> ((try simp only [zn] at hc) <;> (try simp (disch := omega) only [zz hA, zb, zy, reduceCtorEq, Bool.false_eq_true, Int.reduceLT, Int.reduceLE, Int.reduceNeg] at hc) <;> (try simp only [zw] at hc)) <;> (try (exfalso; omega)))
                | (refine TX.kC ?_; first | (with_reducible refine TX.call (htu _ _ (by simp only [hid_eq hA]; exact hzi _ hz) (by simp only [hid_eq hA])) ?_) | ((first | refine TX.call (htu _ _ (by simp only [hid_eq hA]; exact hzi _ hz) (by simp only [hid_eq hA])) ?_)) | fail)
                | (refine TX.kO ?_; (first | refine TX.callO (htu _ _ (by simp only [hid_eq hA]; exact hzi _ hz) (by simp only [hid_eq hA])) (by simp [allEq]) rfl ?_))
                | ((first | (refine TX.k 1 ?_; first | refine TX.one (One.elemM hA tabOk rfl rfl rfl rfl ?_ ?_) ?_ | refine TX.one (One.elemOwnM hA tabOk rfl rfl rfl rfl rfl ?_ ?_) ?_) | (refine TX.k 8 ?_; first | refine TX.one (One.eqBoolM hA tabOk rfl rfl rfl rfl rfl) ?_) | (refine TX.k 9 ?_; first | refine TX.one (One.neBoolM hA tabOk rfl rfl rfl rfl rfl) ?_) | (refine TX.k 10 ?_; first | refine TX.one (One.lenOwnM hA tabOk rfl rfl rfl rfl) ?_) | (refine TX.k 14 ?_; first | refine TX.one (One.loadRatM hA tabOk rfl rfl rfl rfl rfl rfl ?_) ?_) | (refine TX.k 15 ?_; first | refine TX.one (One.storeRatM hA tabOk _ rfl rfl rfl rfl rfl rfl rfl rfl (fun _ => rfl) ?_) ?_) | (refine TX.k 16 ?_; first | refine TX.one (One.makeM hA tabOk encI 0 rfl rfl rfl rfl rfl rfl rfl ?_ ?_ ?_) ?_) | (refine TX.k 18 ?_; first | refine TX.one (One.fieldRat tabOk rfl rfl rfl rfl (by decide) rfl rfl) ?_)) <;> (first | refine TRg.pass ?_ | (((try simp only [zn]) <;> (try simp (disch := omega) only [zz hA, zb, zy, reduceCtorEq, Bool.false_eq_true, Int.reduceLT, Int.reduceLE, Int.reduceNeg]) <;> (try simp only [zw])) <;> omega)))
                | (refine TX.one (One.fcall 7 (hcl (hid A (cN p - 1 - cN j)) (by (((try simp only [zn]) <;> (try simp (disch := omega) only [zz hA, zb, zy, reduceCtorEq, Bool.false_eq_true, Int.reduceLT, Int.reduceLE, Int.reduceNeg]) <;> (try simp only [zw])) <;> omega))) rfl rfl rfl rfl rfl rfl rfl rfl) ?_)
                | refine TX.raw ?_)
            | refine Fin3.of (by conv => lhs; cbv) (by repeat' (first | exact True.intro | exact rfl | refine And.intro ?_ ?_)) ?_ ?_
            | (refine AllO.pass ?_; first
                | exact AllO.nil
                | (refine AllO.cons (One.ev hA tabOk ?_) ?_ <;> (first | refine AllO.pass ?_ | ((conv => lhs; cbv); done)))
                | (refine AllO.cons (One.skipB ?_) ?_ <;> (first | refine AllO.pass ?_ | ((conv => lhs; cbv); done)))
                | ((with_reducible refine AllO.call (by conv => lhs; cbv) (htu _ _ (by simp only [hid_eq hA]; exact hzi _ hz) (by simp only [hid_eq hA])) ?_ ?_) <;> (first | refine AllO.pass ?_ | exact rfl | (((try simp only [zn]) <;> (try simp (disch := omega) only [zz hA, zb, zy, reduceCtorEq, Bool.false_eq_true, Int.reduceLT, Int.reduceLE, Int.reduceNeg]) <;> (try simp only [zw])) <;> omega)))
                | ((first | refine AllO.consX (One.elemM hA tabOk rfl rfl rfl rfl ?_ ?_) rfl rfl ?_ | refine AllO.consX (One.lenOwnM hA tabOk rfl rfl rfl rfl) rfl rfl ?_ | refine AllO.consX (One.elemOwnM hA tabOk rfl rfl rfl rfl rfl ?_ ?_) rfl rfl ?_ | refine AllO.consX (One.loadRatM hA tabOk rfl rfl rfl rfl rfl rfl ?_) rfl rfl ?_) <;> (first | refine AllO.pass ?_ | (((try simp only [zn]) <;> (try simp (disch := omega) only [zz hA, zb, zy, reduceCtorEq, Bool.false_eq_true, Int.reduceLT, Int.reduceLE, Int.reduceNeg]) <;> (try simp only [zw])) <;> omega)))
                | ((refine AllO.consX (One.fcall 7 (hcl (hid A (cN p - 1 - cN j)) (by (((try simp only [zn]) <;> (try simp (disch := omega) only [zz hA, zb, zy, reduceCtorEq, Bool.false_eq_true, Int.reduceLT, Int.reduceLE, Int.reduceNeg]) <;> (try simp only [zw])) <;> omega))) rfl rfl rfl rfl rfl rfl rfl rfl) rfl rfl ?_) <;> (first | refine AllO.pass ?_ | (((try simp only [zn]) <;> (try simp (disch := omega) only [zz hA, zb, zy, reduceCtorEq, Bool.false_eq_true, Int.reduceLT, Int.reduceLE, Int.reduceNeg]) <;> (try simp only [zw])) <;> omega))))
            | refine Thn.exit ?_
            | refine Blk.here ?_
            | refine Blk.other (by decide) ?_
            | refine ⟨.inl rfl, _, RetOk.ev tabOk (by conv => lhs; cbv), ?_⟩
            | fail)
          refine ⟨j + 1, by omega, by omega, rfl, ?_, ?_, (by repeat' (first | exact subE.nil | refine subE.cons rfl ?_))⟩
          · simp only [hid_eq hA, hO3, hnx]
          · refine .int rfl (by (((try simp only [zn]) <;> (try simp (disch := omega) only [zz hA, zb, zy, reduceCtorEq, Bool.false_eq_true, Int.reduceLT, Int.reduceLE, Int.reduceNeg]) <;> (try simp only [zw])) <;> omega)) (.int rfl ?_ .nil)
            rw [hB2]
            simp only [hid_eq hA] at hbb2 ⊢
            rw [hbb2]
            (((try simp only [zn]) <;> (try simp (disch := omega) only [zz hA, zb, zy, reduceCtorEq, Bool.false_eq_true, Int.reduceLT, Int.reduceLE, Int.reduceNeg]) <;> (try simp only [zw])) <;> omega)
        · obtain rfl : j = p := by omega
          have hfin : setsD O (kidsD S i j) (fun k => turnD (O.getD i default) (varyD l 3 sa na k)) (dnL j j) = O2 := by
            rw [hstep, dnL_all, setsD_rev _ _ _ _ hap]
          rw [hfin]
          try first | refine AOLg.of [] ?_ | refine QSg.of [] ?_
          repeat' (first
            | (refine AWp.pass ?_; first
                | refine AWp.seq ?_
                | refine AWp.block ?_
                | refine AWp.skip ?_
                | refine AWp.regG [] (by conv => lhs; cbv) ?_
                | refine AWp.cond_t rfl ?_
                | refine AWp.cond_f rfl ?_
                | (refine AWp.cond rfl ?_ ?_ <;> intro hc <;> (try rw [hc]) <;> ((try simp only [zn] at hc) <;> (try simp (disch := omega) only [zz hA, zb, zy, reduceCtorEq, Bool.false_eq_true, Int.reduceLT, Int.reduceLE, Int.reduceNeg] at hc) <;> (try simp only [zw] at hc)) <;> (try (exfalso; omega)))
                | refine AWp.exit ?_
                | refine AWp.ret ⟨.inr rfl, _, RetOk.ev tabOk (by conv => lhs; cbv), ?_⟩
                | refine AWp.drawVG [] rfl (by decide +kernel) (by conv => lhs; cbv) ?_)
            | (refine AOLg.pass ?_; refine AOLg.nx hA tabOk (by conv => lhs; cbv) ?_; first
                | refine NX.done ?_
                | refine NX.gt ?_
                | refine NX.gf ?_
                | (refine NX.gs ?_ ?_ <;> intro hc <;> rw [hc] <;> ((try simp only [zn] at hc) <;> (try simp (disch := omega) only [zz hA, zb, zy, reduceCtorEq, Bool.false_eq_true, Int.reduceLT, Int.reduceLE, Int.reduceNeg] at hc) <;> (try simp only [zw] at hc)) <;> (try (exfalso; omega)))
                | ((first | (refine NX.k 1 ?_; first | refine NX.one (One.elemM hA tabOk rfl rfl rfl rfl ?_ ?_) ?_ | refine NX.one (One.elemOwnM hA tabOk rfl rfl rfl rfl rfl ?_ ?_) ?_) | (refine NX.k 8 ?_; first | refine NX.one (One.eqBoolM hA tabOk rfl rfl rfl rfl rfl) ?_) | (refine NX.k 9 ?_; first | refine NX.one (One.neBoolM hA tabOk rfl rfl rfl rfl rfl) ?_) | (refine NX.k 10 ?_; first | refine NX.one (One.lenOwnM hA tabOk rfl rfl rfl rfl) ?_) | (refine NX.k 14 ?_; first | refine NX.one (One.loadRatM hA tabOk rfl rfl rfl rfl rfl rfl ?_) ?_) | (refine NX.k 15 ?_; first | refine NX.one (One.storeRatM hA tabOk _ rfl rfl rfl rfl rfl rfl rfl rfl (fun _ => rfl) ?_) ?_) | (refine NX.k 16 ?_; first | refine NX.one (One.makeM hA tabOk encI 0 rfl rfl rfl rfl rfl rfl rfl ?_ ?_ ?_) ?_) | (refine NX.k 18 ?_; first | refine NX.one (One.fieldRat tabOk rfl rfl rfl rfl (by decide) rfl rfl) ?_)) <;> (first | refine AOLg.pass ?_ | (((try simp only [zn]) <;> (try simp (disch := omega) only [zz hA, zb, zy, reduceCtorEq, Bool.false_eq_true, Int.reduceLT, Int.reduceLE, Int.reduceNeg]) <;> (try simp only [zw])) <;> omega)))
                | refine NX.raw ?_)
            | (refine TRg.pass ?_; refine TRg.nx hA tabOk (by conv => lhs; cbv) ?_; first
                | refine TX.done ?_
                | refine TX.gt ?_
                | refine TX.gf ?_
                | (refine TX.gs ?_ ?_ <;> intro hc <;> rw [hc] <;> ((try simp only [zn] at hc) <;> (try simp (disch := omega) only [zz hA, zb, zy, reduceCtorEq, Bool.false_eq_true, Int.reduceLT, Int.reduceLE, Int.reduceNeg] at hc) <;> (try simp only [zw] at hc)) <;> (try (exfalso; omega)))
                | ((first | (refine TX.k 1 ?_; first | refine TX.one (One.elemM hA tabOk rfl rfl rfl rfl ?_ ?_) ?_ | refine TX.one (One.elemOwnM hA tabOk rfl rfl rfl rfl rfl ?_ ?_) ?_) | (refine TX.k 8 ?_; first | refine TX.one (One.eqBoolM hA tabOk rfl rfl rfl rfl rfl) ?_) | (refine TX.k 9 ?_; first | refine TX.one (One.neBoolM hA tabOk rfl rfl rfl rfl rfl) ?_) | (refine TX.k 10 ?_; first | refine TX.one (One.lenOwnM hA tabOk rfl rfl rfl rfl) ?_) | (refine TX.k 14 ?_; first | refine TX.one (One.loadRatM hA tabOk rfl rfl rfl rfl rfl rfl ?_) ?_) | (refine TX.k 15 ?_; first | refine TX.one (One.storeRatM hA tabOk _ rfl rfl rfl rfl rfl rfl rfl rfl (fun _ => rfl) ?_) ?_) | (refine TX.k 16 ?_; first | refine TX.one (One.makeM hA tabOk encI 0 rfl rfl rfl rfl rfl rfl rfl ?_ ?_ ?_) ?_) | (refine TX.k 18 ?_; first | refine TX.one (One.fieldRat tabOk rfl rfl rfl rfl (by decide) rfl rfl) ?_)) <;> (first | refine TRg.pass ?_ | (((try simp only [zn]) <;> (try simp (disch := omega) only [zz hA, zb, zy, reduceCtorEq, Bool.false_eq_true, Int.reduceLT, Int.reduceLE, Int.reduceNeg]) <;> (try simp only [zw])) <;> omega)))
                | refine TX.raw ?_)
            | refine Fin3.of (by conv => lhs; cbv) (by repeat' (first | exact True.intro | exact rfl | refine And.intro ?_ ?_)) ?_ ?_
            | (refine AllO.pass ?_; first
                | exact AllO.nil
                | (refine AllO.cons (One.ev hA tabOk ?_) ?_ <;> (first | refine AllO.pass ?_ | ((conv => lhs; cbv); done)))
                | (refine AllO.cons (One.skipB ?_) ?_ <;> (first | refine AllO.pass ?_ | ((conv => lhs; cbv); done)))
                | ((first | refine AllO.consX (One.elemM hA tabOk rfl rfl rfl rfl ?_ ?_) rfl rfl ?_ | refine AllO.consX (One.lenOwnM hA tabOk rfl rfl rfl rfl) rfl rfl ?_ | refine AllO.consX (One.elemOwnM hA tabOk rfl rfl rfl rfl rfl ?_ ?_) rfl rfl ?_ | refine AllO.consX (One.loadRatM hA tabOk rfl rfl rfl rfl rfl rfl ?_) rfl rfl ?_) <;> (first | refine AllO.pass ?_ | (((try simp only [zn]) <;> (try simp (disch := omega) only [zz hA, zb, zy, reduceCtorEq, Bool.false_eq_true, Int.reduceLT, Int.reduceLE, Int.reduceNeg]) <;> (try simp only [zw])) <;> omega))))
            | refine Thn.exit ?_
            | refine Blk.here ?_
            | refine Blk.other (by decide) ?_
            | refine ⟨.inl rfl, _, RetOk.ev tabOk (by conv => lhs; cbv), ?_⟩
            | fail)
          refine ⟨rfl, Nat.le_of_ble_eq_true rfl, (by repeat' (first | exact trimOk.nil | refine trimOk.same ?_ | refine trimOk.turn rfl ?_)), ?_⟩
          exact .inl ⟨rfl, by omega, rfl⟩
      · have hpn : (p : Int) = 2 ∧ na = 2 := by unfold partsM at hpd; simp at hpd; omega
        have hc1 := of1_c hA
        try first | refine AOLg.of [] ?_ | refine QSg.of [] ?_
        repeat' (first
          | (refine AWp.pass ?_; first
              | refine AWp.seq ?_
              | refine AWp.block ?_
              | refine AWp.skip ?_
              | refine AWp.regG [] (by conv => lhs; cbv) ?_
              | refine AWp.cond_t rfl ?_
              | refine AWp.cond_f rfl ?_
              | (refine AWp.cond rfl ?_ ?_ <;> intro hc <;> (try rw [hc]) <;> ((try simp only [zn] at hc) <;> (try simp (disch := omega) only [zz hA, zb, zy, reduceCtorEq, Bool.false_eq_true, Int.reduceLT, Int.reduceLE, Int.reduceNeg] at hc) <;> (try simp only [zw] at hc)) <;> (try (exfalso; omega)))
              | refine AWp.exit ?_
              | refine AWp.ret ⟨.inr rfl, _, RetOk.ev tabOk (by conv => lhs; cbv), ?_⟩
              | refine AWp.drawVG [] rfl (by decide +kernel) (by conv => lhs; cbv) ?_)
          | (refine AOLg.pass ?_; refine AOLg.nx hA tabOk (by conv => lhs; cbv) ?_; first
              | refine NX.done ?_
              | refine NX.gt ?_
              | refine NX.gf ?_
              | (refine NX.gs ?_ ?_ <;> intro hc <;> rw [hc] <;> ((try simp only [zn] at hc) <;> (try simp (disch := omega) only [zz hA, zb, zy, reduceCtorEq, Bool.false_eq_true, Int.reduceLT, Int.reduceLE, Int.reduceNeg] at hc) <;> (try simp only [zw] at hc)) <;> (try (exfalso; omega)))
              | ((first | (refine NX.k 1 ?_; first | refine NX.one (One.elemM hA tabOk rfl rfl rfl rfl ?_ ?_) ?_ | refine NX.one (One.elemOwnM hA tabOk rfl rfl rfl rfl rfl ?_ ?_) ?_) | (refine NX.k 8 ?_; first | refine NX.one (One.eqBoolM hA tabOk rfl rfl rfl rfl rfl) ?_) | (refine NX.k 9 ?_; first | refine NX.one (One.neBoolM hA tabOk rfl rfl rfl rfl rfl) ?_) | (refine NX.k 10 ?_; first | refine NX.one (One.lenOwnM hA tabOk rfl rfl rfl rfl) ?_) | (refine NX.k 14 ?_; first | refine NX.one (One.loadRatM hA tabOk rfl rfl rfl rfl rfl rfl ?_) ?_) | (refine NX.k 15 ?_; first | refine NX.one (One.storeRatM hA tabOk _ rfl rfl rfl rfl rfl rfl rfl rfl (fun _ => rfl) ?_) ?_) | (refine NX.k 16 ?_; first | refine NX.one (One.makeM hA tabOk encI 0 rfl rfl rfl rfl rfl rfl rfl ?_ ?_ ?_) ?_) | (refine NX.k 18 ?_; first | refine NX.one (One.fieldRat tabOk rfl rfl rfl rfl (by decide) rfl rfl) ?_)) <;> (first | refine AOLg.pass ?_ | (((try simp only [zn]) <;> (try simp (disch := omega) only [zz hA, zb, zy, reduceCtorEq, Bool.false_eq_true, Int.reduceLT, Int.reduceLE, Int.reduceNeg]) <;> (try simp only [zw])) <;> omega)))
              | refine NX.raw ?_)
          | (refine TRg.pass ?_; refine TRg.nx hA tabOk (by conv => lhs; cbv) ?_; first
              | refine TX.done ?_
              | refine TX.gt ?_
              | refine TX.gf ?_
              | (refine TX.gs ?_ ?_ <;> intro hc <;> rw [hc] <;> ((try simp only [zn] at hc) <;> (try simp (disch := omega) only [zz hA, zb, zy, reduceCtorEq, Bool.false_eq_true, Int.reduceLT, Int.reduceLE, Int.reduceNeg] at hc) <;> (try simp only [zw] at hc)) <;> (try (exfalso; omega)))
              | ((first | (refine TX.k 1 ?_; first | refine TX.one (One.elemM hA tabOk rfl rfl rfl rfl ?_ ?_) ?_ | refine TX.one (One.elemOwnM hA tabOk rfl rfl rfl rfl rfl ?_ ?_) ?_) | (refine TX.k 8 ?_; first | refine TX.one (One.eqBoolM hA tabOk rfl rfl rfl rfl rfl) ?_) | (refine TX.k 9 ?_; first | refine TX.one (One.neBoolM hA tabOk rfl rfl rfl rfl rfl) ?_) | (refine TX.k 10 ?_; first | refine TX.one (One.lenOwnM hA tabOk rfl rfl rfl rfl) ?_) | (refine TX.k 14 ?_; first | refine TX.one (One.loadRatM hA tabOk rfl rfl rfl rfl rfl rfl ?_) ?_) | (refine TX.k 15 ?_; first | refine TX.one (One.storeRatM hA tabOk _ rfl rfl rfl rfl rfl rfl rfl rfl (fun _ => rfl) ?_) ?_) | (refine TX.k 16 ?_; first | refine TX.one (One.makeM hA tabOk encI 0 rfl rfl rfl rfl rfl rfl rfl ?_ ?_ ?_) ?_) | (refine TX.k 18 ?_; first | refine TX.one (One.fieldRat tabOk rfl rfl rfl rfl (by decide) rfl rfl) ?_)) <;> (first | refine TRg.pass ?_ | (((try simp only [zn]) <;> (try simp (disch := omega) only [zz hA, zb, zy, reduceCtorEq, Bool.false_eq_true, Int.reduceLT, Int.reduceLE, Int.reduceNeg]) <;> (try simp only [zw])) <;> omega)))
              | refine TX.raw ?_)
          | refine Fin3.of (by conv => lhs; cbv) (by repeat' (first | exact True.intro | exact rfl | refine And.intro ?_ ?_)) ?_ ?_
          | (refine AllO.pass ?_; first
              | exact AllO.nil
              | (refine AllO.cons (One.ev hA tabOk ?_) ?_ <;> (first | refine AllO.pass ?_ | ((conv => lhs; cbv); done)))
              | (refine AllO.cons (One.skipB ?_) ?_ <;> (first | refine AllO.pass ?_ | ((conv => lhs; cbv); done)))
              | ((first | refine AllO.consX (One.elemM hA tabOk rfl rfl rfl rfl ?_ ?_) rfl rfl ?_ | refine AllO.consX (One.lenOwnM hA tabOk rfl rfl rfl rfl) rfl rfl ?_ | refine AllO.consX (One.elemOwnM hA tabOk rfl rfl rfl rfl rfl ?_ ?_) rfl rfl ?_ | refine AllO.consX (One.loadRatM hA tabOk rfl rfl rfl rfl rfl rfl ?_) rfl rfl ?_) <;> (first | refine AllO.pass ?_ | (((try simp only [zn]) <;> (try simp (disch := omega) only [zz hA, zb, zy, reduceCtorEq, Bool.false_eq_true, Int.reduceLT, Int.reduceLE, Int.reduceNeg]) <;> (try simp only [zw])) <;> omega))))
          | refine Thn.exit ?_
          | refine Blk.here ?_
          | refine Blk.other (by decide) ?_
          | refine ⟨.inl rfl, _, RetOk.ev tabOk (by conv => lhs; cbv), ?_⟩
          | fail)
        refine AWp.loopU (fun j : Nat => [(16, .ic (.lit (.int .i64 (hid A (cN p - 1 - cN j))))), (15, .ic (.lit (.int .i64 (hid A (backD S i j - 1)))))]) (fun j => [.var true 22 [.ic (.sl 2 false (hid A (List.map (encG A) l)))], .var true 41 [.ic (.sl 1 false (hid A (List.map encI S)))], .row true 0 5 1 (hid A (List.map encU (setsD O (kidsD S i p) (fun k => turnD (O.getD i default) (varyD l 4 sa na k)) (dnL p j)))), .var true 31 [.own 2 0], .var true 23 [.ic (.sl 3 false (hid A (List.map (encD A) E)))], .lp bz, .var true 38 [.ic (.lit (.int .i64 4)), .ic (.lit (.string sa)), .ic (.lit (.int .i64 na))]]) (fun j => p - j) (fun j => j ≤ p) 0 (by conv => lhs; cbv) (Nat.zero_le _) (.int rfl (by (((try simp only [zn]) <;> (try simp (disch := omega) only [zz hA, zb, zy, reduceCtorEq, Bool.false_eq_true, Int.reduceLT, Int.reduceLE, Int.reduceNeg]) <;> (try simp only [zw])) <;> omega)) (.int rfl (by simp only [backD]; (((try simp only [zn]) <;> (try simp (disch := omega) only [zz hA, zb, zy, reduceCtorEq, Bool.false_eq_true, Int.reduceLT, Int.reduceLE, Int.reduceNeg]) <;> (try simp only [zw])) <;> omega)) .nil)) (by
          simp only [dnL, List.range_zero, List.map_nil, setsD, List.foldl_nil]) ?_
        intro j hj0
        have hml := setsD_len (kidsD S i p) (fun k => turnD (O.getD i default) (varyD l 4 sa na k)) (dnL p j) O
        by_cases hj : j < p
        · have hnx : setsD O (kidsD S i p) (fun k => turnD (O.getD i default) (varyD l 4 sa na k)) (dnL p (j + 1)) = (setsD O (kidsD S i p) (fun k => turnD (O.getD i default) (varyD l 4 sa na k)) (dnL p j)).set (backD S i j - 1).toNat (turnD (O.getD i default) (varyD l 4 sa na (p - 1 - j))) := by
            rw [dnL_succ, setsD_append]
            show (setsD O (kidsD S i p) _ (dnL p j)).set ((kidsD S i p).getD (p - 1 - j) default).toNat _ = _
            rw [hkg (p - 1 - j) (by omega), show p - 1 - (p - 1 - j) = j by omega]
          have hat : (setsD O (kidsD S i p) (fun k => turnD (O.getD i default) (varyD l 4 sa na k)) (dnL p j)).getD i default = O.getD i default := setsD_other _ _ _ _ _ fun k hk => by
            have h2 := dnL_mem hk hj0
            have := hkin k h2.2
            omega
          have hb0 := hway j hj0
          have hb1 := hway (j + 1) (by omega)
          have hbp := hwayp j hj
          have hbb : ∀ q : Int, q = backD S i j - 1 → S.getD q.toNat default = backD S i (j + 1) := by rintro q rfl; rfl
          have hzi : ∀ q : Int, q = i → (setsD O (kidsD S i p) (fun k => turnD (O.getD i default) (varyD l 4 sa na k)) (dnL p j)).getD q.toNat default = O.getD i default := by rintro q rfl; exact hat
          have hv1 : (43 : Int) = varyD l 4 sa na (p - 1 - j) := rfl
          have htu := turned_at hA (O.getD i default) (varyD l 4 sa na (p - 1 - j)) hok
          generalize hO3 : setsD O (kidsD S i p) (fun k => turnD (O.getD i default) (varyD l 4 sa na k)) (dnL p (j + 1)) = O3 at *
          generalize setsD O (kidsD S i p) (fun k => turnD (O.getD i default) (varyD l 4 sa na k)) (dnL p j) = O1 at *
          generalize varyD l 4 sa na (p - 1 - j) = V at *
          generalize O.getD i default = W at *
          generalize hB2 : backD S i (j + 1) = b2 at *
          generalize backD S i j = b at *
          have hbb2 := hbb (hid A (b - 1)) (by rw [hid_eq hA])
          try first | refine AOLg.of [] ?_ | refine QSg.of [] ?_
          repeat' (first
            | (refine AWp.pass ?_; first
                | refine AWp.seq ?_
                | refine AWp.block ?_
                | refine AWp.skip ?_
                | refine AWp.regG [] (by conv => lhs; cbv) ?_
                | refine AWp.cond_t rfl ?_
                | refine AWp.cond_f rfl ?_
                | (refine AWp.cond rfl ?_ ?_ <;> intro hc <;> (try rw [hc]) <;> ((try simp only [zn] at hc) <;> (try simp (disch := omega) only [zz hA, zb, zy, reduceCtorEq, Bool.false_eq_true, Int.reduceLT, Int.reduceLE, Int.reduceNeg] at hc) <;> (try simp only [zw] at hc)) <;> (try (exfalso; omega)))
                | refine AWp.exit ?_
                | refine AWp.ret ⟨.inr rfl, _, RetOk.ev tabOk (by conv => lhs; cbv), ?_⟩
                | refine AWp.drawVG [] rfl (by decide +kernel) (by conv => lhs; cbv) ?_)
            | (refine AOLg.pass ?_; refine AOLg.nx hA tabOk (by conv => lhs; cbv) ?_; first
                | refine NX.done ?_
                | refine NX.gt ?_
                | refine NX.gf ?_
                | (refine NX.gs ?_ ?_ <;> intro hc <;> rw [hc] <;> ((try simp only [zn] at hc) <;> (try simp (disch := omega) only [zz hA, zb, zy, reduceCtorEq, Bool.false_eq_true, Int.reduceLT, Int.reduceLE, Int.reduceNeg] at hc) <;> (try simp only [zw] at hc)) <;> (try (exfalso; omega)))
                | (refine NX.kC ?_; first | (with_reducible refine NX.call (hc1 _) ?_) | (with_reducible refine NX.call (htu _ _ (by simp only [hid_eq hA]; exact hzi _ hz) hv1) ?_) | ((first | refine NX.call (hc1 _) ?_ | refine NX.call (htu _ _ (by simp only [hid_eq hA]; exact hzi _ hz) hv1) ?_)) | fail)
                | (refine NX.kO ?_; (first | refine NX.callO (hc1 _) (by simp [allEq]) rfl ?_ | refine NX.callO (htu _ _ (by simp only [hid_eq hA]; exact hzi _ hz) hv1) (by simp [allEq]) rfl ?_))
                | ((first | (refine NX.k 1 ?_; first | refine NX.one (One.elemM hA tabOk rfl rfl rfl rfl ?_ ?_) ?_ | refine NX.one (One.elemOwnM hA tabOk rfl rfl rfl rfl rfl ?_ ?_) ?_) | (refine NX.k 8 ?_; first | refine NX.one (One.eqBoolM hA tabOk rfl rfl rfl rfl rfl) ?_) | (refine NX.k 9 ?_; first | refine NX.one (One.neBoolM hA tabOk rfl rfl rfl rfl rfl) ?_) | (refine NX.k 10 ?_; first | refine NX.one (One.lenOwnM hA tabOk rfl rfl rfl rfl) ?_) | (refine NX.k 14 ?_; first | refine NX.one (One.loadRatM hA tabOk rfl rfl rfl rfl rfl rfl ?_) ?_) | (refine NX.k 15 ?_; first | refine NX.one (One.storeRatM hA tabOk _ rfl rfl rfl rfl rfl rfl rfl rfl (fun _ => rfl) ?_) ?_) | (refine NX.k 16 ?_; first | refine NX.one (One.makeM hA tabOk encI 0 rfl rfl rfl rfl rfl rfl rfl ?_ ?_ ?_) ?_) | (refine NX.k 18 ?_; first | refine NX.one (One.fieldRat tabOk rfl rfl rfl rfl (by decide) rfl rfl) ?_)) <;> (first | refine AOLg.pass ?_ | (((try simp only [zn]) <;> (try simp (disch := omega) only [zz hA, zb, zy, reduceCtorEq, Bool.false_eq_true, Int.reduceLT, Int.reduceLE, Int.reduceNeg]) <;> (try simp only [zw])) <;> omega)))
                | refine NX.raw ?_)
            | (refine TRg.pass ?_; refine TRg.nx hA tabOk (by conv => lhs; cbv) ?_; first
                | refine TX.done ?_
                | refine TX.gt ?_
                | refine TX.gf ?_
                | (refine TX.gs ?_ ?_ <;> intro hc <;> rw [hc] <;> ((try simp only [zn] at hc) <;> (try simp (disch := omega) only [zz hA, zb, zy, reduceCtorEq, Bool.false_eq_true, Int.reduceLT, Int.reduceLE, Int.reduceNeg] at hc) <;> (try simp only [zw] at hc)) <;> (try (exfalso; omega)))
                | (refine TX.kC ?_; first | (with_reducible refine TX.call (hc1 _) ?_) | (with_reducible refine TX.call (htu _ _ (by simp only [hid_eq hA]; exact hzi _ hz) hv1) ?_) | ((first | refine TX.call (hc1 _) ?_ | refine TX.call (htu _ _ (by simp only [hid_eq hA]; exact hzi _ hz) hv1) ?_)) | fail)
                | (refine TX.kO ?_; (first | refine TX.callO (hc1 _) (by simp [allEq]) rfl ?_ | refine TX.callO (htu _ _ (by simp only [hid_eq hA]; exact hzi _ hz) hv1) (by simp [allEq]) rfl ?_))
                | ((first | (refine TX.k 1 ?_; first | refine TX.one (One.elemM hA tabOk rfl rfl rfl rfl ?_ ?_) ?_ | refine TX.one (One.elemOwnM hA tabOk rfl rfl rfl rfl rfl ?_ ?_) ?_) | (refine TX.k 8 ?_; first | refine TX.one (One.eqBoolM hA tabOk rfl rfl rfl rfl rfl) ?_) | (refine TX.k 9 ?_; first | refine TX.one (One.neBoolM hA tabOk rfl rfl rfl rfl rfl) ?_) | (refine TX.k 10 ?_; first | refine TX.one (One.lenOwnM hA tabOk rfl rfl rfl rfl) ?_) | (refine TX.k 14 ?_; first | refine TX.one (One.loadRatM hA tabOk rfl rfl rfl rfl rfl rfl ?_) ?_) | (refine TX.k 15 ?_; first | refine TX.one (One.storeRatM hA tabOk _ rfl rfl rfl rfl rfl rfl rfl rfl (fun _ => rfl) ?_) ?_) | (refine TX.k 16 ?_; first | refine TX.one (One.makeM hA tabOk encI 0 rfl rfl rfl rfl rfl rfl rfl ?_ ?_ ?_) ?_) | (refine TX.k 18 ?_; first | refine TX.one (One.fieldRat tabOk rfl rfl rfl rfl (by decide) rfl rfl) ?_)) <;> (first | refine TRg.pass ?_ | (((try simp only [zn]) <;> (try simp (disch := omega) only [zz hA, zb, zy, reduceCtorEq, Bool.false_eq_true, Int.reduceLT, Int.reduceLE, Int.reduceNeg]) <;> (try simp only [zw])) <;> omega)))
                | refine TX.raw ?_)
            | refine Fin3.of (by conv => lhs; cbv) (by repeat' (first | exact True.intro | exact rfl | refine And.intro ?_ ?_)) ?_ ?_
            | (refine AllO.pass ?_; first
                | exact AllO.nil
                | (refine AllO.cons (One.ev hA tabOk ?_) ?_ <;> (first | refine AllO.pass ?_ | ((conv => lhs; cbv); done)))
                | (refine AllO.cons (One.skipB ?_) ?_ <;> (first | refine AllO.pass ?_ | ((conv => lhs; cbv); done)))
                | ((with_reducible refine AllO.call (by conv => lhs; cbv) (hc1 _) ?_ ?_) <;> (first | refine AllO.pass ?_ | exact rfl | (((try simp only [zn]) <;> (try simp (disch := omega) only [zz hA, zb, zy, reduceCtorEq, Bool.false_eq_true, Int.reduceLT, Int.reduceLE, Int.reduceNeg]) <;> (try simp only [zw])) <;> omega)))
                | ((with_reducible refine AllO.call (by conv => lhs; cbv) (htu _ _ (by simp only [hid_eq hA]; exact hzi _ hz) hv1) ?_ ?_) <;> (first | refine AllO.pass ?_ | exact rfl | (((try simp only [zn]) <;> (try simp (disch := omega) only [zz hA, zb, zy, reduceCtorEq, Bool.false_eq_true, Int.reduceLT, Int.reduceLE, Int.reduceNeg]) <;> (try simp only [zw])) <;> omega)))
                | ((first | refine AllO.consX (One.elemM hA tabOk rfl rfl rfl rfl ?_ ?_) rfl rfl ?_ | refine AllO.consX (One.lenOwnM hA tabOk rfl rfl rfl rfl) rfl rfl ?_ | refine AllO.consX (One.elemOwnM hA tabOk rfl rfl rfl rfl rfl ?_ ?_) rfl rfl ?_ | refine AllO.consX (One.loadRatM hA tabOk rfl rfl rfl rfl rfl rfl ?_) rfl rfl ?_) <;> (first | refine AllO.pass ?_ | (((try simp only [zn]) <;> (try simp (disch := omega) only [zz hA, zb, zy, reduceCtorEq, Bool.false_eq_true, Int.reduceLT, Int.reduceLE, Int.reduceNeg]) <;> (try simp only [zw])) <;> omega))))
            | refine Thn.exit ?_
            | refine Blk.here ?_
            | refine Blk.other (by decide) ?_
            | refine ⟨.inl rfl, _, RetOk.ev tabOk (by conv => lhs; cbv), ?_⟩
            | fail)
          refine ⟨j + 1, by omega, by omega, rfl, ?_, ?_, (by repeat' (first | exact subE.nil | refine subE.cons rfl ?_))⟩
          · simp only [hid_eq hA, hO3, hnx]
          · refine .int rfl (by (((try simp only [zn]) <;> (try simp (disch := omega) only [zz hA, zb, zy, reduceCtorEq, Bool.false_eq_true, Int.reduceLT, Int.reduceLE, Int.reduceNeg]) <;> (try simp only [zw])) <;> omega)) (.int rfl ?_ .nil)
            rw [hB2]
            simp only [hid_eq hA] at hbb2 ⊢
            rw [hbb2]
            (((try simp only [zn]) <;> (try simp (disch := omega) only [zz hA, zb, zy, reduceCtorEq, Bool.false_eq_true, Int.reduceLT, Int.reduceLE, Int.reduceNeg]) <;> (try simp only [zw])) <;> omega)
        · obtain rfl : j = p := by omega
          have hfin : setsD O (kidsD S i j) (fun k => turnD (O.getD i default) (varyD l 4 sa na k)) (dnL j j) = O2 := by
            rw [hstep, dnL_all, setsD_rev _ _ _ _ hap]
          rw [hfin]
          try first | refine AOLg.of [] ?_ | refine QSg.of [] ?_
          repeat' (first
            | (refine AWp.pass ?_; first
                | refine AWp.seq ?_
                | refine AWp.block ?_
                | refine AWp.skip ?_
                | refine AWp.regG [] (by conv => lhs; cbv) ?_
                | refine AWp.cond_t rfl ?_
                | refine AWp.cond_f rfl ?_
                | (refine AWp.cond rfl ?_ ?_ <;> intro hc <;> (try rw [hc]) <;> ((try simp only [zn] at hc) <;> (try simp (disch := omega) only [zz hA, zb, zy, reduceCtorEq, Bool.false_eq_true, Int.reduceLT, Int.reduceLE, Int.reduceNeg] at hc) <;> (try simp only [zw] at hc)) <;> (try (exfalso; omega)))
                | refine AWp.exit ?_
                | refine AWp.ret ⟨.inr rfl, _, RetOk.ev tabOk (by conv => lhs; cbv), ?_⟩
                | refine AWp.drawVG [] rfl (by decide +kernel) (by conv => lhs; cbv) ?_)
            | (refine AOLg.pass ?_; refine AOLg.nx hA tabOk (by conv => lhs; cbv) ?_; first
                | refine NX.done ?_
                | refine NX.gt ?_
                | refine NX.gf ?_
                | (refine NX.gs ?_ ?_ <;> intro hc <;> rw [hc] <;> ((try simp only [zn] at hc) <;> (try simp (disch := omega) only [zz hA, zb, zy, reduceCtorEq, Bool.false_eq_true, Int.reduceLT, Int.reduceLE, Int.reduceNeg] at hc) <;> (try simp only [zw] at hc)) <;> (try (exfalso; omega)))
                | ((first | (refine NX.k 1 ?_; first | refine NX.one (One.elemM hA tabOk rfl rfl rfl rfl ?_ ?_) ?_ | refine NX.one (One.elemOwnM hA tabOk rfl rfl rfl rfl rfl ?_ ?_) ?_) | (refine NX.k 8 ?_; first | refine NX.one (One.eqBoolM hA tabOk rfl rfl rfl rfl rfl) ?_) | (refine NX.k 9 ?_; first | refine NX.one (One.neBoolM hA tabOk rfl rfl rfl rfl rfl) ?_) | (refine NX.k 10 ?_; first | refine NX.one (One.lenOwnM hA tabOk rfl rfl rfl rfl) ?_) | (refine NX.k 14 ?_; first | refine NX.one (One.loadRatM hA tabOk rfl rfl rfl rfl rfl rfl ?_) ?_) | (refine NX.k 15 ?_; first | refine NX.one (One.storeRatM hA tabOk _ rfl rfl rfl rfl rfl rfl rfl rfl (fun _ => rfl) ?_) ?_) | (refine NX.k 16 ?_; first | refine NX.one (One.makeM hA tabOk encI 0 rfl rfl rfl rfl rfl rfl rfl ?_ ?_ ?_) ?_) | (refine NX.k 18 ?_; first | refine NX.one (One.fieldRat tabOk rfl rfl rfl rfl (by decide) rfl rfl) ?_)) <;> (first | refine AOLg.pass ?_ | (((try simp only [zn]) <;> (try simp (disch := omega) only [zz hA, zb, zy, reduceCtorEq, Bool.false_eq_true, Int.reduceLT, Int.reduceLE, Int.reduceNeg]) <;> (try simp only [zw])) <;> omega)))
                | refine NX.raw ?_)
            | (refine TRg.pass ?_; refine TRg.nx hA tabOk (by conv => lhs; cbv) ?_; first
                | refine TX.done ?_
                | refine TX.gt ?_
                | refine TX.gf ?_
                | (refine TX.gs ?_ ?_ <;> intro hc <;> rw [hc] <;> ((try simp only [zn] at hc) <;> (try simp (disch := omega) only [zz hA, zb, zy, reduceCtorEq, Bool.false_eq_true, Int.reduceLT, Int.reduceLE, Int.reduceNeg] at hc) <;> (try simp only [zw] at hc)) <;> (try (exfalso; omega)))
                | ((first | (refine TX.k 1 ?_; first | refine TX.one (One.elemM hA tabOk rfl rfl rfl rfl ?_ ?_) ?_ | refine TX.one (One.elemOwnM hA tabOk rfl rfl rfl rfl rfl ?_ ?_) ?_) | (refine TX.k 8 ?_; first | refine TX.one (One.eqBoolM hA tabOk rfl rfl rfl rfl rfl) ?_) | (refine TX.k 9 ?_; first | refine TX.one (One.neBoolM hA tabOk rfl rfl rfl rfl rfl) ?_) | (refine TX.k 10 ?_; first | refine TX.one (One.lenOwnM hA tabOk rfl rfl rfl rfl) ?_) | (refine TX.k 14 ?_; first | refine TX.one (One.loadRatM hA tabOk rfl rfl rfl rfl rfl rfl ?_) ?_) | (refine TX.k 15 ?_; first | refine TX.one (One.storeRatM hA tabOk _ rfl rfl rfl rfl rfl rfl rfl rfl (fun _ => rfl) ?_) ?_) | (refine TX.k 16 ?_; first | refine TX.one (One.makeM hA tabOk encI 0 rfl rfl rfl rfl rfl rfl rfl ?_ ?_ ?_) ?_) | (refine TX.k 18 ?_; first | refine TX.one (One.fieldRat tabOk rfl rfl rfl rfl (by decide) rfl rfl) ?_)) <;> (first | refine TRg.pass ?_ | (((try simp only [zn]) <;> (try simp (disch := omega) only [zz hA, zb, zy, reduceCtorEq, Bool.false_eq_true, Int.reduceLT, Int.reduceLE, Int.reduceNeg]) <;> (try simp only [zw])) <;> omega)))
                | refine TX.raw ?_)
            | refine Fin3.of (by conv => lhs; cbv) (by repeat' (first | exact True.intro | exact rfl | refine And.intro ?_ ?_)) ?_ ?_
            | (refine AllO.pass ?_; first
                | exact AllO.nil
                | (refine AllO.cons (One.ev hA tabOk ?_) ?_ <;> (first | refine AllO.pass ?_ | ((conv => lhs; cbv); done)))
                | (refine AllO.cons (One.skipB ?_) ?_ <;> (first | refine AllO.pass ?_ | ((conv => lhs; cbv); done)))
                | ((first | refine AllO.consX (One.elemM hA tabOk rfl rfl rfl rfl ?_ ?_) rfl rfl ?_ | refine AllO.consX (One.lenOwnM hA tabOk rfl rfl rfl rfl) rfl rfl ?_ | refine AllO.consX (One.elemOwnM hA tabOk rfl rfl rfl rfl rfl ?_ ?_) rfl rfl ?_ | refine AllO.consX (One.loadRatM hA tabOk rfl rfl rfl rfl rfl rfl ?_) rfl rfl ?_) <;> (first | refine AllO.pass ?_ | (((try simp only [zn]) <;> (try simp (disch := omega) only [zz hA, zb, zy, reduceCtorEq, Bool.false_eq_true, Int.reduceLT, Int.reduceLE, Int.reduceNeg]) <;> (try simp only [zw])) <;> omega))))
            | refine Thn.exit ?_
            | refine Blk.here ?_
            | refine Blk.other (by decide) ?_
            | refine ⟨.inl rfl, _, RetOk.ev tabOk (by conv => lhs; cbv), ?_⟩
            | fail)
          refine ⟨rfl, Nat.le_of_ble_eq_true rfl, (by repeat' (first | exact trimOk.nil | refine trimOk.same ?_ | refine trimOk.turn rfl ?_)), ?_⟩
          exact .inl ⟨rfl, by omega, rfl⟩
      · have hpn : (p : Int) = 2 ∧ na = 2 := by unfold partsM at hpd; simp at hpd; omega
        have hc1 := of1_c hA
        try first | refine AOLg.of [] ?_ | refine QSg.of [] ?_
        repeat' (first
          | (refine AWp.pass ?_; first
              | refine AWp.seq ?_
              | refine AWp.block ?_
              | refine AWp.skip ?_
              | refine AWp.regG [] (by conv => lhs; cbv) ?_
              | refine AWp.cond_t rfl ?_
              | refine AWp.cond_f rfl ?_
              | (refine AWp.cond rfl ?_ ?_ <;> intro hc <;> (try rw [hc]) <;> ((try simp only [zn] at hc) <;> (try simp (disch := omega) only [zz hA, zb, zy, reduceCtorEq, Bool.false_eq_true, Int.reduceLT, Int.reduceLE, Int.reduceNeg] at hc) <;> (try simp only [zw] at hc)) <;> (try (exfalso; omega)))
              | refine AWp.exit ?_
              | refine AWp.ret ⟨.inr rfl, _, RetOk.ev tabOk (by conv => lhs; cbv), ?_⟩
              | refine AWp.drawVG [] rfl (by decide +kernel) (by conv => lhs; cbv) ?_)
          | (refine AOLg.pass ?_; refine AOLg.nx hA tabOk (by conv => lhs; cbv) ?_; first
              | refine NX.done ?_
              | refine NX.gt ?_
              | refine NX.gf ?_
              | (refine NX.gs ?_ ?_ <;> intro hc <;> rw [hc] <;> ((try simp only [zn] at hc) <;> (try simp (disch := omega) only [zz hA, zb, zy, reduceCtorEq, Bool.false_eq_true, Int.reduceLT, Int.reduceLE, Int.reduceNeg] at hc) <;> (try simp only [zw] at hc)) <;> (try (exfalso; omega)))
              | ((first | (refine NX.k 1 ?_; first | refine NX.one (One.elemM hA tabOk rfl rfl rfl rfl ?_ ?_) ?_ | refine NX.one (One.elemOwnM hA tabOk rfl rfl rfl rfl rfl ?_ ?_) ?_) | (refine NX.k 8 ?_; first | refine NX.one (One.eqBoolM hA tabOk rfl rfl rfl rfl rfl) ?_) | (refine NX.k 9 ?_; first | refine NX.one (One.neBoolM hA tabOk rfl rfl rfl rfl rfl) ?_) | (refine NX.k 10 ?_; first | refine NX.one (One.lenOwnM hA tabOk rfl rfl rfl rfl) ?_) | (refine NX.k 14 ?_; first | refine NX.one (One.loadRatM hA tabOk rfl rfl rfl rfl rfl rfl ?_) ?_) | (refine NX.k 15 ?_; first | refine NX.one (One.storeRatM hA tabOk _ rfl rfl rfl rfl rfl rfl rfl rfl (fun _ => rfl) ?_) ?_) | (refine NX.k 16 ?_; first | refine NX.one (One.makeM hA tabOk encI 0 rfl rfl rfl rfl rfl rfl rfl ?_ ?_ ?_) ?_) | (refine NX.k 18 ?_; first | refine NX.one (One.fieldRat tabOk rfl rfl rfl rfl (by decide) rfl rfl) ?_)) <;> (first | refine AOLg.pass ?_ | (((try simp only [zn]) <;> (try simp (disch := omega) only [zz hA, zb, zy, reduceCtorEq, Bool.false_eq_true, Int.reduceLT, Int.reduceLE, Int.reduceNeg]) <;> (try simp only [zw])) <;> omega)))
              | refine NX.raw ?_)
          | (refine TRg.pass ?_; refine TRg.nx hA tabOk (by conv => lhs; cbv) ?_; first
              | refine TX.done ?_
              | refine TX.gt ?_
              | refine TX.gf ?_
              | (refine TX.gs ?_ ?_ <;> intro hc <;> rw [hc] <;> ((try simp only [zn] at hc) <;> (try simp (disch := omega) only [zz hA, zb, zy, reduceCtorEq, Bool.false_eq_true, Int.reduceLT, Int.reduceLE, Int.reduceNeg] at hc) <;> (try simp only [zw] at hc)) <;> (try (exfalso; omega)))
              | ((first | (refine TX.k 1 ?_; first | refine TX.one (One.elemM hA tabOk rfl rfl rfl rfl ?_ ?_) ?_ | refine TX.one (One.elemOwnM hA tabOk rfl rfl rfl rfl rfl ?_ ?_) ?_) | (refine TX.k 8 ?_; first | refine TX.one (One.eqBoolM hA tabOk rfl rfl rfl rfl rfl) ?_) | (refine TX.k 9 ?_; first | refine TX.one (One.neBoolM hA tabOk rfl rfl rfl rfl rfl) ?_) | (refine TX.k 10 ?_; first | refine TX.one (One.lenOwnM hA tabOk rfl rfl rfl rfl) ?_) | (refine TX.k 14 ?_; first | refine TX.one (One.loadRatM hA tabOk rfl rfl rfl rfl rfl rfl ?_) ?_) | (refine TX.k 15 ?_; first | refine TX.one (One.storeRatM hA tabOk _ rfl rfl rfl rfl rfl rfl rfl rfl (fun _ => rfl) ?_) ?_) | (refine TX.k 16 ?_; first | refine TX.one (One.makeM hA tabOk encI 0 rfl rfl rfl rfl rfl rfl rfl ?_ ?_ ?_) ?_) | (refine TX.k 18 ?_; first | refine TX.one (One.fieldRat tabOk rfl rfl rfl rfl (by decide) rfl rfl) ?_)) <;> (first | refine TRg.pass ?_ | (((try simp only [zn]) <;> (try simp (disch := omega) only [zz hA, zb, zy, reduceCtorEq, Bool.false_eq_true, Int.reduceLT, Int.reduceLE, Int.reduceNeg]) <;> (try simp only [zw])) <;> omega)))
              | refine TX.raw ?_)
          | refine Fin3.of (by conv => lhs; cbv) (by repeat' (first | exact True.intro | exact rfl | refine And.intro ?_ ?_)) ?_ ?_
          | (refine AllO.pass ?_; first
              | exact AllO.nil
              | (refine AllO.cons (One.ev hA tabOk ?_) ?_ <;> (first | refine AllO.pass ?_ | ((conv => lhs; cbv); done)))
              | (refine AllO.cons (One.skipB ?_) ?_ <;> (first | refine AllO.pass ?_ | ((conv => lhs; cbv); done)))
              | ((first | refine AllO.consX (One.elemM hA tabOk rfl rfl rfl rfl ?_ ?_) rfl rfl ?_ | refine AllO.consX (One.lenOwnM hA tabOk rfl rfl rfl rfl) rfl rfl ?_ | refine AllO.consX (One.elemOwnM hA tabOk rfl rfl rfl rfl rfl ?_ ?_) rfl rfl ?_ | refine AllO.consX (One.loadRatM hA tabOk rfl rfl rfl rfl rfl rfl ?_) rfl rfl ?_) <;> (first | refine AllO.pass ?_ | (((try simp only [zn]) <;> (try simp (disch := omega) only [zz hA, zb, zy, reduceCtorEq, Bool.false_eq_true, Int.reduceLT, Int.reduceLE, Int.reduceNeg]) <;> (try simp only [zw])) <;> omega))))
          | refine Thn.exit ?_
          | refine Blk.here ?_
          | refine Blk.other (by decide) ?_
          | refine ⟨.inl rfl, _, RetOk.ev tabOk (by conv => lhs; cbv), ?_⟩
          | fail)
        refine AWp.loopU (fun j : Nat => [(16, .ic (.lit (.int .i64 (hid A (cN p - 1 - cN j))))), (15, .ic (.lit (.int .i64 (hid A (backD S i j - 1)))))]) (fun j => [.var true 22 [.ic (.sl 2 false (hid A (List.map (encG A) l)))], .var true 41 [.ic (.sl 1 false (hid A (List.map encI S)))], .row true 0 5 1 (hid A (List.map encU (setsD O (kidsD S i p) (fun k => turnD (O.getD i default) (varyD l 5 sa na k)) (dnL p j)))), .var true 31 [.own 2 0], .var true 23 [.ic (.sl 3 false (hid A (List.map (encD A) E)))], .lp bz, .var true 38 [.ic (.lit (.int .i64 5)), .ic (.lit (.string sa)), .ic (.lit (.int .i64 na))]]) (fun j => p - j) (fun j => j ≤ p) 0 (by conv => lhs; cbv) (Nat.zero_le _) (.int rfl (by (((try simp only [zn]) <;> (try simp (disch := omega) only [zz hA, zb, zy, reduceCtorEq, Bool.false_eq_true, Int.reduceLT, Int.reduceLE, Int.reduceNeg]) <;> (try simp only [zw])) <;> omega)) (.int rfl (by simp only [backD]; (((try simp only [zn]) <;> (try simp (disch := omega) only [zz hA, zb, zy, reduceCtorEq, Bool.false_eq_true, Int.reduceLT, Int.reduceLE, Int.reduceNeg]) <;> (try simp only [zw])) <;> omega)) .nil)) (by
          simp only [dnL, List.range_zero, List.map_nil, setsD, List.foldl_nil]) ?_
        intro j hj0
        have hml := setsD_len (kidsD S i p) (fun k => turnD (O.getD i default) (varyD l 5 sa na k)) (dnL p j) O
        by_cases hj : j < p
        · have hnx : setsD O (kidsD S i p) (fun k => turnD (O.getD i default) (varyD l 5 sa na k)) (dnL p (j + 1)) = (setsD O (kidsD S i p) (fun k => turnD (O.getD i default) (varyD l 5 sa na k)) (dnL p j)).set (backD S i j - 1).toNat (turnD (O.getD i default) (varyD l 5 sa na (p - 1 - j))) := by
            rw [dnL_succ, setsD_append]
            show (setsD O (kidsD S i p) _ (dnL p j)).set ((kidsD S i p).getD (p - 1 - j) default).toNat _ = _
            rw [hkg (p - 1 - j) (by omega), show p - 1 - (p - 1 - j) = j by omega]
          have hat : (setsD O (kidsD S i p) (fun k => turnD (O.getD i default) (varyD l 5 sa na k)) (dnL p j)).getD i default = O.getD i default := setsD_other _ _ _ _ _ fun k hk => by
            have h2 := dnL_mem hk hj0
            have := hkin k h2.2
            omega
          have hb0 := hway j hj0
          have hb1 := hway (j + 1) (by omega)
          have hbp := hwayp j hj
          have hbb : ∀ q : Int, q = backD S i j - 1 → S.getD q.toNat default = backD S i (j + 1) := by rintro q rfl; rfl
          have hzi : ∀ q : Int, q = i → (setsD O (kidsD S i p) (fun k => turnD (O.getD i default) (varyD l 5 sa na k)) (dnL p j)).getD q.toNat default = O.getD i default := by rintro q rfl; exact hat
          have hv1 : (43 : Int) = varyD l 5 sa na (p - 1 - j) := rfl
          have htu := turned_at hA (O.getD i default) (varyD l 5 sa na (p - 1 - j)) hok
          generalize hO3 : setsD O (kidsD S i p) (fun k => turnD (O.getD i default) (varyD l 5 sa na k)) (dnL p (j + 1)) = O3 at *
          generalize setsD O (kidsD S i p) (fun k => turnD (O.getD i default) (varyD l 5 sa na k)) (dnL p j) = O1 at *
          generalize varyD l 5 sa na (p - 1 - j) = V at *
          generalize O.getD i default = W at *
          generalize hB2 : backD S i (j + 1) = b2 at *
          generalize backD S i j = b at *
          have hbb2 := hbb (hid A (b - 1)) (by rw [hid_eq hA])
          try first | refine AOLg.of [] ?_ | refine QSg.of [] ?_
          repeat' (first
            | (refine AWp.pass ?_; first
                | refine AWp.seq ?_
                | refine AWp.block ?_
                | refine AWp.skip ?_
                | refine AWp.regG [] (by conv => lhs; cbv) ?_
                | refine AWp.cond_t rfl ?_
                | refine AWp.cond_f rfl ?_
                | (refine AWp.cond rfl ?_ ?_ <;> intro hc <;> (try rw [hc]) <;> ((try simp only [zn] at hc) <;> (try simp (disch := omega) only [zz hA, zb, zy, reduceCtorEq, Bool.false_eq_true, Int.reduceLT, Int.reduceLE, Int.reduceNeg] at hc) <;> (try simp only [zw] at hc)) <;> (try (exfalso; omega)))
                | refine AWp.exit ?_
                | refine AWp.ret ⟨.inr rfl, _, RetOk.ev tabOk (by conv => lhs; cbv), ?_⟩
                | refine AWp.drawVG [] rfl (by decide +kernel) (by conv => lhs; cbv) ?_)
            | (refine AOLg.pass ?_; refine AOLg.nx hA tabOk (by conv => lhs; cbv) ?_; first
                | refine NX.done ?_
                | refine NX.gt ?_
                | refine NX.gf ?_
                | (refine NX.gs ?_ ?_ <;> intro hc <;> rw [hc] <;> ((try simp only [zn] at hc) <;> (try simp (disch := omega) only [zz hA, zb, zy, reduceCtorEq, Bool.false_eq_true, Int.reduceLT, Int.reduceLE, Int.reduceNeg] at hc) <;> (try simp only [zw] at hc)) <;> (try (exfalso; omega)))
                | (refine NX.kC ?_; first | (with_reducible refine NX.call (hc1 _) ?_) | (with_reducible refine NX.call (htu _ _ (by simp only [hid_eq hA]; exact hzi _ hz) hv1) ?_) | ((first | refine NX.call (hc1 _) ?_ | refine NX.call (htu _ _ (by simp only [hid_eq hA]; exact hzi _ hz) hv1) ?_)) | fail)
                | (refine NX.kO ?_; (first | refine NX.callO (hc1 _) (by simp [allEq]) rfl ?_ | refine NX.callO (htu _ _ (by simp only [hid_eq hA]; exact hzi _ hz) hv1) (by simp [allEq]) rfl ?_))
                | ((first | (refine NX.k 1 ?_; first | refine NX.one (One.elemM hA tabOk rfl rfl rfl rfl ?_ ?_) ?_ | refine NX.one (One.elemOwnM hA tabOk rfl rfl rfl rfl rfl ?_ ?_) ?_) | (refine NX.k 8 ?_; first | refine NX.one (One.eqBoolM hA tabOk rfl rfl rfl rfl rfl) ?_) | (refine NX.k 9 ?_; first | refine NX.one (One.neBoolM hA tabOk rfl rfl rfl rfl rfl) ?_) | (refine NX.k 10 ?_; first | refine NX.one (One.lenOwnM hA tabOk rfl rfl rfl rfl) ?_) | (refine NX.k 14 ?_; first | refine NX.one (One.loadRatM hA tabOk rfl rfl rfl rfl rfl rfl ?_) ?_) | (refine NX.k 15 ?_; first | refine NX.one (One.storeRatM hA tabOk _ rfl rfl rfl rfl rfl rfl rfl rfl (fun _ => rfl) ?_) ?_) | (refine NX.k 16 ?_; first | refine NX.one (One.makeM hA tabOk encI 0 rfl rfl rfl rfl rfl rfl rfl ?_ ?_ ?_) ?_) | (refine NX.k 18 ?_; first | refine NX.one (One.fieldRat tabOk rfl rfl rfl rfl (by decide) rfl rfl) ?_)) <;> (first | refine AOLg.pass ?_ | (((try simp only [zn]) <;> (try simp (disch := omega) only [zz hA, zb, zy, reduceCtorEq, Bool.false_eq_true, Int.reduceLT, Int.reduceLE, Int.reduceNeg]) <;> (try simp only [zw])) <;> omega)))
                | refine NX.raw ?_)
            | (refine TRg.pass ?_; refine TRg.nx hA tabOk (by conv => lhs; cbv) ?_; first
                | refine TX.done ?_
                | refine TX.gt ?_
                | refine TX.gf ?_
                | (refine TX.gs ?_ ?_ <;> intro hc <;> rw [hc] <;> ((try simp only [zn] at hc) <;> (try simp (disch := omega) only [zz hA, zb, zy, reduceCtorEq, Bool.false_eq_true, Int.reduceLT, Int.reduceLE, Int.reduceNeg] at hc) <;> (try simp only [zw] at hc)) <;> (try (exfalso; omega)))
                | (refine TX.kC ?_; first | (with_reducible refine TX.call (hc1 _) ?_) | (with_reducible refine TX.call (htu _ _ (by simp only [hid_eq hA]; exact hzi _ hz) hv1) ?_) | ((first | refine TX.call (hc1 _) ?_ | refine TX.call (htu _ _ (by simp only [hid_eq hA]; exact hzi _ hz) hv1) ?_)) | fail)
                | (refine TX.kO ?_; (first | refine TX.callO (hc1 _) (by simp [allEq]) rfl ?_ | refine TX.callO (htu _ _ (by simp only [hid_eq hA]; exact hzi _ hz) hv1) (by simp [allEq]) rfl ?_))
                | ((first | (refine TX.k 1 ?_; first | refine TX.one (One.elemM hA tabOk rfl rfl rfl rfl ?_ ?_) ?_ | refine TX.one (One.elemOwnM hA tabOk rfl rfl rfl rfl rfl ?_ ?_) ?_) | (refine TX.k 8 ?_; first | refine TX.one (One.eqBoolM hA tabOk rfl rfl rfl rfl rfl) ?_) | (refine TX.k 9 ?_; first | refine TX.one (One.neBoolM hA tabOk rfl rfl rfl rfl rfl) ?_) | (refine TX.k 10 ?_; first | refine TX.one (One.lenOwnM hA tabOk rfl rfl rfl rfl) ?_) | (refine TX.k 14 ?_; first | refine TX.one (One.loadRatM hA tabOk rfl rfl rfl rfl rfl rfl ?_) ?_) | (refine TX.k 15 ?_; first | refine TX.one (One.storeRatM hA tabOk _ rfl rfl rfl rfl rfl rfl rfl rfl (fun _ => rfl) ?_) ?_) | (refine TX.k 16 ?_; first | refine TX.one (One.makeM hA tabOk encI 0 rfl rfl rfl rfl rfl rfl rfl ?_ ?_ ?_) ?_) | (refine TX.k 18 ?_; first | refine TX.one (One.fieldRat tabOk rfl rfl rfl rfl (by decide) rfl rfl) ?_)) <;> (first | refine TRg.pass ?_ | (((try simp only [zn]) <;> (try simp (disch := omega) only [zz hA, zb, zy, reduceCtorEq, Bool.false_eq_true, Int.reduceLT, Int.reduceLE, Int.reduceNeg]) <;> (try simp only [zw])) <;> omega)))
                | refine TX.raw ?_)
            | refine Fin3.of (by conv => lhs; cbv) (by repeat' (first | exact True.intro | exact rfl | refine And.intro ?_ ?_)) ?_ ?_
            | (refine AllO.pass ?_; first
                | exact AllO.nil
                | (refine AllO.cons (One.ev hA tabOk ?_) ?_ <;> (first | refine AllO.pass ?_ | ((conv => lhs; cbv); done)))
                | (refine AllO.cons (One.skipB ?_) ?_ <;> (first | refine AllO.pass ?_ | ((conv => lhs; cbv); done)))
                | ((with_reducible refine AllO.call (by conv => lhs; cbv) (hc1 _) ?_ ?_) <;> (first | refine AllO.pass ?_ | exact rfl | (((try simp only [zn]) <;> (try simp (disch := omega) only [zz hA, zb, zy, reduceCtorEq, Bool.false_eq_true, Int.reduceLT, Int.reduceLE, Int.reduceNeg]) <;> (try simp only [zw])) <;> omega)))
                | ((with_reducible refine AllO.call (by conv => lhs; cbv) (htu _ _ (by simp only [hid_eq hA]; exact hzi _ hz) hv1) ?_ ?_) <;> (first | refine AllO.pass ?_ | exact rfl | (((try simp only [zn]) <;> (try simp (disch := omega) only [zz hA, zb, zy, reduceCtorEq, Bool.false_eq_true, Int.reduceLT, Int.reduceLE, Int.reduceNeg]) <;> (try simp only [zw])) <;> omega)))
                | ((first | refine AllO.consX (One.elemM hA tabOk rfl rfl rfl rfl ?_ ?_) rfl rfl ?_ | refine AllO.consX (One.lenOwnM hA tabOk rfl rfl rfl rfl) rfl rfl ?_ | refine AllO.consX (One.elemOwnM hA tabOk rfl rfl rfl rfl rfl ?_ ?_) rfl rfl ?_ | refine AllO.consX (One.loadRatM hA tabOk rfl rfl rfl rfl rfl rfl ?_) rfl rfl ?_) <;> (first | refine AllO.pass ?_ | (((try simp only [zn]) <;> (try simp (disch := omega) only [zz hA, zb, zy, reduceCtorEq, Bool.false_eq_true, Int.reduceLT, Int.reduceLE, Int.reduceNeg]) <;> (try simp only [zw])) <;> omega))))
            | refine Thn.exit ?_
            | refine Blk.here ?_
            | refine Blk.other (by decide) ?_
            | refine ⟨.inl rfl, _, RetOk.ev tabOk (by conv => lhs; cbv), ?_⟩
            | fail)
          refine ⟨j + 1, by omega, by omega, rfl, ?_, ?_, (by repeat' (first | exact subE.nil | refine subE.cons rfl ?_))⟩
          · simp only [hid_eq hA, hO3, hnx]
          · refine .int rfl (by (((try simp only [zn]) <;> (try simp (disch := omega) only [zz hA, zb, zy, reduceCtorEq, Bool.false_eq_true, Int.reduceLT, Int.reduceLE, Int.reduceNeg]) <;> (try simp only [zw])) <;> omega)) (.int rfl ?_ .nil)
            rw [hB2]
            simp only [hid_eq hA] at hbb2 ⊢
            rw [hbb2]
            (((try simp only [zn]) <;> (try simp (disch := omega) only [zz hA, zb, zy, reduceCtorEq, Bool.false_eq_true, Int.reduceLT, Int.reduceLE, Int.reduceNeg]) <;> (try simp only [zw])) <;> omega)
        · obtain rfl : j = p := by omega
          have hfin : setsD O (kidsD S i j) (fun k => turnD (O.getD i default) (varyD l 5 sa na k)) (dnL j j) = O2 := by
            rw [hstep, dnL_all, setsD_rev _ _ _ _ hap]
          rw [hfin]
          try first | refine AOLg.of [] ?_ | refine QSg.of [] ?_
          repeat' (first
            | (refine AWp.pass ?_; first
                | refine AWp.seq ?_
                | refine AWp.block ?_
                | refine AWp.skip ?_
                | refine AWp.regG [] (by conv => lhs; cbv) ?_
                | refine AWp.cond_t rfl ?_
                | refine AWp.cond_f rfl ?_
                | (refine AWp.cond rfl ?_ ?_ <;> intro hc <;> (try rw [hc]) <;> ((try simp only [zn] at hc) <;> (try simp (disch := omega) only [zz hA, zb, zy, reduceCtorEq, Bool.false_eq_true, Int.reduceLT, Int.reduceLE, Int.reduceNeg] at hc) <;> (try simp only [zw] at hc)) <;> (try (exfalso; omega)))
                | refine AWp.exit ?_
                | refine AWp.ret ⟨.inr rfl, _, RetOk.ev tabOk (by conv => lhs; cbv), ?_⟩
                | refine AWp.drawVG [] rfl (by decide +kernel) (by conv => lhs; cbv) ?_)
            | (refine AOLg.pass ?_; refine AOLg.nx hA tabOk (by conv => lhs; cbv) ?_; first
                | refine NX.done ?_
                | refine NX.gt ?_
                | refine NX.gf ?_
                | (refine NX.gs ?_ ?_ <;> intro hc <;> rw [hc] <;> ((try simp only [zn] at hc) <;> (try simp (disch := omega) only [zz hA, zb, zy, reduceCtorEq, Bool.false_eq_true, Int.reduceLT, Int.reduceLE, Int.reduceNeg] at hc) <;> (try simp only [zw] at hc)) <;> (try (exfalso; omega)))
                | ((first | (refine NX.k 1 ?_; first | refine NX.one (One.elemM hA tabOk rfl rfl rfl rfl ?_ ?_) ?_ | refine NX.one (One.elemOwnM hA tabOk rfl rfl rfl rfl rfl ?_ ?_) ?_) | (refine NX.k 8 ?_; first | refine NX.one (One.eqBoolM hA tabOk rfl rfl rfl rfl rfl) ?_) | (refine NX.k 9 ?_; first | refine NX.one (One.neBoolM hA tabOk rfl rfl rfl rfl rfl) ?_) | (refine NX.k 10 ?_; first | refine NX.one (One.lenOwnM hA tabOk rfl rfl rfl rfl) ?_) | (refine NX.k 14 ?_; first | refine NX.one (One.loadRatM hA tabOk rfl rfl rfl rfl rfl rfl ?_) ?_) | (refine NX.k 15 ?_; first | refine NX.one (One.storeRatM hA tabOk _ rfl rfl rfl rfl rfl rfl rfl rfl (fun _ => rfl) ?_) ?_) | (refine NX.k 16 ?_; first | refine NX.one (One.makeM hA tabOk encI 0 rfl rfl rfl rfl rfl rfl rfl ?_ ?_ ?_) ?_) | (refine NX.k 18 ?_; first | refine NX.one (One.fieldRat tabOk rfl rfl rfl rfl (by decide) rfl rfl) ?_)) <;> (first | refine AOLg.pass ?_ | (((try simp only [zn]) <;> (try simp (disch := omega) only [zz hA, zb, zy, reduceCtorEq, Bool.false_eq_true, Int.reduceLT, Int.reduceLE, Int.reduceNeg]) <;> (try simp only [zw])) <;> omega)))
                | refine NX.raw ?_)
            | (refine TRg.pass ?_; refine TRg.nx hA tabOk (by conv => lhs; cbv) ?_; first
                | refine TX.done ?_
                | refine TX.gt ?_
                | refine TX.gf ?_
                | (refine TX.gs ?_ ?_ <;> intro hc <;> rw [hc] <;> ((try simp only [zn] at hc) <;> (try simp (disch := omega) only [zz hA, zb, zy, reduceCtorEq, Bool.false_eq_true, Int.reduceLT, Int.reduceLE, Int.reduceNeg] at hc) <;> (try simp only [zw] at hc)) <;> (try (exfalso; omega)))
                | ((first | (refine TX.k 1 ?_; first | refine TX.one (One.elemM hA tabOk rfl rfl rfl rfl ?_ ?_) ?_ | refine TX.one (One.elemOwnM hA tabOk rfl rfl rfl rfl rfl ?_ ?_) ?_) | (refine TX.k 8 ?_; first | refine TX.one (One.eqBoolM hA tabOk rfl rfl rfl rfl rfl) ?_) | (refine TX.k 9 ?_; first | refine TX.one (One.neBoolM hA tabOk rfl rfl rfl rfl rfl) ?_) | (refine TX.k 10 ?_; first | refine TX.one (One.lenOwnM hA tabOk rfl rfl rfl rfl) ?_) | (refine TX.k 14 ?_; first | refine TX.one (One.loadRatM hA tabOk rfl rfl rfl rfl rfl rfl ?_) ?_) | (refine TX.k 15 ?_; first | refine TX.one (One.storeRatM hA tabOk _ rfl rfl rfl rfl rfl rfl rfl rfl (fun _ => rfl) ?_) ?_) | (refine TX.k 16 ?_; first | refine TX.one (One.makeM hA tabOk encI 0 rfl rfl rfl rfl rfl rfl rfl ?_ ?_ ?_) ?_) | (refine TX.k 18 ?_; first | refine TX.one (One.fieldRat tabOk rfl rfl rfl rfl (by decide) rfl rfl) ?_)) <;> (first | refine TRg.pass ?_ | (((try simp only [zn]) <;> (try simp (disch := omega) only [zz hA, zb, zy, reduceCtorEq, Bool.false_eq_true, Int.reduceLT, Int.reduceLE, Int.reduceNeg]) <;> (try simp only [zw])) <;> omega)))
                | refine TX.raw ?_)
            | refine Fin3.of (by conv => lhs; cbv) (by repeat' (first | exact True.intro | exact rfl | refine And.intro ?_ ?_)) ?_ ?_
            | (refine AllO.pass ?_; first
                | exact AllO.nil
                | (refine AllO.cons (One.ev hA tabOk ?_) ?_ <;> (first | refine AllO.pass ?_ | ((conv => lhs; cbv); done)))
                | (refine AllO.cons (One.skipB ?_) ?_ <;> (first | refine AllO.pass ?_ | ((conv => lhs; cbv); done)))
                | ((first | refine AllO.consX (One.elemM hA tabOk rfl rfl rfl rfl ?_ ?_) rfl rfl ?_ | refine AllO.consX (One.lenOwnM hA tabOk rfl rfl rfl rfl) rfl rfl ?_ | refine AllO.consX (One.elemOwnM hA tabOk rfl rfl rfl rfl rfl ?_ ?_) rfl rfl ?_ | refine AllO.consX (One.loadRatM hA tabOk rfl rfl rfl rfl rfl rfl ?_) rfl rfl ?_) <;> (first | refine AllO.pass ?_ | (((try simp only [zn]) <;> (try simp (disch := omega) only [zz hA, zb, zy, reduceCtorEq, Bool.false_eq_true, Int.reduceLT, Int.reduceLE, Int.reduceNeg]) <;> (try simp only [zw])) <;> omega))))
            | refine Thn.exit ?_
            | refine Blk.here ?_
            | refine Blk.other (by decide) ?_
            | refine ⟨.inl rfl, _, RetOk.ev tabOk (by conv => lhs; cbv), ?_⟩
            | fail)
          refine ⟨rfl, Nat.le_of_ble_eq_true rfl, (by repeat' (first | exact trimOk.nil | refine trimOk.same ?_ | refine trimOk.turn rfl ?_)), ?_⟩
          exact .inl ⟨rfl, by omega, rfl⟩
      · have hpn : (p : Int) = 1 := by unfold partsM at hpd; simp at hpd; omega
        have hpt := sParts_c hA l 6 sa na hl hsz (by omega)
        have hvp := fun j h => vary_parts l 6 sa na (by decide) (by omega) j h
        generalize (partsS l 6 sa na).1 = pp at *
        generalize (partsS l 6 sa na).2 = pb at *
        try first | refine AOLg.of [] ?_ | refine QSg.of [] ?_
        repeat' (first
          | (refine AWp.pass ?_; first
              | refine AWp.seq ?_
              | refine AWp.block ?_
              | refine AWp.skip ?_
              | refine AWp.regG [] (by conv => lhs; cbv) ?_
              | refine AWp.cond_t rfl ?_
              | refine AWp.cond_f rfl ?_
              | (refine AWp.cond rfl ?_ ?_ <;> intro hc <;> (try rw [hc]) <;> ((try simp only [zn] at hc) <;> (try simp (disch := omega) only [zz hA, zb, zy, reduceCtorEq, Bool.false_eq_true, Int.reduceLT, Int.reduceLE, Int.reduceNeg] at hc) <;> (try simp only [zw] at hc)) <;> (try (exfalso; omega)))
              | refine AWp.exit ?_
              | refine AWp.ret ⟨.inr rfl, _, RetOk.ev tabOk (by conv => lhs; cbv), ?_⟩
              | refine AWp.drawVG [] rfl (by decide +kernel) (by conv => lhs; cbv) ?_)
          | (refine AOLg.pass ?_; refine AOLg.nx hA tabOk (by conv => lhs; cbv) ?_; first
              | refine NX.done ?_
              | refine NX.gt ?_
              | refine NX.gf ?_
              | (refine NX.gs ?_ ?_ <;> intro hc <;> rw [hc] <;> ((try simp only [zn] at hc) <;> (try simp (disch := omega) only [zz hA, zb, zy, reduceCtorEq, Bool.false_eq_true, Int.reduceLT, Int.reduceLE, Int.reduceNeg] at hc) <;> (try simp only [zw] at hc)) <;> (try (exfalso; omega)))
              | (refine NX.kC ?_; first | (with_reducible refine NX.call (hpt) ?_) | ((first | refine NX.call (hpt) ?_)) | fail)
              | (refine NX.kO ?_; (first | refine NX.callO (hpt) (by simp [allEq]) rfl ?_))
              | ((first | (refine NX.k 1 ?_; first | refine NX.one (One.elemM hA tabOk rfl rfl rfl rfl ?_ ?_) ?_ | refine NX.one (One.elemOwnM hA tabOk rfl rfl rfl rfl rfl ?_ ?_) ?_) | (refine NX.k 8 ?_; first | refine NX.one (One.eqBoolM hA tabOk rfl rfl rfl rfl rfl) ?_) | (refine NX.k 9 ?_; first | refine NX.one (One.neBoolM hA tabOk rfl rfl rfl rfl rfl) ?_) | (refine NX.k 10 ?_; first | refine NX.one (One.lenOwnM hA tabOk rfl rfl rfl rfl) ?_) | (refine NX.k 14 ?_; first | refine NX.one (One.loadRatM hA tabOk rfl rfl rfl rfl rfl rfl ?_) ?_) | (refine NX.k 15 ?_; first | refine NX.one (One.storeRatM hA tabOk _ rfl rfl rfl rfl rfl rfl rfl rfl (fun _ => rfl) ?_) ?_) | (refine NX.k 16 ?_; first | refine NX.one (One.makeM hA tabOk encI 0 rfl rfl rfl rfl rfl rfl rfl ?_ ?_ ?_) ?_) | (refine NX.k 18 ?_; first | refine NX.one (One.fieldRat tabOk rfl rfl rfl rfl (by decide) rfl rfl) ?_)) <;> (first | refine AOLg.pass ?_ | (((try simp only [zn]) <;> (try simp (disch := omega) only [zz hA, zb, zy, reduceCtorEq, Bool.false_eq_true, Int.reduceLT, Int.reduceLE, Int.reduceNeg]) <;> (try simp only [zw])) <;> omega)))
              | refine NX.raw ?_)
          | (refine TRg.pass ?_; refine TRg.nx hA tabOk (by conv => lhs; cbv) ?_; first
              | refine TX.done ?_
              | refine TX.gt ?_
              | refine TX.gf ?_
              | (refine TX.gs ?_ ?_ <;> intro hc <;> rw [hc] <;> ((try simp only [zn] at hc) <;> (try simp (disch := omega) only [zz hA, zb, zy, reduceCtorEq, Bool.false_eq_true, Int.reduceLT, Int.reduceLE, Int.reduceNeg] at hc) <;> (try simp only [zw] at hc)) <;> (try (exfalso; omega)))
              | (refine TX.kC ?_; first | (with_reducible refine TX.call (hpt) ?_) | ((first | refine TX.call (hpt) ?_)) | fail)
              | (refine TX.kO ?_; (first | refine TX.callO (hpt) (by simp [allEq]) rfl ?_))
              | ((first | (refine TX.k 1 ?_; first | refine TX.one (One.elemM hA tabOk rfl rfl rfl rfl ?_ ?_) ?_ | refine TX.one (One.elemOwnM hA tabOk rfl rfl rfl rfl rfl ?_ ?_) ?_) | (refine TX.k 8 ?_; first | refine TX.one (One.eqBoolM hA tabOk rfl rfl rfl rfl rfl) ?_) | (refine TX.k 9 ?_; first | refine TX.one (One.neBoolM hA tabOk rfl rfl rfl rfl rfl) ?_) | (refine TX.k 10 ?_; first | refine TX.one (One.lenOwnM hA tabOk rfl rfl rfl rfl) ?_) | (refine TX.k 14 ?_; first | refine TX.one (One.loadRatM hA tabOk rfl rfl rfl rfl rfl rfl ?_) ?_) | (refine TX.k 15 ?_; first | refine TX.one (One.storeRatM hA tabOk _ rfl rfl rfl rfl rfl rfl rfl rfl (fun _ => rfl) ?_) ?_) | (refine TX.k 16 ?_; first | refine TX.one (One.makeM hA tabOk encI 0 rfl rfl rfl rfl rfl rfl rfl ?_ ?_ ?_) ?_) | (refine TX.k 18 ?_; first | refine TX.one (One.fieldRat tabOk rfl rfl rfl rfl (by decide) rfl rfl) ?_)) <;> (first | refine TRg.pass ?_ | (((try simp only [zn]) <;> (try simp (disch := omega) only [zz hA, zb, zy, reduceCtorEq, Bool.false_eq_true, Int.reduceLT, Int.reduceLE, Int.reduceNeg]) <;> (try simp only [zw])) <;> omega)))
              | refine TX.raw ?_)
          | refine Fin3.of (by conv => lhs; cbv) (by repeat' (first | exact True.intro | exact rfl | refine And.intro ?_ ?_)) ?_ ?_
          | (refine AllO.pass ?_; first
              | exact AllO.nil
              | (refine AllO.cons (One.ev hA tabOk ?_) ?_ <;> (first | refine AllO.pass ?_ | ((conv => lhs; cbv); done)))
              | (refine AllO.cons (One.skipB ?_) ?_ <;> (first | refine AllO.pass ?_ | ((conv => lhs; cbv); done)))
              | ((with_reducible refine AllO.call (by conv => lhs; cbv) (hpt) ?_ ?_) <;> (first | refine AllO.pass ?_ | exact rfl | (((try simp only [zn]) <;> (try simp (disch := omega) only [zz hA, zb, zy, reduceCtorEq, Bool.false_eq_true, Int.reduceLT, Int.reduceLE, Int.reduceNeg]) <;> (try simp only [zw])) <;> omega)))
              | ((first | refine AllO.consX (One.elemM hA tabOk rfl rfl rfl rfl ?_ ?_) rfl rfl ?_ | refine AllO.consX (One.lenOwnM hA tabOk rfl rfl rfl rfl) rfl rfl ?_ | refine AllO.consX (One.elemOwnM hA tabOk rfl rfl rfl rfl rfl ?_ ?_) rfl rfl ?_ | refine AllO.consX (One.loadRatM hA tabOk rfl rfl rfl rfl rfl rfl ?_) rfl rfl ?_) <;> (first | refine AllO.pass ?_ | (((try simp only [zn]) <;> (try simp (disch := omega) only [zz hA, zb, zy, reduceCtorEq, Bool.false_eq_true, Int.reduceLT, Int.reduceLE, Int.reduceNeg]) <;> (try simp only [zw])) <;> omega))))
          | refine Thn.exit ?_
          | refine Blk.here ?_
          | refine Blk.other (by decide) ?_
          | refine ⟨.inl rfl, _, RetOk.ev tabOk (by conv => lhs; cbv), ?_⟩
          | fail)
        refine AWp.loopU (fun j : Nat => [(16, .ic (.lit (.int .i64 (hid A (cN p - 1 - cN j))))), (15, .ic (.lit (.int .i64 (hid A (backD S i j - 1)))))]) (fun j => [.var true 22 [.ic (.sl 2 false (hid A (List.map (encG A) l)))], .var true 41 [.ic (.sl 1 false (hid A (List.map encI S)))], .row true 0 5 1 (hid A (List.map encU (setsD O (kidsD S i p) (fun k => turnD (O.getD i default) (varyD l 6 sa na k)) (dnL p j)))), .var true 31 [.own 2 0], .var true 23 [.ic (.sl 3 false (hid A (List.map (encD A) E)))], .lp bz, .var true 38 [.ic (.lit (.int .i64 6)), .ic (.lit (.string sa)), .ic (.lit (.int .i64 na))], .var true 9 [.ic (.lit (.string (hid A pp)))], .var true 4 [.ic (.lit (.bool (hid A pb)))]]) (fun j => p - j) (fun j => j ≤ p) 0 (by conv => lhs; cbv) (Nat.zero_le _) (.int rfl (by (((try simp only [zn]) <;> (try simp (disch := omega) only [zz hA, zb, zy, reduceCtorEq, Bool.false_eq_true, Int.reduceLT, Int.reduceLE, Int.reduceNeg]) <;> (try simp only [zw])) <;> omega)) (.int rfl (by simp only [backD]; (((try simp only [zn]) <;> (try simp (disch := omega) only [zz hA, zb, zy, reduceCtorEq, Bool.false_eq_true, Int.reduceLT, Int.reduceLE, Int.reduceNeg]) <;> (try simp only [zw])) <;> omega)) .nil)) (by
          simp only [dnL, List.range_zero, List.map_nil, setsD, List.foldl_nil]) ?_
        intro j hj0
        have hml := setsD_len (kidsD S i p) (fun k => turnD (O.getD i default) (varyD l 6 sa na k)) (dnL p j) O
        by_cases hj : j < p
        · have hnx : setsD O (kidsD S i p) (fun k => turnD (O.getD i default) (varyD l 6 sa na k)) (dnL p (j + 1)) = (setsD O (kidsD S i p) (fun k => turnD (O.getD i default) (varyD l 6 sa na k)) (dnL p j)).set (backD S i j - 1).toNat (turnD (O.getD i default) (varyD l 6 sa na (p - 1 - j))) := by
            rw [dnL_succ, setsD_append]
            show (setsD O (kidsD S i p) _ (dnL p j)).set ((kidsD S i p).getD (p - 1 - j) default).toNat _ = _
            rw [hkg (p - 1 - j) (by omega), show p - 1 - (p - 1 - j) = j by omega]
          have hat : (setsD O (kidsD S i p) (fun k => turnD (O.getD i default) (varyD l 6 sa na k)) (dnL p j)).getD i default = O.getD i default := setsD_other _ _ _ _ _ fun k hk => by
            have h2 := dnL_mem hk hj0
            have := hkin k h2.2
            omega
          have hb0 := hway j hj0
          have hb1 := hway (j + 1) (by omega)
          have hbp := hwayp j hj
          have hbb : ∀ q : Int, q = backD S i j - 1 → S.getD q.toNat default = backD S i (j + 1) := by rintro q rfl; rfl
          have hzi : ∀ q : Int, q = i → (setsD O (kidsD S i p) (fun k => turnD (O.getD i default) (varyD l 6 sa na k)) (dnL p j)).getD q.toNat default = O.getD i default := by rintro q rfl; exact hat
          have hv1 := hvp (p - 1 - j) (by unfold partsM; simp; omega)
          have hcl := of2_at hA (p - 1 - j) pp pb hv1.1 hv1.2
          clear hvp hv1
          have htu := turned_at hA (O.getD i default) (varyD l 6 sa na (p - 1 - j)) hok
          generalize hO3 : setsD O (kidsD S i p) (fun k => turnD (O.getD i default) (varyD l 6 sa na k)) (dnL p (j + 1)) = O3 at *
          generalize setsD O (kidsD S i p) (fun k => turnD (O.getD i default) (varyD l 6 sa na k)) (dnL p j) = O1 at *
          generalize varyD l 6 sa na (p - 1 - j) = V at *
          generalize O.getD i default = W at *
          generalize hB2 : backD S i (j + 1) = b2 at *
          generalize backD S i j = b at *
          have hbb2 := hbb (hid A (b - 1)) (by rw [hid_eq hA])
          try first | refine AOLg.of [] ?_ | refine QSg.of [] ?_
          repeat' (first
            | (refine AWp.pass ?_; first
                | refine AWp.seq ?_
                | refine AWp.block ?_
                | refine AWp.skip ?_
                | refine AWp.regG [] (by conv => lhs; cbv) ?_
                | refine AWp.cond_t rfl ?_
                | refine AWp.cond_f rfl ?_
                | (refine AWp.cond rfl ?_ ?_ <;> intro hc <;> (try rw [hc]) <;> ((try simp only [zn] at hc) <;> (try simp (disch := omega) only [zz hA, zb, zy, reduceCtorEq, Bool.false_eq_true, Int.reduceLT, Int.reduceLE, Int.reduceNeg] at hc) <;> (try simp only [zw] at hc)) <;> (try (exfalso; omega)))
                | refine AWp.exit ?_
                | refine AWp.ret ⟨.inr rfl, _, RetOk.ev tabOk (by conv => lhs; cbv), ?_⟩
                | refine AWp.drawVG [] rfl (by decide +kernel) (by conv => lhs; cbv) ?_)
            | (refine AOLg.pass ?_; refine AOLg.nx hA tabOk (by conv => lhs; cbv) ?_; first
                | refine NX.done ?_
                | refine NX.gt ?_
                | refine NX.gf ?_
                | (refine NX.gs ?_ ?_ <;> intro hc <;> rw [hc] <;> ((try simp only [zn] at hc) <;> (try simp (disch := omega) only [zz hA, zb, zy, reduceCtorEq, Bool.false_eq_true, Int.reduceLT, Int.reduceLE, Int.reduceNeg] at hc) <;> (try simp only [zw] at hc)) <;> (try (exfalso; omega)))
                | (refine NX.kC ?_; first | (with_reducible refine NX.call (htu _ _ (by simp only [hid_eq hA]; exact hzi _ hz) (by simp only [hid_eq hA])) ?_) | ((first | refine NX.call (htu _ _ (by simp only [hid_eq hA]; exact hzi _ hz) (by simp only [hid_eq hA])) ?_)) | fail)
                | (refine NX.kO ?_; (first | refine NX.callO (htu _ _ (by simp only [hid_eq hA]; exact hzi _ hz) (by simp only [hid_eq hA])) (by simp [allEq]) rfl ?_))
                | ((first | (refine NX.k 1 ?_; first | refine NX.one (One.elemM hA tabOk rfl rfl rfl rfl ?_ ?_) ?_ | refine NX.one (One.elemOwnM hA tabOk rfl rfl rfl rfl rfl ?_ ?_) ?_) | (refine NX.k 8 ?_; first | refine NX.one (One.eqBoolM hA tabOk rfl rfl rfl rfl rfl) ?_) | (refine NX.k 9 ?_; first | refine NX.one (One.neBoolM hA tabOk rfl rfl rfl rfl rfl) ?_) | (refine NX.k 10 ?_; first | refine NX.one (One.lenOwnM hA tabOk rfl rfl rfl rfl) ?_) | (refine NX.k 14 ?_; first | refine NX.one (One.loadRatM hA tabOk rfl rfl rfl rfl rfl rfl ?_) ?_) | (refine NX.k 15 ?_; first | refine NX.one (One.storeRatM hA tabOk _ rfl rfl rfl rfl rfl rfl rfl rfl (fun _ => rfl) ?_) ?_) | (refine NX.k 16 ?_; first | refine NX.one (One.makeM hA tabOk encI 0 rfl rfl rfl rfl rfl rfl rfl ?_ ?_ ?_) ?_) | (refine NX.k 18 ?_; first | refine NX.one (One.fieldRat tabOk rfl rfl rfl rfl (by decide) rfl rfl) ?_)) <;> (first | refine AOLg.pass ?_ | (((try simp only [zn]) <;> (try simp (disch := omega) only [zz hA, zb, zy, reduceCtorEq, Bool.false_eq_true, Int.reduceLT, Int.reduceLE, Int.reduceNeg]) <;> (try simp only [zw])) <;> omega)))
                | (refine NX.one (One.fcall 7 (hcl (hid A (cN p - 1 - cN j)) (by (((try simp only [zn]) <;> (try simp (disch := omega) only [zz hA, zb, zy, reduceCtorEq, Bool.false_eq_true, Int.reduceLT, Int.reduceLE, Int.reduceNeg]) <;> (try simp only [zw])) <;> omega))) rfl rfl rfl rfl rfl rfl rfl rfl) ?_)
                | refine NX.raw ?_)
            | (refine TRg.pass ?_; refine TRg.nx hA tabOk (by conv => lhs; cbv) ?_; first
                | refine TX.done ?_
                | refine TX.gt ?_
                | refine TX.gf ?_
                | (refine TX.gs ?_ ?_ <;> intro hc <;> rw [hc] <;> ((try simp only [zn] at hc) <;> (try simp (disch := omega) only [zz hA, zb, zy, reduceCtorEq, Bool.false_eq_true, Int.reduceLT, Int.reduceLE, Int.reduceNeg] at hc) <;> (try simp only [zw] at hc)) <;> (try (exfalso; omega)))
                | (refine TX.kC ?_; first | (with_reducible refine TX.call (htu _ _ (by simp only [hid_eq hA]; exact hzi _ hz) (by simp only [hid_eq hA])) ?_) | ((first | refine TX.call (htu _ _ (by simp only [hid_eq hA]; exact hzi _ hz) (by simp only [hid_eq hA])) ?_)) | fail)
                | (refine TX.kO ?_; (first | refine TX.callO (htu _ _ (by simp only [hid_eq hA]; exact hzi _ hz) (by simp only [hid_eq hA])) (by simp [allEq]) rfl ?_))
                | ((first | (refine TX.k 1 ?_; first | refine TX.one (One.elemM hA tabOk rfl rfl rfl rfl ?_ ?_) ?_ | refine TX.one (One.elemOwnM hA tabOk rfl rfl rfl rfl rfl ?_ ?_) ?_) | (refine TX.k 8 ?_; first | refine TX.one (One.eqBoolM hA tabOk rfl rfl rfl rfl rfl) ?_) | (refine TX.k 9 ?_; first | refine TX.one (One.neBoolM hA tabOk rfl rfl rfl rfl rfl) ?_) | (refine TX.k 10 ?_; first | refine TX.one (One.lenOwnM hA tabOk rfl rfl rfl rfl) ?_) | (refine TX.k 14 ?_; first | refine TX.one (One.loadRatM hA tabOk rfl rfl rfl rfl rfl rfl ?_) ?_) | (refine TX.k 15 ?_; first | refine TX.one (One.storeRatM hA tabOk _ rfl rfl rfl rfl rfl rfl rfl rfl (fun _ => rfl) ?_) ?_) | (refine TX.k 16 ?_; first | refine TX.one (One.makeM hA tabOk encI 0 rfl rfl rfl rfl rfl rfl rfl ?_ ?_ ?_) ?_) | (refine TX.k 18 ?_; first | refine TX.one (One.fieldRat tabOk rfl rfl rfl rfl (by decide) rfl rfl) ?_)) <;> (first | refine TRg.pass ?_ | (((try simp only [zn]) <;> (try simp (disch := omega) only [zz hA, zb, zy, reduceCtorEq, Bool.false_eq_true, Int.reduceLT, Int.reduceLE, Int.reduceNeg]) <;> (try simp only [zw])) <;> omega)))
                | (refine TX.one (One.fcall 7 (hcl (hid A (cN p - 1 - cN j)) (by (((try simp only [zn]) <;> (try simp (disch := omega) only [zz hA, zb, zy, reduceCtorEq, Bool.false_eq_true, Int.reduceLT, Int.reduceLE, Int.reduceNeg]) <;> (try simp only [zw])) <;> omega))) rfl rfl rfl rfl rfl rfl rfl rfl) ?_)
                | refine TX.raw ?_)
            | refine Fin3.of (by conv => lhs; cbv) (by repeat' (first | exact True.intro | exact rfl | refine And.intro ?_ ?_)) ?_ ?_
            | (refine AllO.pass ?_; first
                | exact AllO.nil
                | (refine AllO.cons (One.ev hA tabOk ?_) ?_ <;> (first | refine AllO.pass ?_ | ((conv => lhs; cbv); done)))
                | (refine AllO.cons (One.skipB ?_) ?_ <;> (first | refine AllO.pass ?_ | ((conv => lhs; cbv); done)))
                | ((with_reducible refine AllO.call (by conv => lhs; cbv) (htu _ _ (by simp only [hid_eq hA]; exact hzi _ hz) (by simp only [hid_eq hA])) ?_ ?_) <;> (first | refine AllO.pass ?_ | exact rfl | (((try simp only [zn]) <;> (try simp (disch := omega) only [zz hA, zb, zy, reduceCtorEq, Bool.false_eq_true, Int.reduceLT, Int.reduceLE, Int.reduceNeg]) <;> (try simp only [zw])) <;> omega)))
                | ((first | refine AllO.consX (One.elemM hA tabOk rfl rfl rfl rfl ?_ ?_) rfl rfl ?_ | refine AllO.consX (One.lenOwnM hA tabOk rfl rfl rfl rfl) rfl rfl ?_ | refine AllO.consX (One.elemOwnM hA tabOk rfl rfl rfl rfl rfl ?_ ?_) rfl rfl ?_ | refine AllO.consX (One.loadRatM hA tabOk rfl rfl rfl rfl rfl rfl ?_) rfl rfl ?_) <;> (first | refine AllO.pass ?_ | (((try simp only [zn]) <;> (try simp (disch := omega) only [zz hA, zb, zy, reduceCtorEq, Bool.false_eq_true, Int.reduceLT, Int.reduceLE, Int.reduceNeg]) <;> (try simp only [zw])) <;> omega)))
                | ((refine AllO.consX (One.fcall 7 (hcl (hid A (cN p - 1 - cN j)) (by (((try simp only [zn]) <;> (try simp (disch := omega) only [zz hA, zb, zy, reduceCtorEq, Bool.false_eq_true, Int.reduceLT, Int.reduceLE, Int.reduceNeg]) <;> (try simp only [zw])) <;> omega))) rfl rfl rfl rfl rfl rfl rfl rfl) rfl rfl ?_) <;> (first | refine AllO.pass ?_ | (((try simp only [zn]) <;> (try simp (disch := omega) only [zz hA, zb, zy, reduceCtorEq, Bool.false_eq_true, Int.reduceLT, Int.reduceLE, Int.reduceNeg]) <;> (try simp only [zw])) <;> omega))))
            | refine Thn.exit ?_
            | refine Blk.here ?_
            | refine Blk.other (by decide) ?_
            | refine ⟨.inl rfl, _, RetOk.ev tabOk (by conv => lhs; cbv), ?_⟩
            | fail)
          refine ⟨j + 1, by omega, by omega, rfl, ?_, ?_, (by repeat' (first | exact subE.nil | refine subE.cons rfl ?_))⟩
          · simp only [hid_eq hA, hO3, hnx]
          · refine .int rfl (by (((try simp only [zn]) <;> (try simp (disch := omega) only [zz hA, zb, zy, reduceCtorEq, Bool.false_eq_true, Int.reduceLT, Int.reduceLE, Int.reduceNeg]) <;> (try simp only [zw])) <;> omega)) (.int rfl ?_ .nil)
            rw [hB2]
            simp only [hid_eq hA] at hbb2 ⊢
            rw [hbb2]
            (((try simp only [zn]) <;> (try simp (disch := omega) only [zz hA, zb, zy, reduceCtorEq, Bool.false_eq_true, Int.reduceLT, Int.reduceLE, Int.reduceNeg]) <;> (try simp only [zw])) <;> omega)
        · obtain rfl : j = p := by omega
          have hfin : setsD O (kidsD S i j) (fun k => turnD (O.getD i default) (varyD l 6 sa na k)) (dnL j j) = O2 := by
            rw [hstep, dnL_all, setsD_rev _ _ _ _ hap]
          rw [hfin]
          try first | refine AOLg.of [] ?_ | refine QSg.of [] ?_
          repeat' (first
            | (refine AWp.pass ?_; first
                | refine AWp.seq ?_
                | refine AWp.block ?_
                | refine AWp.skip ?_
                | refine AWp.regG [] (by conv => lhs; cbv) ?_
                | refine AWp.cond_t rfl ?_
                | refine AWp.cond_f rfl ?_
                | (refine AWp.cond rfl ?_ ?_ <;> intro hc <;> (try rw [hc]) <;> ((try simp only [zn] at hc) <;> (try simp (disch := omega) only [zz hA, zb, zy, reduceCtorEq, Bool.false_eq_true, Int.reduceLT, Int.reduceLE, Int.reduceNeg] at hc) <;> (try simp only [zw] at hc)) <;> (try (exfalso; omega)))
                | refine AWp.exit ?_
                | refine AWp.ret ⟨.inr rfl, _, RetOk.ev tabOk (by conv => lhs; cbv), ?_⟩
                | refine AWp.drawVG [] rfl (by decide +kernel) (by conv => lhs; cbv) ?_)
            | (refine AOLg.pass ?_; refine AOLg.nx hA tabOk (by conv => lhs; cbv) ?_; first
                | refine NX.done ?_
                | refine NX.gt ?_
                | refine NX.gf ?_
                | (refine NX.gs ?_ ?_ <;> intro hc <;> rw [hc] <;> ((try simp only [zn] at hc) <;> (try simp (disch := omega) only [zz hA, zb, zy, reduceCtorEq, Bool.false_eq_true, Int.reduceLT, Int.reduceLE, Int.reduceNeg] at hc) <;> (try simp only [zw] at hc)) <;> (try (exfalso; omega)))
                | ((first | (refine NX.k 1 ?_; first | refine NX.one (One.elemM hA tabOk rfl rfl rfl rfl ?_ ?_) ?_ | refine NX.one (One.elemOwnM hA tabOk rfl rfl rfl rfl rfl ?_ ?_) ?_) | (refine NX.k 8 ?_; first | refine NX.one (One.eqBoolM hA tabOk rfl rfl rfl rfl rfl) ?_) | (refine NX.k 9 ?_; first | refine NX.one (One.neBoolM hA tabOk rfl rfl rfl rfl rfl) ?_) | (refine NX.k 10 ?_; first | refine NX.one (One.lenOwnM hA tabOk rfl rfl rfl rfl) ?_) | (refine NX.k 14 ?_; first | refine NX.one (One.loadRatM hA tabOk rfl rfl rfl rfl rfl rfl ?_) ?_) | (refine NX.k 15 ?_; first | refine NX.one (One.storeRatM hA tabOk _ rfl rfl rfl rfl rfl rfl rfl rfl (fun _ => rfl) ?_) ?_) | (refine NX.k 16 ?_; first | refine NX.one (One.makeM hA tabOk encI 0 rfl rfl rfl rfl rfl rfl rfl ?_ ?_ ?_) ?_) | (refine NX.k 18 ?_; first | refine NX.one (One.fieldRat tabOk rfl rfl rfl rfl (by decide) rfl rfl) ?_)) <;> (first | refine AOLg.pass ?_ | (((try simp only [zn]) <;> (try simp (disch := omega) only [zz hA, zb, zy, reduceCtorEq, Bool.false_eq_true, Int.reduceLT, Int.reduceLE, Int.reduceNeg]) <;> (try simp only [zw])) <;> omega)))
                | refine NX.raw ?_)
            | (refine TRg.pass ?_; refine TRg.nx hA tabOk (by conv => lhs; cbv) ?_; first
                | refine TX.done ?_
                | refine TX.gt ?_
                | refine TX.gf ?_
                | (refine TX.gs ?_ ?_ <;> intro hc <;> rw [hc] <;> ((try simp only [zn] at hc) <;> (try simp (disch := omega) only [zz hA, zb, zy, reduceCtorEq, Bool.false_eq_true, Int.reduceLT, Int.reduceLE, Int.reduceNeg] at hc) <;> (try simp only [zw] at hc)) <;> (try (exfalso; omega)))
                | ((first | (refine TX.k 1 ?_; first | refine TX.one (One.elemM hA tabOk rfl rfl rfl rfl ?_ ?_) ?_ | refine TX.one (One.elemOwnM hA tabOk rfl rfl rfl rfl rfl ?_ ?_) ?_) | (refine TX.k 8 ?_; first | refine TX.one (One.eqBoolM hA tabOk rfl rfl rfl rfl rfl) ?_) | (refine TX.k 9 ?_; first | refine TX.one (One.neBoolM hA tabOk rfl rfl rfl rfl rfl) ?_) | (refine TX.k 10 ?_; first | refine TX.one (One.lenOwnM hA tabOk rfl rfl rfl rfl) ?_) | (refine TX.k 14 ?_; first | refine TX.one (One.loadRatM hA tabOk rfl rfl rfl rfl rfl rfl ?_) ?_) | (refine TX.k 15 ?_; first | refine TX.one (One.storeRatM hA tabOk _ rfl rfl rfl rfl rfl rfl rfl rfl (fun _ => rfl) ?_) ?_) | (refine TX.k 16 ?_; first | refine TX.one (One.makeM hA tabOk encI 0 rfl rfl rfl rfl rfl rfl rfl ?_ ?_ ?_) ?_) | (refine TX.k 18 ?_; first | refine TX.one (One.fieldRat tabOk rfl rfl rfl rfl (by decide) rfl rfl) ?_)) <;> (first | refine TRg.pass ?_ | (((try simp only [zn]) <;> (try simp (disch := omega) only [zz hA, zb, zy, reduceCtorEq, Bool.false_eq_true, Int.reduceLT, Int.reduceLE, Int.reduceNeg]) <;> (try simp only [zw])) <;> omega)))
                | refine TX.raw ?_)
            | refine Fin3.of (by conv => lhs; cbv) (by repeat' (first | exact True.intro | exact rfl | refine And.intro ?_ ?_)) ?_ ?_
            | (refine AllO.pass ?_; first
                | exact AllO.nil
                | (refine AllO.cons (One.ev hA tabOk ?_) ?_ <;> (first | refine AllO.pass ?_ | ((conv => lhs; cbv); done)))
                | (refine AllO.cons (One.skipB ?_) ?_ <;> (first | refine AllO.pass ?_ | ((conv => lhs; cbv); done)))
                | ((first | refine AllO.consX (One.elemM hA tabOk rfl rfl rfl rfl ?_ ?_) rfl rfl ?_ | refine AllO.consX (One.lenOwnM hA tabOk rfl rfl rfl rfl) rfl rfl ?_ | refine AllO.consX (One.elemOwnM hA tabOk rfl rfl rfl rfl rfl ?_ ?_) rfl rfl ?_ | refine AllO.consX (One.loadRatM hA tabOk rfl rfl rfl rfl rfl rfl ?_) rfl rfl ?_) <;> (first | refine AllO.pass ?_ | (((try simp only [zn]) <;> (try simp (disch := omega) only [zz hA, zb, zy, reduceCtorEq, Bool.false_eq_true, Int.reduceLT, Int.reduceLE, Int.reduceNeg]) <;> (try simp only [zw])) <;> omega))))
            | refine Thn.exit ?_
            | refine Blk.here ?_
            | refine Blk.other (by decide) ?_
            | refine ⟨.inl rfl, _, RetOk.ev tabOk (by conv => lhs; cbv), ?_⟩
            | fail)
          refine ⟨rfl, Nat.le_of_ble_eq_true rfl, (by repeat' (first | exact trimOk.nil | refine trimOk.same ?_ | refine trimOk.turn rfl ?_)), ?_⟩
          exact .inl ⟨rfl, by omega, rfl⟩
    · refine ⟨Nat.le_refl _, ?_⟩
      have e0 : A .len (List.map (encD A) E) = (E.length : Int) := by simp [hA, real, hid]
      have e1 : A .sub .i64 (E.length : Int) 1 = (E.length : Int) - 1 := by (((try simp only [zn]) <;> (try simp (disch := omega) only [zz hA, zb, zy, reduceCtorEq, Bool.false_eq_true, Int.reduceLT, Int.reduceLE, Int.reduceNeg]) <;> (try simp only [zw])) <;> omega)
      have e2 : ((E.length : Int) - 1).toNat = E.length - 1 := by omega
      simp only [hid_eq hA, e0, e1, e2, Int.toNat_natCast, Nat.sub_self, sdM]
      first
        | (rw [show side0 s = 66 from by unfold side0; rw [if_neg (by omega)]]
           rfl)
        | (rw [show side0 s = s from by unfold side0; rw [if_pos (by omega)]]
           rfl)
    · rintro y st' ⟨rfl, ⟨_, rfl⟩ | h⟩
      · refine .inl ⟨rfl, fun x => ?_⟩
        try first | refine AOLg.of [] ?_ | refine QSg.of [] ?_
        repeat' (first
          | (refine AWp.pass ?_; first
              | refine AWp.seq ?_
              | refine AWp.block ?_
              | refine AWp.skip ?_
              | refine AWp.regG [] (by conv => lhs; cbv) ?_
              | refine AWp.cond_t rfl ?_
              | refine AWp.cond_f rfl ?_
              | (refine AWp.cond rfl ?_ ?_ <;> intro hc <;> (try rw [hc]) <;> ((try simp only [zn] at hc) <;> (try simp (disch := omega) only [zz hA, zb, zy, reduceCtorEq, Bool.false_eq_true, Int.reduceLT, Int.reduceLE, Int.reduceNeg] at hc) <;> (try simp only [zw] at hc)) <;> (try (exfalso; omega)))
              | refine AWp.exit ?_
              | refine AWp.ret ⟨.inr rfl, _, RetOk.ev tabOk (by conv => lhs; cbv), ?_⟩
              | refine AWp.drawVG [] rfl (by decide +kernel) (by conv => lhs; cbv) ?_)
          | (refine AOLg.pass ?_; refine AOLg.nx hA tabOk (by conv => lhs; cbv) ?_; first
              | refine NX.done ?_
              | refine NX.gt ?_
              | refine NX.gf ?_
              | (refine NX.gs ?_ ?_ <;> intro hc <;> rw [hc] <;> ((try simp only [zn] at hc) <;> (try simp (disch := omega) only [zz hA, zb, zy, reduceCtorEq, Bool.false_eq_true, Int.reduceLT, Int.reduceLE, Int.reduceNeg] at hc) <;> (try simp only [zw] at hc)) <;> (try (exfalso; omega)))
              | ((first | (refine NX.k 1 ?_; first | refine NX.one (One.elemM hA tabOk rfl rfl rfl rfl ?_ ?_) ?_ | refine NX.one (One.elemOwnM hA tabOk rfl rfl rfl rfl rfl ?_ ?_) ?_) | (refine NX.k 8 ?_; first | refine NX.one (One.eqBoolM hA tabOk rfl rfl rfl rfl rfl) ?_) | (refine NX.k 9 ?_; first | refine NX.one (One.neBoolM hA tabOk rfl rfl rfl rfl rfl) ?_) | (refine NX.k 10 ?_; first | refine NX.one (One.lenOwnM hA tabOk rfl rfl rfl rfl) ?_) | (refine NX.k 14 ?_; first | refine NX.one (One.loadRatM hA tabOk rfl rfl rfl rfl rfl rfl ?_) ?_) | (refine NX.k 15 ?_; first | refine NX.one (One.storeRatM hA tabOk _ rfl rfl rfl rfl rfl rfl rfl rfl (fun _ => rfl) ?_) ?_) | (refine NX.k 16 ?_; first | refine NX.one (One.makeM hA tabOk encI 0 rfl rfl rfl rfl rfl rfl rfl ?_ ?_ ?_) ?_) | (refine NX.k 18 ?_; first | refine NX.one (One.fieldRat tabOk rfl rfl rfl rfl (by decide) rfl rfl) ?_)) <;> (first | refine AOLg.pass ?_ | (((try simp only [zn]) <;> (try simp (disch := omega) only [zz hA, zb, zy, reduceCtorEq, Bool.false_eq_true, Int.reduceLT, Int.reduceLE, Int.reduceNeg]) <;> (try simp only [zw])) <;> omega)))
              | refine NX.raw ?_)
          | (refine TRg.pass ?_; refine TRg.nx hA tabOk (by conv => lhs; cbv) ?_; first
              | refine TX.done ?_
              | refine TX.gt ?_
              | refine TX.gf ?_
              | (refine TX.gs ?_ ?_ <;> intro hc <;> rw [hc] <;> ((try simp only [zn] at hc) <;> (try simp (disch := omega) only [zz hA, zb, zy, reduceCtorEq, Bool.false_eq_true, Int.reduceLT, Int.reduceLE, Int.reduceNeg] at hc) <;> (try simp only [zw] at hc)) <;> (try (exfalso; omega)))
              | ((first | (refine TX.k 1 ?_; first | refine TX.one (One.elemM hA tabOk rfl rfl rfl rfl ?_ ?_) ?_ | refine TX.one (One.elemOwnM hA tabOk rfl rfl rfl rfl rfl ?_ ?_) ?_) | (refine TX.k 8 ?_; first | refine TX.one (One.eqBoolM hA tabOk rfl rfl rfl rfl rfl) ?_) | (refine TX.k 9 ?_; first | refine TX.one (One.neBoolM hA tabOk rfl rfl rfl rfl rfl) ?_) | (refine TX.k 10 ?_; first | refine TX.one (One.lenOwnM hA tabOk rfl rfl rfl rfl) ?_) | (refine TX.k 14 ?_; first | refine TX.one (One.loadRatM hA tabOk rfl rfl rfl rfl rfl rfl ?_) ?_) | (refine TX.k 15 ?_; first | refine TX.one (One.storeRatM hA tabOk _ rfl rfl rfl rfl rfl rfl rfl rfl (fun _ => rfl) ?_) ?_) | (refine TX.k 16 ?_; first | refine TX.one (One.makeM hA tabOk encI 0 rfl rfl rfl rfl rfl rfl rfl ?_ ?_ ?_) ?_) | (refine TX.k 18 ?_; first | refine TX.one (One.fieldRat tabOk rfl rfl rfl rfl (by decide) rfl rfl) ?_)) <;> (first | refine TRg.pass ?_ | (((try simp only [zn]) <;> (try simp (disch := omega) only [zz hA, zb, zy, reduceCtorEq, Bool.false_eq_true, Int.reduceLT, Int.reduceLE, Int.reduceNeg]) <;> (try simp only [zw])) <;> omega)))
              | refine TX.raw ?_)
          | refine Fin3.of (by conv => lhs; cbv) (by repeat' (first | exact True.intro | exact rfl | refine And.intro ?_ ?_)) ?_ ?_
          | (refine AllO.pass ?_; first
              | exact AllO.nil
              | (refine AllO.cons (One.ev hA tabOk ?_) ?_ <;> (first | refine AllO.pass ?_ | ((conv => lhs; cbv); done)))
              | (refine AllO.cons (One.skipB ?_) ?_ <;> (first | refine AllO.pass ?_ | ((conv => lhs; cbv); done)))
              | ((first | refine AllO.consX (One.elemM hA tabOk rfl rfl rfl rfl ?_ ?_) rfl rfl ?_ | refine AllO.consX (One.lenOwnM hA tabOk rfl rfl rfl rfl) rfl rfl ?_ | refine AllO.consX (One.elemOwnM hA tabOk rfl rfl rfl rfl rfl ?_ ?_) rfl rfl ?_ | refine AllO.consX (One.loadRatM hA tabOk rfl rfl rfl rfl rfl rfl ?_) rfl rfl ?_) <;> (first | refine AllO.pass ?_ | (((try simp only [zn]) <;> (try simp (disch := omega) only [zz hA, zb, zy, reduceCtorEq, Bool.false_eq_true, Int.reduceLT, Int.reduceLE, Int.reduceNeg]) <;> (try simp only [zw])) <;> omega))))
          | refine Thn.exit ?_
          | refine Blk.here ?_
          | refine Blk.other (by decide) ?_
          | refine ⟨.inl rfl, _, RetOk.ev tabOk (by conv => lhs; cbv), ?_⟩
          | fail)
        exact (rPV_own rfl).trans rfl
      · exact h.elim
end Go.Proofs.Ytgemcogfpkolfaa.Aw

/- Contract of the reference's Of: each node's side. -/
set_option linter.unusedVariables false
set_option linter.unusedSimpArgs false
set_option linter.unusedSectionVars false
namespace Go.Proofs.Ytgemcogfpkolfaa.Aw
open Go Go.RowKit
set_option maxRecDepth 10000
attribute [local irreducible] AWp AOL QS One AOLg QSg NX QX TRg TX AllO Fin3
/-- The sides ahead of a node that is j behind: nothing is told at first. -/
def rowR (l : List Sg) (E : List Nd) (S : List Int) (s : Int) (j : Nat) : List Int := if j = 0 then List.replicate E.length 0 else sdM l E S s j
theorem rowR_len (l : List Sg) (E : List Nd) (S : List Int) (s : Int) (j : Nat) : (rowR l E S s j).length = E.length := by
  unfold rowR; split
  · simp
  · exact sdM_len _ _ _ _ _
theorem setsD_succ (out K : List Int) (f : Nat → Int) (m : Nat) : setsD out K f (List.range (m + 1)) = (setsD out K f (List.range m)).set (K.getD m default).toNat (f m) := by
  rw [List.range_succ, setsD_append]; rfl
variable {A : Ar} (hA : A = real)
include hA
theorem vary_at (l : List Sg) (k : Int) (s : ByteArray) (n : Int) (j : Nat) (hl : l.length ≤ 1000000) (hsz : FitG l) (hk : 3 ≤ k ∧ k ≤ 6) (h3 : k = 3 → (j : Int) < n) (h6 : k = 6 → 1 ≤ n ∧ n ≤ 8) : ∀ k' s' n' z, k' = k → s' = s → n' = n → z = (j : Int) → PureCalls Try.prog 34 [slP A 2 (encG A) l, ndP k' s' n', IP z] (UP (hid A (varyD l k s n j))) := by
  rintro k' s' n' z rfl rfl rfl hz
  exact vary_c hA l _ _ _ j hl hsz hk h3 h6 z hz
theorem rTurn_at (a v : Int) : ∀ a' v', a' = a → v' = v → PureCalls Try.prog 33 [UP a', UP v'] (UP (hid A (turnD a v))) := by
  rintro a' v' rfl rfl
  exact rTurn_c hA _ _
set_option maxHeartbeats 16000000 in
theorem rOf_c (l : List Sg) (E : List Nd) (s : Int) (hl : l.length ≤ 1000000) (hsz : FitG l) (hg : goodD E) (h1 : manyD E E.length = 1) (hE : E.length ≤ 1000000) :
    PureCalls Try.prog 15 [slP A 2 (encG A) l, slP A 3 (encD A) E, UP s] (slP A 1 encU (sidesD l E s)) := by
  have hle : 1 ≤ E.length := by
    cases E with
    | nil => simp [manyD] at h1
    | cons => simp
  have hst := rStarts_c hA E hE hg.shape
  have hSl := stD_len E E.length
  refine PureCalls.of Try.func15 rfl (by kernel_rfl) rfl ?_
  try first | refine AOLg.of [] ?_ | refine QSg.of [] ?_
  repeat' (first
    | (refine AWp.pass ?_; first
        | refine AWp.seq ?_
        | refine AWp.block ?_
        | refine AWp.skip ?_
        | refine AWp.regG [] (by conv => lhs; cbv) ?_
        | refine AWp.cond_t rfl ?_
        | refine AWp.cond_f rfl ?_
        | (refine AWp.cond rfl ?_ ?_ <;> intro hc <;> (try rw [hc]) <;> ((try simp only [zn] at hc) <;> (try simp (disch := omega) only [zz hA, zb, zy, reduceCtorEq, Bool.false_eq_true, Int.reduceLT, Int.reduceLE, Int.reduceNeg] at hc) <;> (try simp only [zw] at hc)) <;> (try (exfalso; omega)))
        | refine AWp.exit ?_
        | refine AWp.ret ⟨.inr rfl, _, RetOk.ev tabOk (by conv => lhs; cbv), ?_⟩
        | refine AWp.drawVG [] rfl (by decide +kernel) (by conv => lhs; cbv) ?_)
    | (refine AOLg.pass ?_; refine AOLg.nx hA tabOk (by conv => lhs; cbv) ?_; first
        | refine NX.done ?_
        | refine NX.gt ?_
        | refine NX.gf ?_
        | (refine NX.gs ?_ ?_ <;> intro hc <;> rw [hc] <;> ((try simp only [zn] at hc) <;> (try simp (disch := omega) only [zz hA, zb, zy, reduceCtorEq, Bool.false_eq_true, Int.reduceLT, Int.reduceLE, Int.reduceNeg] at hc) <;> (try simp only [zw] at hc)) <;> (try (exfalso; omega)))
        | (refine NX.kC ?_; first | (with_reducible refine NX.call (hst) ?_) | ((first | refine NX.call (hst) ?_)) | fail)
        | (refine NX.kO ?_; (first | refine NX.callO (hst) (by simp [allEq]) rfl ?_))
        | ((first | (refine NX.k 1 ?_; first | refine NX.one (One.elemM hA tabOk rfl rfl rfl rfl ?_ ?_) ?_ | refine NX.one (One.elemOwnM hA tabOk rfl rfl rfl rfl rfl ?_ ?_) ?_) | (refine NX.k 7 ?_; first | refine NX.one (One.concatM hA rfl rfl rfl ?_) ?_) | (refine NX.k 8 ?_; first | refine NX.one (One.eqBoolM hA tabOk rfl rfl rfl rfl rfl) ?_) | (refine NX.k 10 ?_; first | refine NX.one (One.lenOwnM hA tabOk rfl rfl rfl rfl) ?_) | (refine NX.k 14 ?_; first | refine NX.one (One.loadRatM hA tabOk rfl rfl rfl rfl rfl rfl ?_) ?_) | (refine NX.k 15 ?_; first | refine NX.one (One.storeRatM hA tabOk _ rfl rfl rfl rfl rfl rfl rfl rfl (fun _ => rfl) ?_) ?_) | (refine NX.k 16 ?_; first | refine NX.one (One.makeM hA tabOk encI 0 rfl rfl rfl rfl rfl rfl rfl ?_ ?_ ?_) ?_)) <;> (first | refine AOLg.pass ?_ | (((try simp only [zn]) <;> (try simp (disch := omega) only [zz hA, zb, zy, reduceCtorEq, Bool.false_eq_true, Int.reduceLT, Int.reduceLE, Int.reduceNeg]) <;> (try simp only [zw])) <;> omega)))
        | (refine NX.one (One.makeM hA tabOk encU 0 rfl rfl rfl rfl rfl rfl rfl (by (((try simp only [zn]) <;> (try simp (disch := omega) only [zz hA, zb, zy, reduceCtorEq, Bool.false_eq_true, Int.reduceLT, Int.reduceLE, Int.reduceNeg]) <;> (try simp only [zw])) <;> omega)) (by (((try simp only [zn]) <;> (try simp (disch := omega) only [zz hA, zb, zy, reduceCtorEq, Bool.false_eq_true, Int.reduceLT, Int.reduceLE, Int.reduceNeg]) <;> (try simp only [zw])) <;> omega)) (by (((try simp only [zn]) <;> (try simp (disch := omega) only [zz hA, zb, zy, reduceCtorEq, Bool.false_eq_true, Int.reduceLT, Int.reduceLE, Int.reduceNeg]) <;> (try simp only [zw])) <;> omega))) ?_)
        | refine NX.raw ?_)
    | (refine TRg.pass ?_; refine TRg.nx hA tabOk (by conv => lhs; cbv) ?_; first
        | refine TX.done ?_
        | refine TX.gt ?_
        | refine TX.gf ?_
        | (refine TX.gs ?_ ?_ <;> intro hc <;> rw [hc] <;> ((try simp only [zn] at hc) <;> (try simp (disch := omega) only [zz hA, zb, zy, reduceCtorEq, Bool.false_eq_true, Int.reduceLT, Int.reduceLE, Int.reduceNeg] at hc) <;> (try simp only [zw] at hc)) <;> (try (exfalso; omega)))
        | (refine TX.kC ?_; first | (with_reducible refine TX.call (hst) ?_) | ((first | refine TX.call (hst) ?_)) | fail)
        | (refine TX.kO ?_; (first | refine TX.callO (hst) (by simp [allEq]) rfl ?_))
        | ((first | (refine TX.k 1 ?_; first | refine TX.one (One.elemM hA tabOk rfl rfl rfl rfl ?_ ?_) ?_ | refine TX.one (One.elemOwnM hA tabOk rfl rfl rfl rfl rfl ?_ ?_) ?_) | (refine TX.k 7 ?_; first | refine TX.one (One.concatM hA rfl rfl rfl ?_) ?_) | (refine TX.k 8 ?_; first | refine TX.one (One.eqBoolM hA tabOk rfl rfl rfl rfl rfl) ?_) | (refine TX.k 10 ?_; first | refine TX.one (One.lenOwnM hA tabOk rfl rfl rfl rfl) ?_) | (refine TX.k 14 ?_; first | refine TX.one (One.loadRatM hA tabOk rfl rfl rfl rfl rfl rfl ?_) ?_) | (refine TX.k 15 ?_; first | refine TX.one (One.storeRatM hA tabOk _ rfl rfl rfl rfl rfl rfl rfl rfl (fun _ => rfl) ?_) ?_) | (refine TX.k 16 ?_; first | refine TX.one (One.makeM hA tabOk encI 0 rfl rfl rfl rfl rfl rfl rfl ?_ ?_ ?_) ?_)) <;> (first | refine TRg.pass ?_ | (((try simp only [zn]) <;> (try simp (disch := omega) only [zz hA, zb, zy, reduceCtorEq, Bool.false_eq_true, Int.reduceLT, Int.reduceLE, Int.reduceNeg]) <;> (try simp only [zw])) <;> omega)))
        | (refine TX.one (One.makeM hA tabOk encU 0 rfl rfl rfl rfl rfl rfl rfl (by (((try simp only [zn]) <;> (try simp (disch := omega) only [zz hA, zb, zy, reduceCtorEq, Bool.false_eq_true, Int.reduceLT, Int.reduceLE, Int.reduceNeg]) <;> (try simp only [zw])) <;> omega)) (by (((try simp only [zn]) <;> (try simp (disch := omega) only [zz hA, zb, zy, reduceCtorEq, Bool.false_eq_true, Int.reduceLT, Int.reduceLE, Int.reduceNeg]) <;> (try simp only [zw])) <;> omega)) (by (((try simp only [zn]) <;> (try simp (disch := omega) only [zz hA, zb, zy, reduceCtorEq, Bool.false_eq_true, Int.reduceLT, Int.reduceLE, Int.reduceNeg]) <;> (try simp only [zw])) <;> omega))) ?_)
        | refine TX.raw ?_)
    | refine Fin3.of (by conv => lhs; cbv) (by repeat' (first | exact True.intro | exact rfl | refine And.intro ?_ ?_)) ?_ ?_
    | (refine AllO.pass ?_; first
        | exact AllO.nil
        | (refine AllO.cons (One.ev hA tabOk ?_) ?_ <;> (first | refine AllO.pass ?_ | ((conv => lhs; cbv); done)))
        | (refine AllO.cons (One.skipB ?_) ?_ <;> (first | refine AllO.pass ?_ | ((conv => lhs; cbv); done)))
        | ((with_reducible refine AllO.call (by conv => lhs; cbv) (hst) ?_ ?_) <;> (first | refine AllO.pass ?_ | exact rfl | (((try simp only [zn]) <;> (try simp (disch := omega) only [zz hA, zb, zy, reduceCtorEq, Bool.false_eq_true, Int.reduceLT, Int.reduceLE, Int.reduceNeg]) <;> (try simp only [zw])) <;> omega)))
        | ((first | refine AllO.consX (One.elemM hA tabOk rfl rfl rfl rfl ?_ ?_) rfl rfl ?_ | refine AllO.consX (One.concatM hA rfl rfl rfl ?_) rfl rfl ?_ | refine AllO.consX (One.lenOwnM hA tabOk rfl rfl rfl rfl) rfl rfl ?_ | refine AllO.consX (One.elemOwnM hA tabOk rfl rfl rfl rfl rfl ?_ ?_) rfl rfl ?_ | refine AllO.consX (One.loadRatM hA tabOk rfl rfl rfl rfl rfl rfl ?_) rfl rfl ?_) <;> (first | refine AllO.pass ?_ | (((try simp only [zn]) <;> (try simp (disch := omega) only [zz hA, zb, zy, reduceCtorEq, Bool.false_eq_true, Int.reduceLT, Int.reduceLE, Int.reduceNeg]) <;> (try simp only [zw])) <;> omega))))
    | refine Thn.exit ?_
    | refine Blk.here ?_
    | refine Blk.other (by decide) ?_
    | refine ⟨.inl rfl, _, RetOk.ev tabOk (by conv => lhs; cbv), ?_⟩
    | fail)
  refine AWp.loopU (fun j : Nat => [(9, .ic (.lit (.int .i64 (hid A (cN E.length - 1 - cN j)))))]) (fun j => [.row true 0 5 1 (hid A (List.map encU (rowR l E (stD E E.length) s j)))]) (fun j => E.length - j) (fun j => j ≤ E.length) 0 (by conv => lhs; cbv) (Nat.zero_le _) (.int rfl (by (((try simp only [zn]) <;> (try simp (disch := omega) only [zz hA, zb, zy, reduceCtorEq, Bool.false_eq_true, Int.reduceLT, Int.reduceLE, Int.reduceNeg]) <;> (try simp only [zw])) <;> omega)) .nil) (by
    have e0 : A .len (List.map (encD A) E) = (E.length : Int) := by simp [hA, real, hid]
    simp only [hid_eq hA, e0, Int.toNat_natCast]
    rfl) ?_
  intro j hj0
  have hrl := rowR_len l E (stD E E.length) s j
  by_cases hj : j < E.length
  · obtain ⟨i, hi⟩ : ∃ i : Nat, E.length - 1 - j = i := ⟨_, rfl⟩
    have hiE : i < E.length := by omega
    have hstep : rowR l E (stD E E.length) s (j + 1) = sdStep l E (stD E E.length) (sdM l E (stD E E.length) s j) i := by
      unfold rowR; rw [if_neg (by omega), sdM, hi]
    have hr0 : j = 0 → ∀ x, ((rowR l E (stD E E.length) s j).set i 66).set i x = (rowR l E (stD E E.length) s j).set i x := fun _ x => List.set_set _
    have hr1 : j = 0 → sdM l E (stD E E.length) s j = (rowR l E (stD E E.length) s j).set i (side0 s) := by
      rintro rfl
      unfold rowR; rw [if_pos rfl, sdM, show E.length - 1 = i by omega]
    have hr2 : j ≠ 0 → sdM l E (stD E E.length) s j = rowR l E (stD E E.length) s j := fun h => by
      unfold rowR; rw [if_neg h]
    have hol := sdM_len l E (stD E E.length) s j
    have hpr := hg.parts hiE
    have hpd : pD E i = partsM (ndK (E.getD i default)) (ndN (E.getD i default)) := rfl
    have hq := mayD_parts (hg.may hiE)
    have hsh := hg.shape i hiE
    obtain ⟨p, hp⟩ : ∃ p : Nat, pD E i = p := ⟨(pD E i).toNat, by omega⟩
    have hkin := fun k (h : k < p) => kids_in hg hiE hp h
    have hwd := wayD_in hg.shape (show i ≤ E.length by omega)
    have hkids := rKids_c hA E (stD E E.length) i p hE hiE hp (by omega) (fun k hk => by
      have := hwd.pos k (by omega); have := hwd.hi k (by omega); omega) (fun k hk => by
      have := hwd.lo k (by omega); have := hwd.hi k (by omega); omega)
    have hkl := kidsD_len (stD E E.length) i p
    unfold sdStep at hstep
    rw [hp, Int.toNat_natCast] at hstep
    rw [hp] at hpd
    have ek : ∀ q : Int, q = i → ndK (E.getD q.toNat default) = ndK (E.getD i default) := by rintro q rfl; rfl
    have es : ∀ q : Int, q = i → ndS (E.getD q.toNat default) = ndS (E.getD i default) := by rintro q rfl; rfl
    have en : ∀ q : Int, q = i → ndN (E.getD q.toNat default) = ndN (E.getD i default) := by rintro q rfl; rfl
    generalize ndK (E.getD i default) = k at *
    generalize ndS (E.getD i default) = sa at *
    generalize ndN (E.getD i default) = n at *
    clear hsh hpr hwd
    generalize kidsD (stD E E.length) i p = K at *
    generalize hR2 : rowR l E (stD E E.length) s (j + 1) = R2 at *
    generalize rowR l E (stD E E.length) s j = R at *
    generalize sdM l E (stD E E.length) s j = O at *
    generalize stD E E.length = S at *
    try first | refine AOLg.of [] ?_ | refine QSg.of [] ?_
    repeat' (first
      | (refine AWp.pass ?_; first
          | refine AWp.seq ?_
          | refine AWp.skip ?_
          | refine AWp.regG [] (by conv => lhs; cbv) ?_
          | refine AWp.cond_t rfl ?_
          | refine AWp.cond_f rfl ?_
          | (refine AWp.cond rfl ?_ ?_ <;> intro hc <;> (try rw [hc]) <;> ((try simp only [zn] at hc) <;> (try simp (disch := omega) only [zz hA, zb, zy, reduceCtorEq, Bool.false_eq_true, Int.reduceLT, Int.reduceLE, Int.reduceNeg] at hc) <;> (try simp only [zw] at hc)) <;> (try (exfalso; omega)))
          | refine AWp.exit ?_
          | refine AWp.ret ⟨.inr rfl, _, RetOk.ev tabOk (by conv => lhs; cbv), ?_⟩
          | refine AWp.drawVG [] rfl (by decide +kernel) (by conv => lhs; cbv) ?_)
      | (refine AOLg.pass ?_; refine AOLg.nx hA tabOk (by conv => lhs; cbv) ?_; first
          | refine NX.done ?_
          | refine NX.gt ?_
          | refine NX.gf ?_
          | (refine NX.gs ?_ ?_ <;> intro hc <;> rw [hc] <;> ((try simp only [zn] at hc) <;> (try simp (disch := omega) only [zz hA, zb, zy, reduceCtorEq, Bool.false_eq_true, Int.reduceLT, Int.reduceLE, Int.reduceNeg] at hc) <;> (try simp only [zw] at hc)) <;> (try (exfalso; omega)))
          | ((first | (refine NX.k 1 ?_; first | refine NX.one (One.elemM hA tabOk rfl rfl rfl rfl ?_ ?_) ?_ | refine NX.one (One.elemOwnM hA tabOk rfl rfl rfl rfl rfl ?_ ?_) ?_) | (refine NX.k 7 ?_; first | refine NX.one (One.concatM hA rfl rfl rfl ?_) ?_) | (refine NX.k 8 ?_; first | refine NX.one (One.eqBoolM hA tabOk rfl rfl rfl rfl rfl) ?_) | (refine NX.k 10 ?_; first | refine NX.one (One.lenOwnM hA tabOk rfl rfl rfl rfl) ?_) | (refine NX.k 14 ?_; first | refine NX.one (One.loadRatM hA tabOk rfl rfl rfl rfl rfl rfl ?_) ?_) | (refine NX.k 15 ?_; first | refine NX.one (One.storeRatM hA tabOk _ rfl rfl rfl rfl rfl rfl rfl rfl (fun _ => rfl) ?_) ?_) | (refine NX.k 16 ?_; first | refine NX.one (One.makeM hA tabOk encI 0 rfl rfl rfl rfl rfl rfl rfl ?_ ?_ ?_) ?_)) <;> (first | refine AOLg.pass ?_ | (((try simp only [zn]) <;> (try simp (disch := omega) only [zz hA, zb, zy, reduceCtorEq, Bool.false_eq_true, Int.reduceLT, Int.reduceLE, Int.reduceNeg]) <;> (try simp only [zw])) <;> omega)))
          | refine NX.raw ?_)
      | (refine TRg.pass ?_; refine TRg.nx hA tabOk (by conv => lhs; cbv) ?_; first
          | refine TX.done ?_
          | refine TX.gt ?_
          | refine TX.gf ?_
          | (refine TX.gs ?_ ?_ <;> intro hc <;> rw [hc] <;> ((try simp only [zn] at hc) <;> (try simp (disch := omega) only [zz hA, zb, zy, reduceCtorEq, Bool.false_eq_true, Int.reduceLT, Int.reduceLE, Int.reduceNeg] at hc) <;> (try simp only [zw] at hc)) <;> (try (exfalso; omega)))
          | ((first | (refine TX.k 1 ?_; first | refine TX.one (One.elemM hA tabOk rfl rfl rfl rfl ?_ ?_) ?_ | refine TX.one (One.elemOwnM hA tabOk rfl rfl rfl rfl rfl ?_ ?_) ?_) | (refine TX.k 7 ?_; first | refine TX.one (One.concatM hA rfl rfl rfl ?_) ?_) | (refine TX.k 8 ?_; first | refine TX.one (One.eqBoolM hA tabOk rfl rfl rfl rfl rfl) ?_) | (refine TX.k 10 ?_; first | refine TX.one (One.lenOwnM hA tabOk rfl rfl rfl rfl) ?_) | (refine TX.k 14 ?_; first | refine TX.one (One.loadRatM hA tabOk rfl rfl rfl rfl rfl rfl ?_) ?_) | (refine TX.k 15 ?_; first | refine TX.one (One.storeRatM hA tabOk _ rfl rfl rfl rfl rfl rfl rfl rfl (fun _ => rfl) ?_) ?_) | (refine TX.k 16 ?_; first | refine TX.one (One.makeM hA tabOk encI 0 rfl rfl rfl rfl rfl rfl rfl ?_ ?_ ?_) ?_)) <;> (first | refine TRg.pass ?_ | (((try simp only [zn]) <;> (try simp (disch := omega) only [zz hA, zb, zy, reduceCtorEq, Bool.false_eq_true, Int.reduceLT, Int.reduceLE, Int.reduceNeg]) <;> (try simp only [zw])) <;> omega)))
          | refine TX.raw ?_)
      | refine Fin3.of (by conv => lhs; cbv) (by repeat' (first | exact True.intro | exact rfl | refine And.intro ?_ ?_)) ?_ ?_
      | (refine AllO.pass ?_; first
          | exact AllO.nil
          | (refine AllO.cons (One.ev hA tabOk ?_) ?_ <;> (first | refine AllO.pass ?_ | ((conv => lhs; cbv); done)))
          | (refine AllO.cons (One.skipB ?_) ?_ <;> (first | refine AllO.pass ?_ | ((conv => lhs; cbv); done)))
          | ((first | refine AllO.consX (One.elemM hA tabOk rfl rfl rfl rfl ?_ ?_) rfl rfl ?_ | refine AllO.consX (One.concatM hA rfl rfl rfl ?_) rfl rfl ?_ | refine AllO.consX (One.lenOwnM hA tabOk rfl rfl rfl rfl) rfl rfl ?_ | refine AllO.consX (One.elemOwnM hA tabOk rfl rfl rfl rfl rfl ?_ ?_) rfl rfl ?_ | refine AllO.consX (One.loadRatM hA tabOk rfl rfl rfl rfl rfl rfl ?_) rfl rfl ?_) <;> (first | refine AllO.pass ?_ | (((try simp only [zn]) <;> (try simp (disch := omega) only [zz hA, zb, zy, reduceCtorEq, Bool.false_eq_true, Int.reduceLT, Int.reduceLE, Int.reduceNeg]) <;> (try simp only [zw])) <;> omega))))
      | refine Thn.exit ?_
      | refine Blk.here ?_
      | refine Blk.other (by decide) ?_
      | refine ⟨.inl rfl, _, RetOk.ev tabOk (by conv => lhs; cbv), ?_⟩
      | fail)
    refine AWp.block (AWp.cut [] [.row true 0 5 1 (hid A (List.map encU O))] (by conv => lhs; cbv) ?_ ?_)
    · have hzt : (cN E.length - 1 - cN j).toNat = i := by simp only [cN]; omega
      try first | refine AOLg.of [] ?_ | refine QSg.of [] ?_
      repeat' (first
        | (refine AWp.pass ?_; first
            | refine AWp.seq ?_
            | refine AWp.block ?_
            | refine AWp.skip ?_
            | refine AWp.regG [] (by conv => lhs; cbv) ?_
            | refine AWp.cond_t rfl ?_
            | refine AWp.cond_f rfl ?_
            | (refine AWp.cond rfl ?_ ?_ <;> intro hc <;> (try rw [hc]) <;> ((try simp only [zn] at hc) <;> (try simp (disch := omega) only [zz hA, zb, zy, reduceCtorEq, Bool.false_eq_true, Int.reduceLT, Int.reduceLE, Int.reduceNeg] at hc) <;> (try simp only [zw] at hc)) <;> (try (exfalso; omega)))
            | refine AWp.exit ?_
            | refine AWp.ret ⟨.inr rfl, _, RetOk.ev tabOk (by conv => lhs; cbv), ?_⟩
            | refine AWp.drawVG [] rfl (by decide +kernel) (by conv => lhs; cbv) ?_)
        | (refine AOLg.pass ?_; refine AOLg.nx hA tabOk (by conv => lhs; cbv) ?_; first
            | refine NX.done ?_
            | refine NX.gt ?_
            | refine NX.gf ?_
            | (refine NX.gs ?_ ?_ <;> intro hc <;> rw [hc] <;> ((try simp only [zn] at hc) <;> (try simp (disch := omega) only [zz hA, zb, zy, reduceCtorEq, Bool.false_eq_true, Int.reduceLT, Int.reduceLE, Int.reduceNeg] at hc) <;> (try simp only [zw] at hc)) <;> (try (exfalso; omega)))
            | ((first | (refine NX.k 1 ?_; first | refine NX.one (One.elemM hA tabOk rfl rfl rfl rfl ?_ ?_) ?_ | refine NX.one (One.elemOwnM hA tabOk rfl rfl rfl rfl rfl ?_ ?_) ?_) | (refine NX.k 7 ?_; first | refine NX.one (One.concatM hA rfl rfl rfl ?_) ?_) | (refine NX.k 8 ?_; first | refine NX.one (One.eqBoolM hA tabOk rfl rfl rfl rfl rfl) ?_) | (refine NX.k 10 ?_; first | refine NX.one (One.lenOwnM hA tabOk rfl rfl rfl rfl) ?_) | (refine NX.k 14 ?_; first | refine NX.one (One.loadRatM hA tabOk rfl rfl rfl rfl rfl rfl ?_) ?_) | (refine NX.k 15 ?_; first | refine NX.one (One.storeRatM hA tabOk _ rfl rfl rfl rfl rfl rfl rfl rfl (fun _ => rfl) ?_) ?_) | (refine NX.k 16 ?_; first | refine NX.one (One.makeM hA tabOk encI 0 rfl rfl rfl rfl rfl rfl rfl ?_ ?_ ?_) ?_)) <;> (first | refine AOLg.pass ?_ | (((try simp only [zn]) <;> (try simp (disch := omega) only [zz hA, zb, zy, reduceCtorEq, Bool.false_eq_true, Int.reduceLT, Int.reduceLE, Int.reduceNeg]) <;> (try simp only [zw])) <;> omega)))
            | refine NX.raw ?_)
        | (refine TRg.pass ?_; refine TRg.nx hA tabOk (by conv => lhs; cbv) ?_; first
            | refine TX.done ?_
            | refine TX.gt ?_
            | refine TX.gf ?_
            | (refine TX.gs ?_ ?_ <;> intro hc <;> rw [hc] <;> ((try simp only [zn] at hc) <;> (try simp (disch := omega) only [zz hA, zb, zy, reduceCtorEq, Bool.false_eq_true, Int.reduceLT, Int.reduceLE, Int.reduceNeg] at hc) <;> (try simp only [zw] at hc)) <;> (try (exfalso; omega)))
            | ((first | (refine TX.k 1 ?_; first | refine TX.one (One.elemM hA tabOk rfl rfl rfl rfl ?_ ?_) ?_ | refine TX.one (One.elemOwnM hA tabOk rfl rfl rfl rfl rfl ?_ ?_) ?_) | (refine TX.k 7 ?_; first | refine TX.one (One.concatM hA rfl rfl rfl ?_) ?_) | (refine TX.k 8 ?_; first | refine TX.one (One.eqBoolM hA tabOk rfl rfl rfl rfl rfl) ?_) | (refine TX.k 10 ?_; first | refine TX.one (One.lenOwnM hA tabOk rfl rfl rfl rfl) ?_) | (refine TX.k 14 ?_; first | refine TX.one (One.loadRatM hA tabOk rfl rfl rfl rfl rfl rfl ?_) ?_) | (refine TX.k 15 ?_; first | refine TX.one (One.storeRatM hA tabOk _ rfl rfl rfl rfl rfl rfl rfl rfl (fun _ => rfl) ?_) ?_) | (refine TX.k 16 ?_; first | refine TX.one (One.makeM hA tabOk encI 0 rfl rfl rfl rfl rfl rfl rfl ?_ ?_ ?_) ?_)) <;> (first | refine TRg.pass ?_ | (((try simp only [zn]) <;> (try simp (disch := omega) only [zz hA, zb, zy, reduceCtorEq, Bool.false_eq_true, Int.reduceLT, Int.reduceLE, Int.reduceNeg]) <;> (try simp only [zw])) <;> omega)))
            | refine TX.raw ?_)
        | refine Fin3.of (by conv => lhs; cbv) (by repeat' (first | exact True.intro | exact rfl | refine And.intro ?_ ?_)) ?_ ?_
        | (refine AllO.pass ?_; first
            | exact AllO.nil
            | (refine AllO.cons (One.ev hA tabOk ?_) ?_ <;> (first | refine AllO.pass ?_ | ((conv => lhs; cbv); done)))
            | (refine AllO.cons (One.skipB ?_) ?_ <;> (first | refine AllO.pass ?_ | ((conv => lhs; cbv); done)))
            | ((first | refine AllO.consX (One.elemM hA tabOk rfl rfl rfl rfl ?_ ?_) rfl rfl ?_ | refine AllO.consX (One.concatM hA rfl rfl rfl ?_) rfl rfl ?_ | refine AllO.consX (One.lenOwnM hA tabOk rfl rfl rfl rfl) rfl rfl ?_ | refine AllO.consX (One.elemOwnM hA tabOk rfl rfl rfl rfl rfl ?_ ?_) rfl rfl ?_ | refine AllO.consX (One.loadRatM hA tabOk rfl rfl rfl rfl rfl rfl ?_) rfl rfl ?_) <;> (first | refine AllO.pass ?_ | (((try simp only [zn]) <;> (try simp (disch := omega) only [zz hA, zb, zy, reduceCtorEq, Bool.false_eq_true, Int.reduceLT, Int.reduceLE, Int.reduceNeg]) <;> (try simp only [zw])) <;> omega))))
        | refine Thn.exit ?_
        | refine Blk.here ?_
        | refine Blk.other (by decide) ?_
        | refine ⟨.inl rfl, _, RetOk.ev tabOk (by conv => lhs; cbv), ?_⟩
        | fail)
      all_goals refine ⟨rfl, ?_, .nil, (by repeat' (first | exact subE.nil | refine subE.cons rfl ?_))⟩
      all_goals first
        | (rw [hr2 (by omega)]; done)
        | (have hj00 : j = 0 := by omega
           simp only [hid_eq hA, hzt, hr0 hj00, hr1 hj00]
           first
             | (rw [show side0 s = 66 from by unfold side0; rw [if_neg (by omega)]]; done)
             | (rw [show side0 s = s from by unfold side0; rw [if_pos (by omega)]]; done))
    · try first | refine AOLg.of [] ?_ | refine QSg.of [] ?_
      repeat' (first
        | (refine AWp.pass ?_; first
            | refine AWp.seq ?_
            | refine AWp.block ?_
            | refine AWp.skip ?_
            | refine AWp.regG [] (by conv => lhs; cbv) ?_
            | refine AWp.cond_t rfl ?_
            | refine AWp.cond_f rfl ?_
            | (refine AWp.cond rfl ?_ ?_ <;> intro hc <;> (try rw [hc]) <;> ((try simp only [zn] at hc) <;> (try simp (disch := omega) only [zz hA, zb, zy, reduceCtorEq, Bool.false_eq_true, Int.reduceLT, Int.reduceLE, Int.reduceNeg] at hc) <;> (try simp only [zw] at hc)) <;> (try (exfalso; omega)))
            | refine AWp.exit ?_
            | refine AWp.ret ⟨.inr rfl, _, RetOk.ev tabOk (by conv => lhs; cbv), ?_⟩
            | refine AWp.drawVG [] rfl (by decide +kernel) (by conv => lhs; cbv) ?_)
        | (refine AOLg.pass ?_; refine AOLg.nx hA tabOk (by conv => lhs; cbv) ?_; first
            | refine NX.done ?_
            | refine NX.gt ?_
            | refine NX.gf ?_
            | (refine NX.gs ?_ ?_ <;> intro hc <;> rw [hc] <;> ((try simp only [zn] at hc) <;> (try simp (disch := omega) only [zz hA, zb, zy, reduceCtorEq, Bool.false_eq_true, Int.reduceLT, Int.reduceLE, Int.reduceNeg] at hc) <;> (try simp only [zw] at hc)) <;> (try (exfalso; omega)))
            | (refine NX.kC ?_; first | ((with_reducible refine NX.call (hkids _ ?_) ?_) <;> (first | refine AOLg.pass ?_ | (((try simp only [zn]) <;> (try simp (disch := omega) only [zz hA, zb, zy, reduceCtorEq, Bool.false_eq_true, Int.reduceLT, Int.reduceLE, Int.reduceNeg]) <;> (try simp only [zw])) <;> omega))) | ((first | refine NX.call (hkids _ ?_) ?_) <;> (first | refine AOLg.pass ?_ | (((try simp only [zn]) <;> (try simp (disch := omega) only [zz hA, zb, zy, reduceCtorEq, Bool.false_eq_true, Int.reduceLT, Int.reduceLE, Int.reduceNeg]) <;> (try simp only [zw])) <;> omega))) | fail)
            | (refine NX.kO ?_; (first | refine NX.callO (hkids _ ?_) (by simp [allEq]) rfl ?_) <;> (first | refine AOLg.pass ?_ | (((try simp only [zn]) <;> (try simp (disch := omega) only [zz hA, zb, zy, reduceCtorEq, Bool.false_eq_true, Int.reduceLT, Int.reduceLE, Int.reduceNeg]) <;> (try simp only [zw])) <;> omega)))
            | ((first | (refine NX.k 1 ?_; first | refine NX.one (One.elemM hA tabOk rfl rfl rfl rfl ?_ ?_) ?_ | refine NX.one (One.elemOwnM hA tabOk rfl rfl rfl rfl rfl ?_ ?_) ?_) | (refine NX.k 7 ?_; first | refine NX.one (One.concatM hA rfl rfl rfl ?_) ?_) | (refine NX.k 8 ?_; first | refine NX.one (One.eqBoolM hA tabOk rfl rfl rfl rfl rfl) ?_) | (refine NX.k 10 ?_; first | refine NX.one (One.lenOwnM hA tabOk rfl rfl rfl rfl) ?_) | (refine NX.k 14 ?_; first | refine NX.one (One.loadRatM hA tabOk rfl rfl rfl rfl rfl rfl ?_) ?_) | (refine NX.k 15 ?_; first | refine NX.one (One.storeRatM hA tabOk _ rfl rfl rfl rfl rfl rfl rfl rfl (fun _ => rfl) ?_) ?_) | (refine NX.k 16 ?_; first | refine NX.one (One.makeM hA tabOk encI 0 rfl rfl rfl rfl rfl rfl rfl ?_ ?_ ?_) ?_)) <;> (first | refine AOLg.pass ?_ | (((try simp only [zn]) <;> (try simp (disch := omega) only [zz hA, zb, zy, reduceCtorEq, Bool.false_eq_true, Int.reduceLT, Int.reduceLE, Int.reduceNeg]) <;> (try simp only [zw])) <;> omega)))
            | refine NX.raw ?_)
        | (refine TRg.pass ?_; refine TRg.nx hA tabOk (by conv => lhs; cbv) ?_; first
            | refine TX.done ?_
            | refine TX.gt ?_
            | refine TX.gf ?_
            | (refine TX.gs ?_ ?_ <;> intro hc <;> rw [hc] <;> ((try simp only [zn] at hc) <;> (try simp (disch := omega) only [zz hA, zb, zy, reduceCtorEq, Bool.false_eq_true, Int.reduceLT, Int.reduceLE, Int.reduceNeg] at hc) <;> (try simp only [zw] at hc)) <;> (try (exfalso; omega)))
            | (refine TX.kC ?_; first | ((with_reducible refine TX.call (hkids _ ?_) ?_) <;> (first | refine TRg.pass ?_ | (((try simp only [zn]) <;> (try simp (disch := omega) only [zz hA, zb, zy, reduceCtorEq, Bool.false_eq_true, Int.reduceLT, Int.reduceLE, Int.reduceNeg]) <;> (try simp only [zw])) <;> omega))) | ((first | refine TX.call (hkids _ ?_) ?_) <;> (first | refine TRg.pass ?_ | (((try simp only [zn]) <;> (try simp (disch := omega) only [zz hA, zb, zy, reduceCtorEq, Bool.false_eq_true, Int.reduceLT, Int.reduceLE, Int.reduceNeg]) <;> (try simp only [zw])) <;> omega))) | fail)
            | (refine TX.kO ?_; (first | refine TX.callO (hkids _ ?_) (by simp [allEq]) rfl ?_) <;> (first | refine TRg.pass ?_ | (((try simp only [zn]) <;> (try simp (disch := omega) only [zz hA, zb, zy, reduceCtorEq, Bool.false_eq_true, Int.reduceLT, Int.reduceLE, Int.reduceNeg]) <;> (try simp only [zw])) <;> omega)))
            | ((first | (refine TX.k 1 ?_; first | refine TX.one (One.elemM hA tabOk rfl rfl rfl rfl ?_ ?_) ?_ | refine TX.one (One.elemOwnM hA tabOk rfl rfl rfl rfl rfl ?_ ?_) ?_) | (refine TX.k 7 ?_; first | refine TX.one (One.concatM hA rfl rfl rfl ?_) ?_) | (refine TX.k 8 ?_; first | refine TX.one (One.eqBoolM hA tabOk rfl rfl rfl rfl rfl) ?_) | (refine TX.k 10 ?_; first | refine TX.one (One.lenOwnM hA tabOk rfl rfl rfl rfl) ?_) | (refine TX.k 14 ?_; first | refine TX.one (One.loadRatM hA tabOk rfl rfl rfl rfl rfl rfl ?_) ?_) | (refine TX.k 15 ?_; first | refine TX.one (One.storeRatM hA tabOk _ rfl rfl rfl rfl rfl rfl rfl rfl (fun _ => rfl) ?_) ?_) | (refine TX.k 16 ?_; first | refine TX.one (One.makeM hA tabOk encI 0 rfl rfl rfl rfl rfl rfl rfl ?_ ?_ ?_) ?_)) <;> (first | refine TRg.pass ?_ | (((try simp only [zn]) <;> (try simp (disch := omega) only [zz hA, zb, zy, reduceCtorEq, Bool.false_eq_true, Int.reduceLT, Int.reduceLE, Int.reduceNeg]) <;> (try simp only [zw])) <;> omega)))
            | refine TX.raw ?_)
        | refine Fin3.of (by conv => lhs; cbv) (by repeat' (first | exact True.intro | exact rfl | refine And.intro ?_ ?_)) ?_ ?_
        | (refine AllO.pass ?_; first
            | exact AllO.nil
            | (refine AllO.cons (One.ev hA tabOk ?_) ?_ <;> (first | refine AllO.pass ?_ | ((conv => lhs; cbv); done)))
            | (refine AllO.cons (One.skipB ?_) ?_ <;> (first | refine AllO.pass ?_ | ((conv => lhs; cbv); done)))
            | ((with_reducible refine AllO.call (by conv => lhs; cbv) (hkids _ ?_) ?_ ?_) <;> (first | refine AllO.pass ?_ | exact rfl | (((try simp only [zn]) <;> (try simp (disch := omega) only [zz hA, zb, zy, reduceCtorEq, Bool.false_eq_true, Int.reduceLT, Int.reduceLE, Int.reduceNeg]) <;> (try simp only [zw])) <;> omega)))
            | ((first | refine AllO.consX (One.elemM hA tabOk rfl rfl rfl rfl ?_ ?_) rfl rfl ?_ | refine AllO.consX (One.concatM hA rfl rfl rfl ?_) rfl rfl ?_ | refine AllO.consX (One.lenOwnM hA tabOk rfl rfl rfl rfl) rfl rfl ?_ | refine AllO.consX (One.elemOwnM hA tabOk rfl rfl rfl rfl rfl ?_ ?_) rfl rfl ?_ | refine AllO.consX (One.loadRatM hA tabOk rfl rfl rfl rfl rfl rfl ?_) rfl rfl ?_) <;> (first | refine AllO.pass ?_ | (((try simp only [zn]) <;> (try simp (disch := omega) only [zz hA, zb, zy, reduceCtorEq, Bool.false_eq_true, Int.reduceLT, Int.reduceLE, Int.reduceNeg]) <;> (try simp only [zw])) <;> omega))))
        | refine Thn.exit ?_
        | refine Blk.here ?_
        | refine Blk.other (by decide) ?_
        | refine ⟨.inl rfl, _, RetOk.ev tabOk (by conv => lhs; cbv), ?_⟩
        | fail)
      refine AWp.loopU (fun m : Nat => [(11, .ic (.lit (.int .i64 (hid A (cN m)))))]) (fun m => [.row true 0 5 1 (hid A (List.map encU (setsD O K (fun q => turnD (O.getD i default) (varyD l k sa n q)) (List.range m))))]) (fun m => p - m) (fun m => m ≤ p) 0 (by conv => lhs; cbv) (Nat.zero_le _) (.int rfl (by simp [hA, real, hid, cN]) .nil) (by
        simp only [List.range_zero, setsD, List.foldl_nil]) ?_
      intro m hm0
      have hml := setsD_len K (fun q => turnD (O.getD i default) (varyD l k sa n q)) (List.range m) O
      by_cases hm : m < p
      · have hnx := setsD_succ O K (fun q => turnD (O.getD i default) (varyD l k sa n q)) m
        have hat : (setsD O K (fun q => turnD (O.getD i default) (varyD l k sa n q)) (List.range m)).getD i default = O.getD i default := setsD_other _ _ _ _ _ fun q hq => by
          have h2 := List.mem_range.1 hq
          have := hkin q (by omega)
          omega
        have hzi : ∀ q : Int, q = i → (setsD O K (fun q => turnD (O.getD i default) (varyD l k sa n q)) (List.range m)).getD q.toNat default = O.getD i default := by rintro q rfl; exact hat
        have hkm := hkin m hm
        have hkm2 : ∀ q : Int, q = m → K.getD q.toNat default = K.getD m default := by rintro q rfl; rfl
        have hva := vary_at hA l k sa n m hl hsz (by unfold partsM at hpd; split at hpd <;> omega) (by unfold partsM at hpd; split at hpd <;> omega) (by omega)
        have htu := rTurn_at hA (O.getD i default) (varyD l k sa n m)
        generalize hO3 : setsD O K (fun q => turnD (O.getD i default) (varyD l k sa n q)) (List.range (m + 1)) = O3 at *
        generalize setsD O K (fun q => turnD (O.getD i default) (varyD l k sa n q)) (List.range m) = O1 at *
        generalize varyD l k sa n m = V at *
        generalize O.getD i default = W at *
        have hzz : cN E.length - 1 - cN j = (i : Int) := by simp only [cN]; omega
        try first | refine AOLg.of [] ?_ | refine QSg.of [] ?_
        repeat' (first
          | (refine AWp.pass ?_; first
              | refine AWp.seq ?_
              | refine AWp.block ?_
              | refine AWp.skip ?_
              | refine AWp.regG [] (by conv => lhs; cbv) ?_
              | refine AWp.cond_t rfl ?_
              | refine AWp.cond_f rfl ?_
              | (refine AWp.cond rfl ?_ ?_ <;> intro hc <;> (try rw [hc]) <;> ((try simp only [zn] at hc) <;> (try simp (disch := omega) only [zz hA, zb, zy, reduceCtorEq, Bool.false_eq_true, Int.reduceLT, Int.reduceLE, Int.reduceNeg] at hc) <;> (try simp only [zw] at hc)) <;> (try (exfalso; omega)))
              | refine AWp.exit ?_
              | refine AWp.ret ⟨.inr rfl, _, RetOk.ev tabOk (by conv => lhs; cbv), ?_⟩
              | refine AWp.drawVG [] rfl (by decide +kernel) (by conv => lhs; cbv) ?_)
          | (refine AOLg.pass ?_; refine AOLg.nx hA tabOk (by conv => lhs; cbv) ?_; first
              | refine NX.done ?_
              | refine NX.gt ?_
              | refine NX.gf ?_
              | (refine NX.gs ?_ ?_ <;> intro hc <;> rw [hc] <;> ((try simp only [zn] at hc) <;> (try simp (disch := omega) only [zz hA, zb, zy, reduceCtorEq, Bool.false_eq_true, Int.reduceLT, Int.reduceLE, Int.reduceNeg] at hc) <;> (try simp only [zw] at hc)) <;> (try (exfalso; omega)))
              | (refine NX.kC ?_; first | ((with_reducible refine NX.call (hva _ _ _ _ (by simp only [hid_eq hA]; exact ek _ hzz) (by simp only [hid_eq hA]; exact es _ hzz) (by simp only [hid_eq hA]; exact en _ hzz) ?_) ?_) <;> (first | refine AOLg.pass ?_ | (((try simp only [zn]) <;> (try simp (disch := omega) only [zz hA, zb, zy, reduceCtorEq, Bool.false_eq_true, Int.reduceLT, Int.reduceLE, Int.reduceNeg]) <;> (try simp only [zw])) <;> omega))) | (with_reducible refine NX.call (htu _ _ (by simp only [hid_eq hA]; exact hzi _ hzz) (by simp only [hid_eq hA])) ?_) | ((first | refine NX.call (hva _ _ _ _ (by simp only [hid_eq hA]; exact ek _ hzz) (by simp only [hid_eq hA]; exact es _ hzz) (by simp only [hid_eq hA]; exact en _ hzz) ?_) ?_ | refine NX.call (htu _ _ (by simp only [hid_eq hA]; exact hzi _ hzz) (by simp only [hid_eq hA])) ?_) <;> (first | refine AOLg.pass ?_ | (((try simp only [zn]) <;> (try simp (disch := omega) only [zz hA, zb, zy, reduceCtorEq, Bool.false_eq_true, Int.reduceLT, Int.reduceLE, Int.reduceNeg]) <;> (try simp only [zw])) <;> omega))) | fail)
              | (refine NX.kO ?_; (first | refine NX.callO (hva _ _ _ _ (by simp only [hid_eq hA]; exact ek _ hzz) (by simp only [hid_eq hA]; exact es _ hzz) (by simp only [hid_eq hA]; exact en _ hzz) ?_) (by simp [allEq]) rfl ?_ | refine NX.callO (htu _ _ (by simp only [hid_eq hA]; exact hzi _ hzz) (by simp only [hid_eq hA])) (by simp [allEq]) rfl ?_) <;> (first | refine AOLg.pass ?_ | (((try simp only [zn]) <;> (try simp (disch := omega) only [zz hA, zb, zy, reduceCtorEq, Bool.false_eq_true, Int.reduceLT, Int.reduceLE, Int.reduceNeg]) <;> (try simp only [zw])) <;> omega)))
              | ((first | (refine NX.k 1 ?_; first | refine NX.one (One.elemM hA tabOk rfl rfl rfl rfl ?_ ?_) ?_ | refine NX.one (One.elemOwnM hA tabOk rfl rfl rfl rfl rfl ?_ ?_) ?_) | (refine NX.k 7 ?_; first | refine NX.one (One.concatM hA rfl rfl rfl ?_) ?_) | (refine NX.k 8 ?_; first | refine NX.one (One.eqBoolM hA tabOk rfl rfl rfl rfl rfl) ?_) | (refine NX.k 10 ?_; first | refine NX.one (One.lenOwnM hA tabOk rfl rfl rfl rfl) ?_) | (refine NX.k 14 ?_; first | refine NX.one (One.loadRatM hA tabOk rfl rfl rfl rfl rfl rfl ?_) ?_) | (refine NX.k 15 ?_; first | refine NX.one (One.storeRatM hA tabOk _ rfl rfl rfl rfl rfl rfl rfl rfl (fun _ => rfl) ?_) ?_) | (refine NX.k 16 ?_; first | refine NX.one (One.makeM hA tabOk encI 0 rfl rfl rfl rfl rfl rfl rfl ?_ ?_ ?_) ?_)) <;> (first | refine AOLg.pass ?_ | (((try simp only [zn]) <;> (try simp (disch := omega) only [zz hA, zb, zy, reduceCtorEq, Bool.false_eq_true, Int.reduceLT, Int.reduceLE, Int.reduceNeg]) <;> (try simp only [zw])) <;> omega)))
              | refine NX.raw ?_)
          | (refine TRg.pass ?_; refine TRg.nx hA tabOk (by conv => lhs; cbv) ?_; first
              | refine TX.done ?_
              | refine TX.gt ?_
              | refine TX.gf ?_
              | (refine TX.gs ?_ ?_ <;> intro hc <;> rw [hc] <;> ((try simp only [zn] at hc) <;> (try simp (disch := omega) only [zz hA, zb, zy, reduceCtorEq, Bool.false_eq_true, Int.reduceLT, Int.reduceLE, Int.reduceNeg] at hc) <;> (try simp only [zw] at hc)) <;> (try (exfalso; omega)))
              | (refine TX.kC ?_; first | ((with_reducible refine TX.call (hva _ _ _ _ (by simp only [hid_eq hA]; exact ek _ hzz) (by simp only [hid_eq hA]; exact es _ hzz) (by simp only [hid_eq hA]; exact en _ hzz) ?_) ?_) <;> (first | refine TRg.pass ?_ | (((try simp only [zn]) <;> (try simp (disch := omega) only [zz hA, zb, zy, reduceCtorEq, Bool.false_eq_true, Int.reduceLT, Int.reduceLE, Int.reduceNeg]) <;> (try simp only [zw])) <;> omega))) | (with_reducible refine TX.call (htu _ _ (by simp only [hid_eq hA]; exact hzi _ hzz) (by simp only [hid_eq hA])) ?_) | ((first | refine TX.call (hva _ _ _ _ (by simp only [hid_eq hA]; exact ek _ hzz) (by simp only [hid_eq hA]; exact es _ hzz) (by simp only [hid_eq hA]; exact en _ hzz) ?_) ?_ | refine TX.call (htu _ _ (by simp only [hid_eq hA]; exact hzi _ hzz) (by simp only [hid_eq hA])) ?_) <;> (first | refine TRg.pass ?_ | (((try simp only [zn]) <;> (try simp (disch := omega) only [zz hA, zb, zy, reduceCtorEq, Bool.false_eq_true, Int.reduceLT, Int.reduceLE, Int.reduceNeg]) <;> (try simp only [zw])) <;> omega))) | fail)
              | (refine TX.kO ?_; (first | refine TX.callO (hva _ _ _ _ (by simp only [hid_eq hA]; exact ek _ hzz) (by simp only [hid_eq hA]; exact es _ hzz) (by simp only [hid_eq hA]; exact en _ hzz) ?_) (by simp [allEq]) rfl ?_ | refine TX.callO (htu _ _ (by simp only [hid_eq hA]; exact hzi _ hzz) (by simp only [hid_eq hA])) (by simp [allEq]) rfl ?_) <;> (first | refine TRg.pass ?_ | (((try simp only [zn]) <;> (try simp (disch := omega) only [zz hA, zb, zy, reduceCtorEq, Bool.false_eq_true, Int.reduceLT, Int.reduceLE, Int.reduceNeg]) <;> (try simp only [zw])) <;> omega)))
              | ((first | (refine TX.k 1 ?_; first | refine TX.one (One.elemM hA tabOk rfl rfl rfl rfl ?_ ?_) ?_ | refine TX.one (One.elemOwnM hA tabOk rfl rfl rfl rfl rfl ?_ ?_) ?_) | (refine TX.k 7 ?_; first | refine TX.one (One.concatM hA rfl rfl rfl ?_) ?_) | (refine TX.k 8 ?_; first | refine TX.one (One.eqBoolM hA tabOk rfl rfl rfl rfl rfl) ?_) | (refine TX.k 10 ?_; first | refine TX.one (One.lenOwnM hA tabOk rfl rfl rfl rfl) ?_) | (refine TX.k 14 ?_; first | refine TX.one (One.loadRatM hA tabOk rfl rfl rfl rfl rfl rfl ?_) ?_) | (refine TX.k 15 ?_; first | refine TX.one (One.storeRatM hA tabOk _ rfl rfl rfl rfl rfl rfl rfl rfl (fun _ => rfl) ?_) ?_) | (refine TX.k 16 ?_; first | refine TX.one (One.makeM hA tabOk encI 0 rfl rfl rfl rfl rfl rfl rfl ?_ ?_ ?_) ?_)) <;> (first | refine TRg.pass ?_ | (((try simp only [zn]) <;> (try simp (disch := omega) only [zz hA, zb, zy, reduceCtorEq, Bool.false_eq_true, Int.reduceLT, Int.reduceLE, Int.reduceNeg]) <;> (try simp only [zw])) <;> omega)))
              | refine TX.raw ?_)
          | refine Fin3.of (by conv => lhs; cbv) (by repeat' (first | exact True.intro | exact rfl | refine And.intro ?_ ?_)) ?_ ?_
          | (refine AllO.pass ?_; first
              | exact AllO.nil
              | (refine AllO.cons (One.ev hA tabOk ?_) ?_ <;> (first | refine AllO.pass ?_ | ((conv => lhs; cbv); done)))
              | (refine AllO.cons (One.skipB ?_) ?_ <;> (first | refine AllO.pass ?_ | ((conv => lhs; cbv); done)))
              | ((with_reducible refine AllO.call (by conv => lhs; cbv) (hva _ _ _ _ (by simp only [hid_eq hA]; exact ek _ hzz) (by simp only [hid_eq hA]; exact es _ hzz) (by simp only [hid_eq hA]; exact en _ hzz) ?_) ?_ ?_) <;> (first | refine AllO.pass ?_ | exact rfl | (((try simp only [zn]) <;> (try simp (disch := omega) only [zz hA, zb, zy, reduceCtorEq, Bool.false_eq_true, Int.reduceLT, Int.reduceLE, Int.reduceNeg]) <;> (try simp only [zw])) <;> omega)))
              | ((with_reducible refine AllO.call (by conv => lhs; cbv) (htu _ _ (by simp only [hid_eq hA]; exact hzi _ hzz) (by simp only [hid_eq hA])) ?_ ?_) <;> (first | refine AllO.pass ?_ | exact rfl | (((try simp only [zn]) <;> (try simp (disch := omega) only [zz hA, zb, zy, reduceCtorEq, Bool.false_eq_true, Int.reduceLT, Int.reduceLE, Int.reduceNeg]) <;> (try simp only [zw])) <;> omega)))
              | ((first | refine AllO.consX (One.elemM hA tabOk rfl rfl rfl rfl ?_ ?_) rfl rfl ?_ | refine AllO.consX (One.concatM hA rfl rfl rfl ?_) rfl rfl ?_ | refine AllO.consX (One.lenOwnM hA tabOk rfl rfl rfl rfl) rfl rfl ?_ | refine AllO.consX (One.elemOwnM hA tabOk rfl rfl rfl rfl rfl ?_ ?_) rfl rfl ?_ | refine AllO.consX (One.loadRatM hA tabOk rfl rfl rfl rfl rfl rfl ?_) rfl rfl ?_) <;> (first | refine AllO.pass ?_ | (((try simp only [zn]) <;> (try simp (disch := omega) only [zz hA, zb, zy, reduceCtorEq, Bool.false_eq_true, Int.reduceLT, Int.reduceLE, Int.reduceNeg]) <;> (try simp only [zw])) <;> omega))))
          | refine Thn.exit ?_
          | refine Blk.here ?_
          | refine Blk.other (by decide) ?_
          | refine ⟨.inl rfl, _, RetOk.ev tabOk (by conv => lhs; cbv), ?_⟩
          | fail)
        refine ⟨m + 1, by omega, by omega, rfl, ?_, ?_, (by repeat' (first | exact subE.nil | refine subE.cons rfl ?_))⟩
        · simp only [hid_eq hA, hO3, hnx, cN_toNat]
        · exact .int rfl (by (((try simp only [zn]) <;> (try simp (disch := omega) only [zz hA, zb, zy, reduceCtorEq, Bool.false_eq_true, Int.reduceLT, Int.reduceLE, Int.reduceNeg]) <;> (try simp only [zw])) <;> omega)) .nil
      · obtain rfl : m = p := by omega
        rw [← hstep]
        try first | refine AOLg.of [] ?_ | refine QSg.of [] ?_
        repeat' (first
          | (refine AWp.pass ?_; first
              | refine AWp.seq ?_
              | refine AWp.block ?_
              | refine AWp.skip ?_
              | refine AWp.regG [] (by conv => lhs; cbv) ?_
              | refine AWp.cond_t rfl ?_
              | refine AWp.cond_f rfl ?_
              | (refine AWp.cond rfl ?_ ?_ <;> intro hc <;> (try rw [hc]) <;> ((try simp only [zn] at hc) <;> (try simp (disch := omega) only [zz hA, zb, zy, reduceCtorEq, Bool.false_eq_true, Int.reduceLT, Int.reduceLE, Int.reduceNeg] at hc) <;> (try simp only [zw] at hc)) <;> (try (exfalso; omega)))
              | refine AWp.exit ?_
              | refine AWp.ret ⟨.inr rfl, _, RetOk.ev tabOk (by conv => lhs; cbv), ?_⟩
              | refine AWp.drawVG [] rfl (by decide +kernel) (by conv => lhs; cbv) ?_)
          | (refine AOLg.pass ?_; refine AOLg.nx hA tabOk (by conv => lhs; cbv) ?_; first
              | refine NX.done ?_
              | refine NX.gt ?_
              | refine NX.gf ?_
              | (refine NX.gs ?_ ?_ <;> intro hc <;> rw [hc] <;> ((try simp only [zn] at hc) <;> (try simp (disch := omega) only [zz hA, zb, zy, reduceCtorEq, Bool.false_eq_true, Int.reduceLT, Int.reduceLE, Int.reduceNeg] at hc) <;> (try simp only [zw] at hc)) <;> (try (exfalso; omega)))
              | ((first | (refine NX.k 1 ?_; first | refine NX.one (One.elemM hA tabOk rfl rfl rfl rfl ?_ ?_) ?_ | refine NX.one (One.elemOwnM hA tabOk rfl rfl rfl rfl rfl ?_ ?_) ?_) | (refine NX.k 7 ?_; first | refine NX.one (One.concatM hA rfl rfl rfl ?_) ?_) | (refine NX.k 8 ?_; first | refine NX.one (One.eqBoolM hA tabOk rfl rfl rfl rfl rfl) ?_) | (refine NX.k 10 ?_; first | refine NX.one (One.lenOwnM hA tabOk rfl rfl rfl rfl) ?_) | (refine NX.k 14 ?_; first | refine NX.one (One.loadRatM hA tabOk rfl rfl rfl rfl rfl rfl ?_) ?_) | (refine NX.k 15 ?_; first | refine NX.one (One.storeRatM hA tabOk _ rfl rfl rfl rfl rfl rfl rfl rfl (fun _ => rfl) ?_) ?_) | (refine NX.k 16 ?_; first | refine NX.one (One.makeM hA tabOk encI 0 rfl rfl rfl rfl rfl rfl rfl ?_ ?_ ?_) ?_)) <;> (first | refine AOLg.pass ?_ | (((try simp only [zn]) <;> (try simp (disch := omega) only [zz hA, zb, zy, reduceCtorEq, Bool.false_eq_true, Int.reduceLT, Int.reduceLE, Int.reduceNeg]) <;> (try simp only [zw])) <;> omega)))
              | refine NX.raw ?_)
          | (refine TRg.pass ?_; refine TRg.nx hA tabOk (by conv => lhs; cbv) ?_; first
              | refine TX.done ?_
              | refine TX.gt ?_
              | refine TX.gf ?_
              | (refine TX.gs ?_ ?_ <;> intro hc <;> rw [hc] <;> ((try simp only [zn] at hc) <;> (try simp (disch := omega) only [zz hA, zb, zy, reduceCtorEq, Bool.false_eq_true, Int.reduceLT, Int.reduceLE, Int.reduceNeg] at hc) <;> (try simp only [zw] at hc)) <;> (try (exfalso; omega)))
              | ((first | (refine TX.k 1 ?_; first | refine TX.one (One.elemM hA tabOk rfl rfl rfl rfl ?_ ?_) ?_ | refine TX.one (One.elemOwnM hA tabOk rfl rfl rfl rfl rfl ?_ ?_) ?_) | (refine TX.k 7 ?_; first | refine TX.one (One.concatM hA rfl rfl rfl ?_) ?_) | (refine TX.k 8 ?_; first | refine TX.one (One.eqBoolM hA tabOk rfl rfl rfl rfl rfl) ?_) | (refine TX.k 10 ?_; first | refine TX.one (One.lenOwnM hA tabOk rfl rfl rfl rfl) ?_) | (refine TX.k 14 ?_; first | refine TX.one (One.loadRatM hA tabOk rfl rfl rfl rfl rfl rfl ?_) ?_) | (refine TX.k 15 ?_; first | refine TX.one (One.storeRatM hA tabOk _ rfl rfl rfl rfl rfl rfl rfl rfl (fun _ => rfl) ?_) ?_) | (refine TX.k 16 ?_; first | refine TX.one (One.makeM hA tabOk encI 0 rfl rfl rfl rfl rfl rfl rfl ?_ ?_ ?_) ?_)) <;> (first | refine TRg.pass ?_ | (((try simp only [zn]) <;> (try simp (disch := omega) only [zz hA, zb, zy, reduceCtorEq, Bool.false_eq_true, Int.reduceLT, Int.reduceLE, Int.reduceNeg]) <;> (try simp only [zw])) <;> omega)))
              | refine TX.raw ?_)
          | refine Fin3.of (by conv => lhs; cbv) (by repeat' (first | exact True.intro | exact rfl | refine And.intro ?_ ?_)) ?_ ?_
          | (refine AllO.pass ?_; first
              | exact AllO.nil
              | (refine AllO.cons (One.ev hA tabOk ?_) ?_ <;> (first | refine AllO.pass ?_ | ((conv => lhs; cbv); done)))
              | (refine AllO.cons (One.skipB ?_) ?_ <;> (first | refine AllO.pass ?_ | ((conv => lhs; cbv); done)))
              | ((first | refine AllO.consX (One.elemM hA tabOk rfl rfl rfl rfl ?_ ?_) rfl rfl ?_ | refine AllO.consX (One.concatM hA rfl rfl rfl ?_) rfl rfl ?_ | refine AllO.consX (One.lenOwnM hA tabOk rfl rfl rfl rfl) rfl rfl ?_ | refine AllO.consX (One.elemOwnM hA tabOk rfl rfl rfl rfl rfl ?_ ?_) rfl rfl ?_ | refine AllO.consX (One.loadRatM hA tabOk rfl rfl rfl rfl rfl rfl ?_) rfl rfl ?_) <;> (first | refine AllO.pass ?_ | (((try simp only [zn]) <;> (try simp (disch := omega) only [zz hA, zb, zy, reduceCtorEq, Bool.false_eq_true, Int.reduceLT, Int.reduceLE, Int.reduceNeg]) <;> (try simp only [zw])) <;> omega))))
          | refine Thn.exit ?_
          | refine Blk.here ?_
          | refine Blk.other (by decide) ?_
          | refine ⟨.inl rfl, _, RetOk.ev tabOk (by conv => lhs; cbv), ?_⟩
          | fail)
        refine ⟨j + 1, by omega, by omega, rfl, ?_, ?_, (by repeat' (first | exact subE.nil | refine subE.cons rfl ?_))⟩
        · simp only [hR2]
        · exact .int rfl (by (((try simp only [zn]) <;> (try simp (disch := omega) only [zz hA, zb, zy, reduceCtorEq, Bool.false_eq_true, Int.reduceLT, Int.reduceLE, Int.reduceNeg]) <;> (try simp only [zw])) <;> omega)) .nil
  · obtain rfl : j = E.length := by omega
    have hre : rowR l E (stD E E.length) s E.length = sidesD l E s := by unfold rowR; rw [if_neg (by omega)]; rfl
    rw [hre]
    try first | refine AOLg.of [] ?_ | refine QSg.of [] ?_
    repeat' (first
      | (refine AWp.pass ?_; first
          | refine AWp.seq ?_
          | refine AWp.block ?_
          | refine AWp.skip ?_
          | refine AWp.regG [] (by conv => lhs; cbv) ?_
          | refine AWp.cond_t rfl ?_
          | refine AWp.cond_f rfl ?_
          | (refine AWp.cond rfl ?_ ?_ <;> intro hc <;> (try rw [hc]) <;> ((try simp only [zn] at hc) <;> (try simp (disch := omega) only [zz hA, zb, zy, reduceCtorEq, Bool.false_eq_true, Int.reduceLT, Int.reduceLE, Int.reduceNeg] at hc) <;> (try simp only [zw] at hc)) <;> (try (exfalso; omega)))
          | refine AWp.exit ?_
          | refine AWp.ret ⟨.inr rfl, _, RetOk.ev tabOk (by conv => lhs; cbv), ?_⟩
          | refine AWp.drawVG [] rfl (by decide +kernel) (by conv => lhs; cbv) ?_)
      | (refine AOLg.pass ?_; refine AOLg.nx hA tabOk (by conv => lhs; cbv) ?_; first
          | refine NX.done ?_
          | refine NX.gt ?_
          | refine NX.gf ?_
          | (refine NX.gs ?_ ?_ <;> intro hc <;> rw [hc] <;> ((try simp only [zn] at hc) <;> (try simp (disch := omega) only [zz hA, zb, zy, reduceCtorEq, Bool.false_eq_true, Int.reduceLT, Int.reduceLE, Int.reduceNeg] at hc) <;> (try simp only [zw] at hc)) <;> (try (exfalso; omega)))
          | ((first | (refine NX.k 1 ?_; first | refine NX.one (One.elemM hA tabOk rfl rfl rfl rfl ?_ ?_) ?_ | refine NX.one (One.elemOwnM hA tabOk rfl rfl rfl rfl rfl ?_ ?_) ?_) | (refine NX.k 7 ?_; first | refine NX.one (One.concatM hA rfl rfl rfl ?_) ?_) | (refine NX.k 8 ?_; first | refine NX.one (One.eqBoolM hA tabOk rfl rfl rfl rfl rfl) ?_) | (refine NX.k 10 ?_; first | refine NX.one (One.lenOwnM hA tabOk rfl rfl rfl rfl) ?_) | (refine NX.k 14 ?_; first | refine NX.one (One.loadRatM hA tabOk rfl rfl rfl rfl rfl rfl ?_) ?_) | (refine NX.k 15 ?_; first | refine NX.one (One.storeRatM hA tabOk _ rfl rfl rfl rfl rfl rfl rfl rfl (fun _ => rfl) ?_) ?_) | (refine NX.k 16 ?_; first | refine NX.one (One.makeM hA tabOk encI 0 rfl rfl rfl rfl rfl rfl rfl ?_ ?_ ?_) ?_)) <;> (first | refine AOLg.pass ?_ | (((try simp only [zn]) <;> (try simp (disch := omega) only [zz hA, zb, zy, reduceCtorEq, Bool.false_eq_true, Int.reduceLT, Int.reduceLE, Int.reduceNeg]) <;> (try simp only [zw])) <;> omega)))
          | refine NX.raw ?_)
      | (refine TRg.pass ?_; refine TRg.nx hA tabOk (by conv => lhs; cbv) ?_; first
          | refine TX.done ?_
          | refine TX.gt ?_
          | refine TX.gf ?_
          | (refine TX.gs ?_ ?_ <;> intro hc <;> rw [hc] <;> ((try simp only [zn] at hc) <;> (try simp (disch := omega) only [zz hA, zb, zy, reduceCtorEq, Bool.false_eq_true, Int.reduceLT, Int.reduceLE, Int.reduceNeg] at hc) <;> (try simp only [zw] at hc)) <;> (try (exfalso; omega)))
          | ((first | (refine TX.k 1 ?_; first | refine TX.one (One.elemM hA tabOk rfl rfl rfl rfl ?_ ?_) ?_ | refine TX.one (One.elemOwnM hA tabOk rfl rfl rfl rfl rfl ?_ ?_) ?_) | (refine TX.k 7 ?_; first | refine TX.one (One.concatM hA rfl rfl rfl ?_) ?_) | (refine TX.k 8 ?_; first | refine TX.one (One.eqBoolM hA tabOk rfl rfl rfl rfl rfl) ?_) | (refine TX.k 10 ?_; first | refine TX.one (One.lenOwnM hA tabOk rfl rfl rfl rfl) ?_) | (refine TX.k 14 ?_; first | refine TX.one (One.loadRatM hA tabOk rfl rfl rfl rfl rfl rfl ?_) ?_) | (refine TX.k 15 ?_; first | refine TX.one (One.storeRatM hA tabOk _ rfl rfl rfl rfl rfl rfl rfl rfl (fun _ => rfl) ?_) ?_) | (refine TX.k 16 ?_; first | refine TX.one (One.makeM hA tabOk encI 0 rfl rfl rfl rfl rfl rfl rfl ?_ ?_ ?_) ?_)) <;> (first | refine TRg.pass ?_ | (((try simp only [zn]) <;> (try simp (disch := omega) only [zz hA, zb, zy, reduceCtorEq, Bool.false_eq_true, Int.reduceLT, Int.reduceLE, Int.reduceNeg]) <;> (try simp only [zw])) <;> omega)))
          | refine TX.raw ?_)
      | refine Fin3.of (by conv => lhs; cbv) (by repeat' (first | exact True.intro | exact rfl | refine And.intro ?_ ?_)) ?_ ?_
      | (refine AllO.pass ?_; first
          | exact AllO.nil
          | (refine AllO.cons (One.ev hA tabOk ?_) ?_ <;> (first | refine AllO.pass ?_ | ((conv => lhs; cbv); done)))
          | (refine AllO.cons (One.skipB ?_) ?_ <;> (first | refine AllO.pass ?_ | ((conv => lhs; cbv); done)))
          | ((first | refine AllO.consX (One.elemM hA tabOk rfl rfl rfl rfl ?_ ?_) rfl rfl ?_ | refine AllO.consX (One.concatM hA rfl rfl rfl ?_) rfl rfl ?_ | refine AllO.consX (One.lenOwnM hA tabOk rfl rfl rfl rfl) rfl rfl ?_ | refine AllO.consX (One.elemOwnM hA tabOk rfl rfl rfl rfl rfl ?_ ?_) rfl rfl ?_ | refine AllO.consX (One.loadRatM hA tabOk rfl rfl rfl rfl rfl rfl ?_) rfl rfl ?_) <;> (first | refine AllO.pass ?_ | (((try simp only [zn]) <;> (try simp (disch := omega) only [zz hA, zb, zy, reduceCtorEq, Bool.false_eq_true, Int.reduceLT, Int.reduceLE, Int.reduceNeg]) <;> (try simp only [zw])) <;> omega))))
      | refine Thn.exit ?_
      | refine Blk.here ?_
      | refine Blk.other (by decide) ?_
      | refine ⟨.inl rfl, _, RetOk.ev tabOk (by conv => lhs; cbv), ?_⟩
      | fail)
    exact (rPV_own rfl).trans rfl
end Go.Proofs.Ytgemcogfpkolfaa.Aw
