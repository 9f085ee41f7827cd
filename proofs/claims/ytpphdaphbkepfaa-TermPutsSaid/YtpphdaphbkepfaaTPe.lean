/- Texts of the proof, put together: the abstract walk, contracts of the functions that the statement reaches, plain laws, part 5 of 6. -/
import Derived.Test.YtpphdaphbkepfaaTPd
/- Contracts of package term and of the document's answer, part 4: May, Put. -/
set_option linter.unusedVariables false
set_option linter.unusedSimpArgs false
namespace Go.Proofs.Ytpphdaphbkepfaa.Aw
open Go Go.RowKit
set_option maxRecDepth 10000
attribute [local irreducible] AWp AOL QS One AOLg QSg NX QX TRg TX AllO Fin3
noncomputable def putTe (l : List Sg) (K : List (List Int)) (k s p : Int) (a : List Int) (lim : Int) : Int := if mayM l K.length k s p a = true then (if keyT k s p a ∉ K ∧ lim ≤ K.length then 7 else 0) else 1
noncomputable def putTK (l : List Sg) (K : List (List Int)) (k s p : Int) (a : List Int) (lim : Int) : List (List Int) := if putTe l K k s p a lim = 0 then putK K (keyT k s p a) else K
noncomputable def putTi (l : List Sg) (K : List (List Int)) (k s p : Int) (a : List Int) (lim : Int) : Int := if putTe l K k s p a lim = 0 then (K.idxOf (keyT k s p a) : Nat) else 0
/-- Constructors whose texts are short enough to be counted. -/
def FitG (l : List Sg) : Prop := ∀ x ∈ l, (sgN x).size ≤ 1000000000000000 ∧ (sgA x).size ≤ 1000000000000000
variable {A : Ar} (hA : A = real)
include hA
theorem tMay_c (l : List Sg) (K : List (List Int)) (S : List Int) (k s p : Int) (a : List Int) (ha : a.length ≤ 1000000) (hl : l.length ≤ 1000000) (hsz : FitG l) : PureCalls Try.prog 32 [slP A 2 (encG A) l, keyedPV A K S, tmP A k s p a] (BP (hid A (mayM l K.length k s p a))) := by
  refine PureCalls.of Try.func32 rfl (by kernel_rfl) rfl ?_
  try first | refine AOLg.of [] ?_ | refine QSg.of [] ?_
  repeat' (first
    | (refine AWp.pass ?_; first
        | refine AWp.seq ?_
        | refine AWp.block ?_
        | refine AWp.skip ?_
        | refine AWp.regG [] (by conv => lhs; cbv) ?_
        | refine AWp.cond_t rfl ?_
        | refine AWp.cond_f rfl ?_
        | (refine AWp.cond rfl ?_ ?_ <;> intro hc <;> (try rw [hc]) <;> ((try simp only [zn] at hc) <;> (try simp (disch := omega) only [zz hA, zb, zy, reduceCtorEq, Bool.false_eq_true, Int.reduceLT, Int.reduceLE, Int.reduceNeg] at hc) <;> (try simp only [zw] at hc)) <;> (try (exfalso; omega)))
        | refine AWp.exit ?_
        | refine AWp.ret ⟨.inr rfl, _, RetOk.ev tabOk (by conv => lhs; cbv), ?_⟩)
    | (refine AOLg.pass ?_; refine AOLg.nx hA tabOk (by conv => lhs; cbv) ?_; first
        | refine NX.done ?_
        | refine NX.gt ?_
        | refine NX.gf ?_
        | (refine NX.gs ?_ ?_ <;> intro hc <;> rw [hc] <;> ((try simp only [zn] at hc) <;> (try simp (disch := omega) only [zz hA, zb, zy, reduceCtorEq, Bool.false_eq_true, Int.reduceLT, Int.reduceLE, Int.reduceNeg] at hc) <;> (try simp only [zw] at hc)) <;> (try (exfalso; omega)))
        | (refine NX.kC ?_; first | (with_reducible refine NX.call (tmay_c hA l _ _ _ _ _ ha hl hsz) ?_) | ((first | refine NX.call (tmay_c hA l _ _ _ _ _ ha hl hsz) ?_)) | fail)
        | (refine NX.kO ?_; (first | refine NX.callO (tmay_c hA l _ _ _ _ _ ha hl hsz) (by simp [allEq]) rfl ?_))
        | ((first | (refine NX.k 10 ?_; first | refine NX.one (One.lenOwnM hA tabOk rfl rfl rfl rfl) ?_) | (refine NX.k 14 ?_; first | refine NX.one (One.loadRatM hA tabOk rfl rfl rfl rfl rfl rfl ?_) ?_) | (refine NX.k 18 ?_; first | refine NX.one (One.fieldRat tabOk rfl rfl rfl rfl (by decide) rfl rfl) ?_)) <;> (first | refine AOLg.pass ?_ | (((try simp only [zn]) <;> (try simp (disch := omega) only [zz hA, zb, zy, reduceCtorEq, Bool.false_eq_true, Int.reduceLT, Int.reduceLE, Int.reduceNeg]) <;> (try simp only [zw])) <;> omega)))
        | refine NX.raw ?_)
    | refine Thn.exit ?_
    | refine Blk.here ?_
    | refine Blk.other (by decide) ?_
    | refine ⟨.inl rfl, _, RetOk.ev tabOk (by conv => lhs; cbv), ?_⟩
    | fail)
  refine rPV_then (by conv => lhs; cbv) ?_
  simp [hA, real, hid]
theorem rMay_c (l : List Sg) (K : List (List Int)) (S : List Int) (k s p : Int) (a : List Int) (ha : a.length ≤ 1000000) (hl : l.length ≤ 1000000) (hsz : FitG l) : PureCalls Try.prog 49 [slP A 2 (encG A) l, keyedPV A K S, tmP A k s p a] (BP (hid A (mayM l K.length k s p a))) := by
  refine PureCalls.of Try.func49 rfl (by kernel_rfl) rfl ?_
  try first | refine AOLg.of [] ?_ | refine QSg.of [] ?_
  repeat' (first
    | (refine AWp.pass ?_; first
        | refine AWp.seq ?_
        | refine AWp.block ?_
        | refine AWp.skip ?_
        | refine AWp.regG [] (by conv => lhs; cbv) ?_
        | refine AWp.cond_t rfl ?_
        | refine AWp.cond_f rfl ?_
        | (refine AWp.cond rfl ?_ ?_ <;> intro hc <;> (try rw [hc]) <;> ((try simp only [zn] at hc) <;> (try simp (disch := omega) only [zz hA, zb, zy, reduceCtorEq, Bool.false_eq_true, Int.reduceLT, Int.reduceLE, Int.reduceNeg] at hc) <;> (try simp only [zw] at hc)) <;> (try (exfalso; omega)))
        | refine AWp.exit ?_
        | refine AWp.ret ⟨.inr rfl, _, RetOk.ev tabOk (by conv => lhs; cbv), ?_⟩)
    | (refine AOLg.pass ?_; refine AOLg.nx hA tabOk (by conv => lhs; cbv) ?_; first
        | refine NX.done ?_
        | refine NX.gt ?_
        | refine NX.gf ?_
        | (refine NX.gs ?_ ?_ <;> intro hc <;> rw [hc] <;> ((try simp only [zn] at hc) <;> (try simp (disch := omega) only [zz hA, zb, zy, reduceCtorEq, Bool.false_eq_true, Int.reduceLT, Int.reduceLE, Int.reduceNeg] at hc) <;> (try simp only [zw] at hc)) <;> (try (exfalso; omega)))
        | (refine NX.kC ?_; first | (with_reducible refine NX.call (refMay_c hA l _ _ _ _ _ ha hl hsz) ?_) | ((first | refine NX.call (refMay_c hA l _ _ _ _ _ ha hl hsz) ?_)) | fail)
        | (refine NX.kO ?_; (first | refine NX.callO (refMay_c hA l _ _ _ _ _ ha hl hsz) (by simp [allEq]) rfl ?_))
        | ((first | (refine NX.k 10 ?_; first | refine NX.one (One.lenOwnM hA tabOk rfl rfl rfl rfl) ?_) | (refine NX.k 14 ?_; first | refine NX.one (One.loadRatM hA tabOk rfl rfl rfl rfl rfl rfl ?_) ?_) | (refine NX.k 18 ?_; first | refine NX.one (One.fieldRat tabOk rfl rfl rfl rfl (by decide) rfl rfl) ?_)) <;> (first | refine AOLg.pass ?_ | (((try simp only [zn]) <;> (try simp (disch := omega) only [zz hA, zb, zy, reduceCtorEq, Bool.false_eq_true, Int.reduceLT, Int.reduceLE, Int.reduceNeg]) <;> (try simp only [zw])) <;> omega)))
        | refine NX.raw ?_)
    | refine Thn.exit ?_
    | refine Blk.here ?_
    | refine Blk.other (by decide) ?_
    | refine ⟨.inl rfl, _, RetOk.ev tabOk (by conv => lhs; cbv), ?_⟩
    | fail)
  refine rPV_then (by conv => lhs; cbv) ?_
  simp [hA, real, hid]
set_option maxHeartbeats 4000000 in
theorem tPut_c (l : List Sg) (K : List (List Int)) (k s p : Int) (a : List Int) (lim : Int) (ha : a.length ≤ 100000) (hl : l.length ≤ 1000000) (hsz : FitG l) (hn : K.Nodup) (hK : K.length ≤ 900000) (hk : ∀ x ∈ K, x.length ≤ 1000000) :
    PureCalls Try.prog 28 [slP A 2 (encG A) l, tabPV A K, tmP A k s p a, IP lim] (.tup [tabPV A (putTK l K k s p a lim), IP (hid A (putTi l K k s p a lim)), IP (hid A (putTe l K k s p a lim))]) := by
  have hkl : (keyT k s p a).length = a.length + 3 := rfl
  have hput := put_c hA K (keyT k s p a) hn hK hk (by omega)
  have hmay := tMay_c hA l K (layM K) k s p a (by omega) hl hsz
  by_cases hm : mayM l K.length k s p a = true
  · rw [hm, hid_eq hA (α := Bool)] at hmay
    by_cases hx : keyT k s p a ∈ K
    · rw [show decide (keyT k s p a ∉ K) = false by simp [hx], hid_eq hA (α := Bool)] at hput
      have he : putTe l K k s p a lim = 0 := by unfold putTe; rw [if_pos hm, if_neg (by simp [hx])]
      refine PureCalls.of Try.func28 rfl (by kernel_rfl) rfl ?_
      try first | refine AOLg.of [] ?_ | refine QSg.of [] ?_
      repeat' (first
        | (refine AWp.pass ?_; first
            | refine AWp.seq ?_
            | refine AWp.block ?_
            | refine AWp.skip ?_
            | refine AWp.regG [] (by conv => lhs; cbv) ?_
            | refine AWp.cond_t rfl ?_
            | refine AWp.cond_f rfl ?_
            | (refine AWp.cond rfl ?_ ?_ <;> intro hc <;> (try rw [hc]) <;> ((try simp only [zn] at hc) <;> (try simp (disch := omega) only [zz hA, zb, zy, reduceCtorEq, Bool.false_eq_true, Int.reduceLT, Int.reduceLE, Int.reduceNeg] at hc) <;> (try simp only [zw] at hc)) <;> (try (exfalso; omega)))
            | refine AWp.exit ?_
            | refine AWp.ret ⟨.inr rfl, _, RetOk.ev tabOk (by conv => lhs; cbv), ?_⟩
            | refine AWp.drawVG [] rfl (by decide +kernel) (by conv => lhs; cbv) ?_)
        | (refine AOLg.pass ?_; refine AOLg.nx hA tabOk (by conv => lhs; cbv) ?_; first
            | refine NX.done ?_
            | refine NX.gt ?_
            | refine NX.gf ?_
            | (refine NX.gs ?_ ?_ <;> intro hc <;> rw [hc] <;> ((try simp only [zn] at hc) <;> (try simp (disch := omega) only [zz hA, zb, zy, reduceCtorEq, Bool.false_eq_true, Int.reduceLT, Int.reduceLE, Int.reduceNeg] at hc) <;> (try simp only [zw] at hc)) <;> (try (exfalso; omega)))
            | (refine NX.kC ?_; first | (with_reducible refine NX.call (hmay) ?_) | (with_reducible refine NX.call (key_c hA k s p a (by omega)) ?_) | (with_reducible refine NX.call (hput) ?_) | ((first | refine NX.call (hmay) ?_ | refine NX.call (key_c hA k s p a (by omega)) ?_ | refine NX.call (hput) ?_)) | fail)
            | (refine NX.kO ?_; (first | refine NX.callO (hmay) (by simp [allEq]) rfl ?_ | refine NX.callO (key_c hA k s p a (by omega)) (by simp [allEq]) rfl ?_ | refine NX.callO (hput) (by simp [allEq]) rfl ?_))
            | ((first | (refine NX.k 10 ?_; first | refine NX.one (One.lenOwnM hA tabOk rfl rfl rfl rfl) ?_) | (refine NX.k 14 ?_; first | refine NX.one (One.loadRatM hA tabOk rfl rfl rfl rfl rfl rfl ?_) ?_) | (refine NX.k 15 ?_; first | refine NX.one (One.storeRatM hA tabOk _ rfl rfl rfl rfl rfl rfl rfl rfl (fun _ => rfl) ?_) ?_) | (refine NX.k 18 ?_; first | refine NX.one (One.fieldRat tabOk rfl rfl rfl rfl (by decide) rfl rfl) ?_)) <;> (first | refine AOLg.pass ?_ | (((try simp only [zn]) <;> (try simp (disch := omega) only [zz hA, zb, zy, reduceCtorEq, Bool.false_eq_true, Int.reduceLT, Int.reduceLE, Int.reduceNeg]) <;> (try simp only [zw])) <;> omega)))
            | refine NX.raw ?_)
        | (refine TRg.pass ?_; refine TRg.nx hA tabOk (by conv => lhs; cbv) ?_; first
            | refine TX.done ?_
            | refine TX.gt ?_
            | refine TX.gf ?_
            | (refine TX.gs ?_ ?_ <;> intro hc <;> rw [hc] <;> ((try simp only [zn] at hc) <;> (try simp (disch := omega) only [zz hA, zb, zy, reduceCtorEq, Bool.false_eq_true, Int.reduceLT, Int.reduceLE, Int.reduceNeg] at hc) <;> (try simp only [zw] at hc)) <;> (try (exfalso; omega)))
            | (refine TX.kC ?_; first | (with_reducible refine TX.call (hmay) ?_) | (with_reducible refine TX.call (key_c hA k s p a (by omega)) ?_) | (with_reducible refine TX.call (hput) ?_) | ((first | refine TX.call (hmay) ?_ | refine TX.call (key_c hA k s p a (by omega)) ?_ | refine TX.call (hput) ?_)) | fail)
            | (refine TX.kO ?_; (first | refine TX.callO (hmay) (by simp [allEq]) rfl ?_ | refine TX.callO (key_c hA k s p a (by omega)) (by simp [allEq]) rfl ?_ | refine TX.callO (hput) (by simp [allEq]) rfl ?_))
            | ((first | (refine TX.k 10 ?_; first | refine TX.one (One.lenOwnM hA tabOk rfl rfl rfl rfl) ?_) | (refine TX.k 14 ?_; first | refine TX.one (One.loadRatM hA tabOk rfl rfl rfl rfl rfl rfl ?_) ?_) | (refine TX.k 15 ?_; first | refine TX.one (One.storeRatM hA tabOk _ rfl rfl rfl rfl rfl rfl rfl rfl (fun _ => rfl) ?_) ?_) | (refine TX.k 18 ?_; first | refine TX.one (One.fieldRat tabOk rfl rfl rfl rfl (by decide) rfl rfl) ?_)) <;> (first | refine TRg.pass ?_ | (((try simp only [zn]) <;> (try simp (disch := omega) only [zz hA, zb, zy, reduceCtorEq, Bool.false_eq_true, Int.reduceLT, Int.reduceLE, Int.reduceNeg]) <;> (try simp only [zw])) <;> omega)))
            | refine TX.raw ?_)
        | refine Fin3.of (by conv => lhs; cbv) (by repeat' (first | exact True.intro | exact rfl | refine And.intro ?_ ?_)) ?_ ?_
        | (refine AllO.pass ?_; first
            | exact AllO.nil
            | (refine AllO.cons (One.ev hA tabOk ?_) ?_ <;> (first | refine AllO.pass ?_ | ((conv => lhs; cbv); done)))
            | (refine AllO.cons (One.skipB ?_) ?_ <;> (first | refine AllO.pass ?_ | ((conv => lhs; cbv); done)))
            | ((with_reducible refine AllO.call (by conv => lhs; cbv) (hmay) ?_ ?_) <;> (first | refine AllO.pass ?_ | exact rfl | (((try simp only [zn]) <;> (try simp (disch := omega) only [zz hA, zb, zy, reduceCtorEq, Bool.false_eq_true, Int.reduceLT, Int.reduceLE, Int.reduceNeg]) <;> (try simp only [zw])) <;> omega)))
            | ((with_reducible refine AllO.call (by conv => lhs; cbv) (key_c hA k s p a (by omega)) ?_ ?_) <;> (first | refine AllO.pass ?_ | exact rfl | (((try simp only [zn]) <;> (try simp (disch := omega) only [zz hA, zb, zy, reduceCtorEq, Bool.false_eq_true, Int.reduceLT, Int.reduceLE, Int.reduceNeg]) <;> (try simp only [zw])) <;> omega)))
            | ((with_reducible refine AllO.call (by conv => lhs; cbv) (hput) ?_ ?_) <;> (first | refine AllO.pass ?_ | exact rfl | (((try simp only [zn]) <;> (try simp (disch := omega) only [zz hA, zb, zy, reduceCtorEq, Bool.false_eq_true, Int.reduceLT, Int.reduceLE, Int.reduceNeg]) <;> (try simp only [zw])) <;> omega)))
            | ((first | refine AllO.consX (One.lenOwnM hA tabOk rfl rfl rfl rfl) rfl rfl ?_ | refine AllO.consX (One.loadRatM hA tabOk rfl rfl rfl rfl rfl rfl ?_) rfl rfl ?_) <;> (first | refine AllO.pass ?_ | (((try simp only [zn]) <;> (try simp (disch := omega) only [zz hA, zb, zy, reduceCtorEq, Bool.false_eq_true, Int.reduceLT, Int.reduceLE, Int.reduceNeg]) <;> (try simp only [zw])) <;> omega))))
        | refine Thn.exit ?_
        | refine Blk.here ?_
        | refine Blk.other (by decide) ?_
        | refine ⟨.inl rfl, _, RetOk.ev tabOk (by conv => lhs; cbv), ?_⟩
        | fail)
      refine rPV_then (by conv => lhs; cbv) ?_
      simp only [putTK, putTi, he, if_true]
      simp [hA, real, hid, cN]
    · rw [show decide (keyT k s p a ∉ K) = true by simp [hx], hid_eq hA (α := Bool)] at hput
      refine PureCalls.of Try.func28 rfl (by kernel_rfl) rfl ?_
      try first | refine AOLg.of [] ?_ | refine QSg.of [] ?_
      repeat' (first
        | (refine AWp.pass ?_; first
            | refine AWp.seq ?_
            | refine AWp.block ?_
            | refine AWp.skip ?_
            | refine AWp.regG [] (by conv => lhs; cbv) ?_
            | refine AWp.cond_t rfl ?_
            | refine AWp.cond_f rfl ?_
            | (refine AWp.cond rfl ?_ ?_ <;> intro hc <;> (try rw [hc]) <;> ((try simp only [zn] at hc) <;> (try simp (disch := omega) only [zz hA, zb, zy, reduceCtorEq, Bool.false_eq_true, Int.reduceLT, Int.reduceLE, Int.reduceNeg] at hc) <;> (try simp only [zw] at hc)) <;> (try (exfalso; omega)))
            | refine AWp.exit ?_
            | refine AWp.ret ⟨.inr rfl, _, RetOk.ev tabOk (by conv => lhs; cbv), ?_⟩
            | refine AWp.drawVG [] rfl (by decide +kernel) (by conv => lhs; cbv) ?_)
        | (refine AOLg.pass ?_; refine AOLg.nx hA tabOk (by conv => lhs; cbv) ?_; first
            | refine NX.done ?_
            | refine NX.gt ?_
            | refine NX.gf ?_
            | (refine NX.gs ?_ ?_ <;> intro hc <;> rw [hc] <;> ((try simp only [zn] at hc) <;> (try simp (disch := omega) only [zz hA, zb, zy, reduceCtorEq, Bool.false_eq_true, Int.reduceLT, Int.reduceLE, Int.reduceNeg] at hc) <;> (try simp only [zw] at hc)) <;> (try (exfalso; omega)))
            | (refine NX.kC ?_; first | (with_reducible refine NX.call (hmay) ?_) | (with_reducible refine NX.call (key_c hA k s p a (by omega)) ?_) | (with_reducible refine NX.call (hput) ?_) | ((first | refine NX.call (hmay) ?_ | refine NX.call (key_c hA k s p a (by omega)) ?_ | refine NX.call (hput) ?_)) | fail)
            | (refine NX.kO ?_; (first | refine NX.callO (hmay) (by simp [allEq]) rfl ?_ | refine NX.callO (key_c hA k s p a (by omega)) (by simp [allEq]) rfl ?_ | refine NX.callO (hput) (by simp [allEq]) rfl ?_))
            | ((first | (refine NX.k 10 ?_; first | refine NX.one (One.lenOwnM hA tabOk rfl rfl rfl rfl) ?_) | (refine NX.k 14 ?_; first | refine NX.one (One.loadRatM hA tabOk rfl rfl rfl rfl rfl rfl ?_) ?_) | (refine NX.k 15 ?_; first | refine NX.one (One.storeRatM hA tabOk _ rfl rfl rfl rfl rfl rfl rfl rfl (fun _ => rfl) ?_) ?_) | (refine NX.k 18 ?_; first | refine NX.one (One.fieldRat tabOk rfl rfl rfl rfl (by decide) rfl rfl) ?_)) <;> (first | refine AOLg.pass ?_ | (((try simp only [zn]) <;> (try simp (disch := omega) only [zz hA, zb, zy, reduceCtorEq, Bool.false_eq_true, Int.reduceLT, Int.reduceLE, Int.reduceNeg]) <;> (try simp only [zw])) <;> omega)))
            | refine NX.raw ?_)
        | (refine TRg.pass ?_; refine TRg.nx hA tabOk (by conv => lhs; cbv) ?_; first
            | refine TX.done ?_
            | refine TX.gt ?_
            | refine TX.gf ?_
            | (refine TX.gs ?_ ?_ <;> intro hc <;> rw [hc] <;> ((try simp only [zn] at hc) <;> (try simp (disch := omega) only [zz hA, zb, zy, reduceCtorEq, Bool.false_eq_true, Int.reduceLT, Int.reduceLE, Int.reduceNeg] at hc) <;> (try simp only [zw] at hc)) <;> (try (exfalso; omega)))
            | (refine TX.kC ?_; first | (with_reducible refine TX.call (hmay) ?_) | (with_reducible refine TX.call (key_c hA k s p a (by omega)) ?_) | (with_reducible refine TX.call (hput) ?_) | ((first | refine TX.call (hmay) ?_ | refine TX.call (key_c hA k s p a (by omega)) ?_ | refine TX.call (hput) ?_)) | fail)
            | (refine TX.kO ?_; (first | refine TX.callO (hmay) (by simp [allEq]) rfl ?_ | refine TX.callO (key_c hA k s p a (by omega)) (by simp [allEq]) rfl ?_ | refine TX.callO (hput) (by simp [allEq]) rfl ?_))
            | ((first | (refine TX.k 10 ?_; first | refine TX.one (One.lenOwnM hA tabOk rfl rfl rfl rfl) ?_) | (refine TX.k 14 ?_; first | refine TX.one (One.loadRatM hA tabOk rfl rfl rfl rfl rfl rfl ?_) ?_) | (refine TX.k 15 ?_; first | refine TX.one (One.storeRatM hA tabOk _ rfl rfl rfl rfl rfl rfl rfl rfl (fun _ => rfl) ?_) ?_) | (refine TX.k 18 ?_; first | refine TX.one (One.fieldRat tabOk rfl rfl rfl rfl (by decide) rfl rfl) ?_)) <;> (first | refine TRg.pass ?_ | (((try simp only [zn]) <;> (try simp (disch := omega) only [zz hA, zb, zy, reduceCtorEq, Bool.false_eq_true, Int.reduceLT, Int.reduceLE, Int.reduceNeg]) <;> (try simp only [zw])) <;> omega)))
            | refine TX.raw ?_)
        | refine Fin3.of (by conv => lhs; cbv) (by repeat' (first | exact True.intro | exact rfl | refine And.intro ?_ ?_)) ?_ ?_
        | (refine AllO.pass ?_; first
            | exact AllO.nil
            | (refine AllO.cons (One.ev hA tabOk ?_) ?_ <;> (first | refine AllO.pass ?_ | ((conv => lhs; cbv); done)))
            | (refine AllO.cons (One.skipB ?_) ?_ <;> (first | refine AllO.pass ?_ | ((conv => lhs; cbv); done)))
            | ((with_reducible refine AllO.call (by conv => lhs; cbv) (hmay) ?_ ?_) <;> (first | refine AllO.pass ?_ | exact rfl | (((try simp only [zn]) <;> (try simp (disch := omega) only [zz hA, zb, zy, reduceCtorEq, Bool.false_eq_true, Int.reduceLT, Int.reduceLE, Int.reduceNeg]) <;> (try simp only [zw])) <;> omega)))
            | ((with_reducible refine AllO.call (by conv => lhs; cbv) (key_c hA k s p a (by omega)) ?_ ?_) <;> (first | refine AllO.pass ?_ | exact rfl | (((try simp only [zn]) <;> (try simp (disch := omega) only [zz hA, zb, zy, reduceCtorEq, Bool.false_eq_true, Int.reduceLT, Int.reduceLE, Int.reduceNeg]) <;> (try simp only [zw])) <;> omega)))
            | ((with_reducible refine AllO.call (by conv => lhs; cbv) (hput) ?_ ?_) <;> (first | refine AllO.pass ?_ | exact rfl | (((try simp only [zn]) <;> (try simp (disch := omega) only [zz hA, zb, zy, reduceCtorEq, Bool.false_eq_true, Int.reduceLT, Int.reduceLE, Int.reduceNeg]) <;> (try simp only [zw])) <;> omega)))
            | ((first | refine AllO.consX (One.lenOwnM hA tabOk rfl rfl rfl rfl) rfl rfl ?_ | refine AllO.consX (One.loadRatM hA tabOk rfl rfl rfl rfl rfl rfl ?_) rfl rfl ?_) <;> (first | refine AllO.pass ?_ | (((try simp only [zn]) <;> (try simp (disch := omega) only [zz hA, zb, zy, reduceCtorEq, Bool.false_eq_true, Int.reduceLT, Int.reduceLE, Int.reduceNeg]) <;> (try simp only [zw])) <;> omega))))
        | refine Thn.exit ?_
        | refine Blk.here ?_
        | refine Blk.other (by decide) ?_
        | refine ⟨.inl rfl, _, RetOk.ev tabOk (by conv => lhs; cbv), ?_⟩
        | fail)
      · have he : putTe l K k s p a lim = 7 := by unfold putTe; rw [if_pos hm, if_pos ⟨hx, by omega⟩]
        refine rPV_then (by conv => lhs; cbv) ?_
        simp only [putTK, putTi, he]
        simp [hA, real, hid, cN]
      · have he : putTe l K k s p a lim = 0 := by unfold putTe; rw [if_pos hm, if_neg (by intro h; omega)]
        refine rPV_then (by conv => lhs; cbv) ?_
        simp only [putTK, putTi, he, if_true]
        simp [hA, real, hid, cN]
  · have hm' : mayM l K.length k s p a = false := by simpa using hm
    rw [hm', hid_eq hA (α := Bool)] at hmay
    have he : putTe l K k s p a lim = 1 := by unfold putTe; rw [if_neg hm]
    refine PureCalls.of Try.func28 rfl (by kernel_rfl) rfl ?_
    try first | refine AOLg.of [] ?_ | refine QSg.of [] ?_
    repeat' (first
      | (refine AWp.pass ?_; first
          | refine AWp.seq ?_
          | refine AWp.block ?_
          | refine AWp.skip ?_
          | refine AWp.regG [] (by conv => lhs; cbv) ?_
          | refine AWp.cond_t rfl ?_
          | refine AWp.cond_f rfl ?_
          | (refine AWp.cond rfl ?_ ?_ <;> intro hc <;> (try rw [hc]) <;> ((try simp only [zn] at hc) <;> (try simp (disch := omega) only [zz hA, zb, zy, reduceCtorEq, Bool.false_eq_true, Int.reduceLT, Int.reduceLE, Int.reduceNeg] at hc) <;> (try simp only [zw] at hc)) <;> (try (exfalso; omega)))
          | refine AWp.exit ?_
          | refine AWp.ret ⟨.inr rfl, _, RetOk.ev tabOk (by conv => lhs; cbv), ?_⟩
          | refine AWp.drawVG [] rfl (by decide +kernel) (by conv => lhs; cbv) ?_)
      | (refine AOLg.pass ?_; refine AOLg.nx hA tabOk (by conv => lhs; cbv) ?_; first
          | refine NX.done ?_
          | refine NX.gt ?_
          | refine NX.gf ?_
          | (refine NX.gs ?_ ?_ <;> intro hc <;> rw [hc] <;> ((try simp only [zn] at hc) <;> (try simp (disch := omega) only [zz hA, zb, zy, reduceCtorEq, Bool.false_eq_true, Int.reduceLT, Int.reduceLE, Int.reduceNeg] at hc) <;> (try simp only [zw] at hc)) <;> (try (exfalso; omega)))
          | (refine NX.kC ?_; first | (with_reducible refine NX.call (hmay) ?_) | ((first | refine NX.call (hmay) ?_)) | fail)
          | (refine NX.kO ?_; (first | refine NX.callO (hmay) (by simp [allEq]) rfl ?_))
          | ((first | (refine NX.k 10 ?_; first | refine NX.one (One.lenOwnM hA tabOk rfl rfl rfl rfl) ?_) | (refine NX.k 14 ?_; first | refine NX.one (One.loadRatM hA tabOk rfl rfl rfl rfl rfl rfl ?_) ?_) | (refine NX.k 15 ?_; first | refine NX.one (One.storeRatM hA tabOk _ rfl rfl rfl rfl rfl rfl rfl rfl (fun _ => rfl) ?_) ?_) | (refine NX.k 18 ?_; first | refine NX.one (One.fieldRat tabOk rfl rfl rfl rfl (by decide) rfl rfl) ?_)) <;> (first | refine AOLg.pass ?_ | (((try simp only [zn]) <;> (try simp (disch := omega) only [zz hA, zb, zy, reduceCtorEq, Bool.false_eq_true, Int.reduceLT, Int.reduceLE, Int.reduceNeg]) <;> (try simp only [zw])) <;> omega)))
          | refine NX.raw ?_)
      | (refine TRg.pass ?_; refine TRg.nx hA tabOk (by conv => lhs; cbv) ?_; first
          | refine TX.done ?_
          | refine TX.gt ?_
          | refine TX.gf ?_
          | (refine TX.gs ?_ ?_ <;> intro hc <;> rw [hc] <;> ((try simp only [zn] at hc) <;> (try simp (disch := omega) only [zz hA, zb, zy, reduceCtorEq, Bool.false_eq_true, Int.reduceLT, Int.reduceLE, Int.reduceNeg] at hc) <;> (try simp only [zw] at hc)) <;> (try (exfalso; omega)))
          | (refine TX.kC ?_; first | (with_reducible refine TX.call (hmay) ?_) | ((first | refine TX.call (hmay) ?_)) | fail)
          | (refine TX.kO ?_; (first | refine TX.callO (hmay) (by simp [allEq]) rfl ?_))
          | ((first | (refine TX.k 10 ?_; first | refine TX.one (One.lenOwnM hA tabOk rfl rfl rfl rfl) ?_) | (refine TX.k 14 ?_; first | refine TX.one (One.loadRatM hA tabOk rfl rfl rfl rfl rfl rfl ?_) ?_) | (refine TX.k 15 ?_; first | refine TX.one (One.storeRatM hA tabOk _ rfl rfl rfl rfl rfl rfl rfl rfl (fun _ => rfl) ?_) ?_) | (refine TX.k 18 ?_; first | refine TX.one (One.fieldRat tabOk rfl rfl rfl rfl (by decide) rfl rfl) ?_)) <;> (first | refine TRg.pass ?_ | (((try simp only [zn]) <;> (try simp (disch := omega) only [zz hA, zb, zy, reduceCtorEq, Bool.false_eq_true, Int.reduceLT, Int.reduceLE, Int.reduceNeg]) <;> (try simp only [zw])) <;> omega)))
          | refine TX.raw ?_)
      | refine Fin3.of (by conv => lhs; cbv) (by repeat' (first | exact True.intro | exact rfl | refine And.intro ?_ ?_)) ?_ ?_
      | (refine AllO.pass ?_; first
          | exact AllO.nil
          | (refine AllO.cons (One.ev hA tabOk ?_) ?_ <;> (first | refine AllO.pass ?_ | ((conv => lhs; cbv); done)))
          | (refine AllO.cons (One.skipB ?_) ?_ <;> (first | refine AllO.pass ?_ | ((conv => lhs; cbv); done)))
          | ((with_reducible refine AllO.call (by conv => lhs; cbv) (hmay) ?_ ?_) <;> (first | refine AllO.pass ?_ | exact rfl | (((try simp only [zn]) <;> (try simp (disch := omega) only [zz hA, zb, zy, reduceCtorEq, Bool.false_eq_true, Int.reduceLT, Int.reduceLE, Int.reduceNeg]) <;> (try simp only [zw])) <;> omega)))
          | ((first | refine AllO.consX (One.lenOwnM hA tabOk rfl rfl rfl rfl) rfl rfl ?_ | refine AllO.consX (One.loadRatM hA tabOk rfl rfl rfl rfl rfl rfl ?_) rfl rfl ?_) <;> (first | refine AllO.pass ?_ | (((try simp only [zn]) <;> (try simp (disch := omega) only [zz hA, zb, zy, reduceCtorEq, Bool.false_eq_true, Int.reduceLT, Int.reduceLE, Int.reduceNeg]) <;> (try simp only [zw])) <;> omega))))
      | refine Thn.exit ?_
      | refine Blk.here ?_
      | refine Blk.other (by decide) ?_
      | refine ⟨.inl rfl, _, RetOk.ev tabOk (by conv => lhs; cbv), ?_⟩
      | fail)
    refine rPV_then (by conv => lhs; cbv) ?_
    simp only [putTK, putTi, he]
    simp [hA, real, hid, cN]
set_option maxHeartbeats 4000000 in
theorem rPut_c (l : List Sg) (K : List (List Int)) (k s p : Int) (a : List Int) (lim : Int) (ha : a.length ≤ 100000) (hl : l.length ≤ 1000000) (hsz : FitG l) (hn : K.Nodup) (hK : K.length ≤ 900000) (hk : ∀ x ∈ K, x.length ≤ 1000000) :
    PureCalls Try.prog 29 [slP A 2 (encG A) l, tabPV A K, tmP A k s p a, IP lim] (.tup [tabPV A (putTK l K k s p a lim), IP (hid A (putTi l K k s p a lim)), IP (hid A (putTe l K k s p a lim))]) := by
  have hkl : (keyT k s p a).length = a.length + 3 := rfl
  have hput := refPut_c hA K (keyT k s p a) (layM K) rfl hK
  have hat := refAt_c hA K (keyT k s p a)
  have hmay := rMay_c hA l K (layM K) k s p a (by omega) hl hsz
  by_cases hm : mayM l K.length k s p a = true
  · rw [hm, hid_eq hA (α := Bool)] at hmay
    by_cases hx : keyT k s p a ∈ K
    · have e1 : atM K (keyT k s p a) = (K.idxOf (keyT k s p a) : Int) := by simp [atM, hx]
      have he : putTe l K k s p a lim = 0 := by unfold putTe; rw [if_pos hm, if_neg (by simp [hx])]
      refine PureCalls.of Try.func29 rfl (by kernel_rfl) rfl ?_
      try first | refine AOLg.of [] ?_ | refine QSg.of [] ?_
      repeat' (first
        | (refine AWp.pass ?_; first
            | refine AWp.seq ?_
            | refine AWp.block ?_
            | refine AWp.skip ?_
            | refine AWp.regG [] (by conv => lhs; cbv) ?_
            | refine AWp.cond_t rfl ?_
            | refine AWp.cond_f rfl ?_
            | (refine AWp.cond rfl ?_ ?_ <;> intro hc <;> (try rw [hc]) <;> ((try simp only [zn] at hc) <;> (try simp (disch := omega) only [zz hA, zb, zy, reduceCtorEq, Bool.false_eq_true, Int.reduceLT, Int.reduceLE, Int.reduceNeg] at hc) <;> (try simp only [zw] at hc)) <;> (try (exfalso; omega)))
            | refine AWp.exit ?_
            | refine AWp.ret ⟨.inr rfl, _, RetOk.ev tabOk (by conv => lhs; cbv), ?_⟩
            | refine AWp.drawVG [] rfl (by decide +kernel) (by conv => lhs; cbv) ?_)
        | (refine AOLg.pass ?_; refine AOLg.nx hA tabOk (by conv => lhs; cbv) ?_; first
            | refine NX.done ?_
            | refine NX.gt ?_
            | refine NX.gf ?_
            | (refine NX.gs ?_ ?_ <;> intro hc <;> rw [hc] <;> ((try simp only [zn] at hc) <;> (try simp (disch := omega) only [zz hA, zb, zy, reduceCtorEq, Bool.false_eq_true, Int.reduceLT, Int.reduceLE, Int.reduceNeg] at hc) <;> (try simp only [zw] at hc)) <;> (try (exfalso; omega)))
            | (refine NX.kC ?_; first | (with_reducible refine NX.call (hmay) ?_) | (with_reducible refine NX.call (refKey_c hA k s p a (by omega)) ?_) | (with_reducible refine NX.call (hput) ?_) | (with_reducible refine NX.call (hat) ?_) | ((first | refine NX.call (hmay) ?_ | refine NX.call (refKey_c hA k s p a (by omega)) ?_ | refine NX.call (hput) ?_ | refine NX.call (hat) ?_)) | fail)
            | (refine NX.kO ?_; (first | refine NX.callO (hmay) (by simp [allEq]) rfl ?_ | refine NX.callO (refKey_c hA k s p a (by omega)) (by simp [allEq]) rfl ?_ | refine NX.callO (hput) (by simp [allEq]) rfl ?_ | refine NX.callO (hat) (by simp [allEq]) rfl ?_))
            | ((first | (refine NX.k 10 ?_; first | refine NX.one (One.lenOwnM hA tabOk rfl rfl rfl rfl) ?_) | (refine NX.k 14 ?_; first | refine NX.one (One.loadRatM hA tabOk rfl rfl rfl rfl rfl rfl ?_) ?_) | (refine NX.k 15 ?_; first | refine NX.one (One.storeRatM hA tabOk _ rfl rfl rfl rfl rfl rfl rfl rfl (fun _ => rfl) ?_) ?_) | (refine NX.k 18 ?_; first | refine NX.one (One.fieldRat tabOk rfl rfl rfl rfl (by decide) rfl rfl) ?_)) <;> (first | refine AOLg.pass ?_ | (((try simp only [zn]) <;> (try simp (disch := omega) only [zz hA, zb, zy, reduceCtorEq, Bool.false_eq_true, Int.reduceLT, Int.reduceLE, Int.reduceNeg]) <;> (try simp only [zw])) <;> omega)))
            | refine NX.raw ?_)
        | (refine TRg.pass ?_; refine TRg.nx hA tabOk (by conv => lhs; cbv) ?_; first
            | refine TX.done ?_
            | refine TX.gt ?_
            | refine TX.gf ?_
            | (refine TX.gs ?_ ?_ <;> intro hc <;> rw [hc] <;> ((try simp only [zn] at hc) <;> (try simp (disch := omega) only [zz hA, zb, zy, reduceCtorEq, Bool.false_eq_true, Int.reduceLT, Int.reduceLE, Int.reduceNeg] at hc) <;> (try simp only [zw] at hc)) <;> (try (exfalso; omega)))
            | (refine TX.kC ?_; first | (with_reducible refine TX.call (hmay) ?_) | (with_reducible refine TX.call (refKey_c hA k s p a (by omega)) ?_) | (with_reducible refine TX.call (hput) ?_) | (with_reducible refine TX.call (hat) ?_) | ((first | refine TX.call (hmay) ?_ | refine TX.call (refKey_c hA k s p a (by omega)) ?_ | refine TX.call (hput) ?_ | refine TX.call (hat) ?_)) | fail)
            | (refine TX.kO ?_; (first | refine TX.callO (hmay) (by simp [allEq]) rfl ?_ | refine TX.callO (refKey_c hA k s p a (by omega)) (by simp [allEq]) rfl ?_ | refine TX.callO (hput) (by simp [allEq]) rfl ?_ | refine TX.callO (hat) (by simp [allEq]) rfl ?_))
            | ((first | (refine TX.k 10 ?_; first | refine TX.one (One.lenOwnM hA tabOk rfl rfl rfl rfl) ?_) | (refine TX.k 14 ?_; first | refine TX.one (One.loadRatM hA tabOk rfl rfl rfl rfl rfl rfl ?_) ?_) | (refine TX.k 15 ?_; first | refine TX.one (One.storeRatM hA tabOk _ rfl rfl rfl rfl rfl rfl rfl rfl (fun _ => rfl) ?_) ?_) | (refine TX.k 18 ?_; first | refine TX.one (One.fieldRat tabOk rfl rfl rfl rfl (by decide) rfl rfl) ?_)) <;> (first | refine TRg.pass ?_ | (((try simp only [zn]) <;> (try simp (disch := omega) only [zz hA, zb, zy, reduceCtorEq, Bool.false_eq_true, Int.reduceLT, Int.reduceLE, Int.reduceNeg]) <;> (try simp only [zw])) <;> omega)))
            | refine TX.raw ?_)
        | refine Fin3.of (by conv => lhs; cbv) (by repeat' (first | exact True.intro | exact rfl | refine And.intro ?_ ?_)) ?_ ?_
        | (refine AllO.pass ?_; first
            | exact AllO.nil
            | (refine AllO.cons (One.ev hA tabOk ?_) ?_ <;> (first | refine AllO.pass ?_ | ((conv => lhs; cbv); done)))
            | (refine AllO.cons (One.skipB ?_) ?_ <;> (first | refine AllO.pass ?_ | ((conv => lhs; cbv); done)))
            | ((with_reducible refine AllO.call (by conv => lhs; cbv) (hmay) ?_ ?_) <;> (first | refine AllO.pass ?_ | exact rfl | (((try simp only [zn]) <;> (try simp (disch := omega) only [zz hA, zb, zy, reduceCtorEq, Bool.false_eq_true, Int.reduceLT, Int.reduceLE, Int.reduceNeg]) <;> (try simp only [zw])) <;> omega)))
            | ((with_reducible refine AllO.call (by conv => lhs; cbv) (refKey_c hA k s p a (by omega)) ?_ ?_) <;> (first | refine AllO.pass ?_ | exact rfl | (((try simp only [zn]) <;> (try simp (disch := omega) only [zz hA, zb, zy, reduceCtorEq, Bool.false_eq_true, Int.reduceLT, Int.reduceLE, Int.reduceNeg]) <;> (try simp only [zw])) <;> omega)))
            | ((with_reducible refine AllO.call (by conv => lhs; cbv) (hput) ?_ ?_) <;> (first | refine AllO.pass ?_ | exact rfl | (((try simp only [zn]) <;> (try simp (disch := omega) only [zz hA, zb, zy, reduceCtorEq, Bool.false_eq_true, Int.reduceLT, Int.reduceLE, Int.reduceNeg]) <;> (try simp only [zw])) <;> omega)))
            | ((with_reducible refine AllO.call (by conv => lhs; cbv) (hat) ?_ ?_) <;> (first | refine AllO.pass ?_ | exact rfl | (((try simp only [zn]) <;> (try simp (disch := omega) only [zz hA, zb, zy, reduceCtorEq, Bool.false_eq_true, Int.reduceLT, Int.reduceLE, Int.reduceNeg]) <;> (try simp only [zw])) <;> omega)))
            | ((first | refine AllO.consX (One.lenOwnM hA tabOk rfl rfl rfl rfl) rfl rfl ?_ | refine AllO.consX (One.loadRatM hA tabOk rfl rfl rfl rfl rfl rfl ?_) rfl rfl ?_) <;> (first | refine AllO.pass ?_ | (((try simp only [zn]) <;> (try simp (disch := omega) only [zz hA, zb, zy, reduceCtorEq, Bool.false_eq_true, Int.reduceLT, Int.reduceLE, Int.reduceNeg]) <;> (try simp only [zw])) <;> omega))))
        | refine Thn.exit ?_
        | refine Blk.here ?_
        | refine Blk.other (by decide) ?_
        | refine ⟨.inl rfl, _, RetOk.ev tabOk (by conv => lhs; cbv), ?_⟩
        | fail)
      refine rPV_then (by conv => lhs; cbv) ?_
      simp only [putTK, putTi, he, if_true]
      simp [hA, real, hid, cN]
    · have e1 : atM K (keyT k s p a) = -1 := atM_miss K _ hx
      refine PureCalls.of Try.func29 rfl (by kernel_rfl) rfl ?_
      try first | refine AOLg.of [] ?_ | refine QSg.of [] ?_
      repeat' (first
        | (refine AWp.pass ?_; first
            | refine AWp.seq ?_
            | refine AWp.block ?_
            | refine AWp.skip ?_
            | refine AWp.regG [] (by conv => lhs; cbv) ?_
            | refine AWp.cond_t rfl ?_
            | refine AWp.cond_f rfl ?_
            | (refine AWp.cond rfl ?_ ?_ <;> intro hc <;> (try rw [hc]) <;> ((try simp only [zn] at hc) <;> (try simp (disch := omega) only [zz hA, zb, zy, reduceCtorEq, Bool.false_eq_true, Int.reduceLT, Int.reduceLE, Int.reduceNeg] at hc) <;> (try simp only [zw] at hc)) <;> (try (exfalso; omega)))
            | refine AWp.exit ?_
            | refine AWp.ret ⟨.inr rfl, _, RetOk.ev tabOk (by conv => lhs; cbv), ?_⟩
            | refine AWp.drawVG [] rfl (by decide +kernel) (by conv => lhs; cbv) ?_)
        | (refine AOLg.pass ?_; refine AOLg.nx hA tabOk (by conv => lhs; cbv) ?_; first
            | refine NX.done ?_
            | refine NX.gt ?_
            | refine NX.gf ?_
            | (refine NX.gs ?_ ?_ <;> intro hc <;> rw [hc] <;> ((try simp only [zn] at hc) <;> (try simp (disch := omega) only [zz hA, zb, zy, reduceCtorEq, Bool.false_eq_true, Int.reduceLT, Int.reduceLE, Int.reduceNeg] at hc) <;> (try simp only [zw] at hc)) <;> (try (exfalso; omega)))
            | (refine NX.kC ?_; first | (with_reducible refine NX.call (hmay) ?_) | (with_reducible refine NX.call (refKey_c hA k s p a (by omega)) ?_) | (with_reducible refine NX.call (hput) ?_) | (with_reducible refine NX.call (hat) ?_) | ((first | refine NX.call (hmay) ?_ | refine NX.call (refKey_c hA k s p a (by omega)) ?_ | refine NX.call (hput) ?_ | refine NX.call (hat) ?_)) | fail)
            | (refine NX.kO ?_; (first | refine NX.callO (hmay) (by simp [allEq]) rfl ?_ | refine NX.callO (refKey_c hA k s p a (by omega)) (by simp [allEq]) rfl ?_ | refine NX.callO (hput) (by simp [allEq]) rfl ?_ | refine NX.callO (hat) (by simp [allEq]) rfl ?_))
            | ((first | (refine NX.k 10 ?_; first | refine NX.one (One.lenOwnM hA tabOk rfl rfl rfl rfl) ?_) | (refine NX.k 14 ?_; first | refine NX.one (One.loadRatM hA tabOk rfl rfl rfl rfl rfl rfl ?_) ?_) | (refine NX.k 15 ?_; first | refine NX.one (One.storeRatM hA tabOk _ rfl rfl rfl rfl rfl rfl rfl rfl (fun _ => rfl) ?_) ?_) | (refine NX.k 18 ?_; first | refine NX.one (One.fieldRat tabOk rfl rfl rfl rfl (by decide) rfl rfl) ?_)) <;> (first | refine AOLg.pass ?_ | (((try simp only [zn]) <;> (try simp (disch := omega) only [zz hA, zb, zy, reduceCtorEq, Bool.false_eq_true, Int.reduceLT, Int.reduceLE, Int.reduceNeg]) <;> (try simp only [zw])) <;> omega)))
            | refine NX.raw ?_)
        | (refine TRg.pass ?_; refine TRg.nx hA tabOk (by conv => lhs; cbv) ?_; first
            | refine TX.done ?_
            | refine TX.gt ?_
            | refine TX.gf ?_
            | (refine TX.gs ?_ ?_ <;> intro hc <;> rw [hc] <;> ((try simp only [zn] at hc) <;> (try simp (disch := omega) only [zz hA, zb, zy, reduceCtorEq, Bool.false_eq_true, Int.reduceLT, Int.reduceLE, Int.reduceNeg] at hc) <;> (try simp only [zw] at hc)) <;> (try (exfalso; omega)))
            | (refine TX.kC ?_; first | (with_reducible refine TX.call (hmay) ?_) | (with_reducible refine TX.call (refKey_c hA k s p a (by omega)) ?_) | (with_reducible refine TX.call (hput) ?_) | (with_reducible refine TX.call (hat) ?_) | ((first | refine TX.call (hmay) ?_ | refine TX.call (refKey_c hA k s p a (by omega)) ?_ | refine TX.call (hput) ?_ | refine TX.call (hat) ?_)) | fail)
            | (refine TX.kO ?_; (first | refine TX.callO (hmay) (by simp [allEq]) rfl ?_ | refine TX.callO (refKey_c hA k s p a (by omega)) (by simp [allEq]) rfl ?_ | refine TX.callO (hput) (by simp [allEq]) rfl ?_ | refine TX.callO (hat) (by simp [allEq]) rfl ?_))
            | ((first | (refine TX.k 10 ?_; first | refine TX.one (One.lenOwnM hA tabOk rfl rfl rfl rfl) ?_) | (refine TX.k 14 ?_; first | refine TX.one (One.loadRatM hA tabOk rfl rfl rfl rfl rfl rfl ?_) ?_) | (refine TX.k 15 ?_; first | refine TX.one (One.storeRatM hA tabOk _ rfl rfl rfl rfl rfl rfl rfl rfl (fun _ => rfl) ?_) ?_) | (refine TX.k 18 ?_; first | refine TX.one (One.fieldRat tabOk rfl rfl rfl rfl (by decide) rfl rfl) ?_)) <;> (first | refine TRg.pass ?_ | (((try simp only [zn]) <;> (try simp (disch := omega) only [zz hA, zb, zy, reduceCtorEq, Bool.false_eq_true, Int.reduceLT, Int.reduceLE, Int.reduceNeg]) <;> (try simp only [zw])) <;> omega)))
            | refine TX.raw ?_)
        | refine Fin3.of (by conv => lhs; cbv) (by repeat' (first | exact True.intro | exact rfl | refine And.intro ?_ ?_)) ?_ ?_
        | (refine AllO.pass ?_; first
            | exact AllO.nil
            | (refine AllO.cons (One.ev hA tabOk ?_) ?_ <;> (first | refine AllO.pass ?_ | ((conv => lhs; cbv); done)))
            | (refine AllO.cons (One.skipB ?_) ?_ <;> (first | refine AllO.pass ?_ | ((conv => lhs; cbv); done)))
            | ((with_reducible refine AllO.call (by conv => lhs; cbv) (hmay) ?_ ?_) <;> (first | refine AllO.pass ?_ | exact rfl | (((try simp only [zn]) <;> (try simp (disch := omega) only [zz hA, zb, zy, reduceCtorEq, Bool.false_eq_true, Int.reduceLT, Int.reduceLE, Int.reduceNeg]) <;> (try simp only [zw])) <;> omega)))
            | ((with_reducible refine AllO.call (by conv => lhs; cbv) (refKey_c hA k s p a (by omega)) ?_ ?_) <;> (first | refine AllO.pass ?_ | exact rfl | (((try simp only [zn]) <;> (try simp (disch := omega) only [zz hA, zb, zy, reduceCtorEq, Bool.false_eq_true, Int.reduceLT, Int.reduceLE, Int.reduceNeg]) <;> (try simp only [zw])) <;> omega)))
            | ((with_reducible refine AllO.call (by conv => lhs; cbv) (hput) ?_ ?_) <;> (first | refine AllO.pass ?_ | exact rfl | (((try simp only [zn]) <;> (try simp (disch := omega) only [zz hA, zb, zy, reduceCtorEq, Bool.false_eq_true, Int.reduceLT, Int.reduceLE, Int.reduceNeg]) <;> (try simp only [zw])) <;> omega)))
            | ((with_reducible refine AllO.call (by conv => lhs; cbv) (hat) ?_ ?_) <;> (first | refine AllO.pass ?_ | exact rfl | (((try simp only [zn]) <;> (try simp (disch := omega) only [zz hA, zb, zy, reduceCtorEq, Bool.false_eq_true, Int.reduceLT, Int.reduceLE, Int.reduceNeg]) <;> (try simp only [zw])) <;> omega)))
            | ((first | refine AllO.consX (One.lenOwnM hA tabOk rfl rfl rfl rfl) rfl rfl ?_ | refine AllO.consX (One.loadRatM hA tabOk rfl rfl rfl rfl rfl rfl ?_) rfl rfl ?_) <;> (first | refine AllO.pass ?_ | (((try simp only [zn]) <;> (try simp (disch := omega) only [zz hA, zb, zy, reduceCtorEq, Bool.false_eq_true, Int.reduceLT, Int.reduceLE, Int.reduceNeg]) <;> (try simp only [zw])) <;> omega))))
        | refine Thn.exit ?_
        | refine Blk.here ?_
        | refine Blk.other (by decide) ?_
        | refine ⟨.inl rfl, _, RetOk.ev tabOk (by conv => lhs; cbv), ?_⟩
        | fail)
      · have he : putTe l K k s p a lim = 7 := by unfold putTe; rw [if_pos hm, if_pos ⟨hx, by omega⟩]
        refine rPV_then (by conv => lhs; cbv) ?_
        simp only [putTK, putTi, he]
        simp [hA, real, hid, cN]
      · have he : putTe l K k s p a lim = 0 := by unfold putTe; rw [if_pos hm, if_neg (by intro h; omega)]
        refine rPV_then (by conv => lhs; cbv) ?_
        simp only [putTK, putTi, he, if_true]
        simp [hA, real, hid, cN]
  · have hm' : mayM l K.length k s p a = false := by simpa using hm
    rw [hm', hid_eq hA (α := Bool)] at hmay
    have he : putTe l K k s p a lim = 1 := by unfold putTe; rw [if_neg hm]
    refine PureCalls.of Try.func29 rfl (by kernel_rfl) rfl ?_
    try first | refine AOLg.of [] ?_ | refine QSg.of [] ?_
    repeat' (first
      | (refine AWp.pass ?_; first
          | refine AWp.seq ?_
          | refine AWp.block ?_
          | refine AWp.skip ?_
          | refine AWp.regG [] (by conv => lhs; cbv) ?_
          | refine AWp.cond_t rfl ?_
          | refine AWp.cond_f rfl ?_
          | (refine AWp.cond rfl ?_ ?_ <;> intro hc <;> (try rw [hc]) <;> ((try simp only [zn] at hc) <;> (try simp (disch := omega) only [zz hA, zb, zy, reduceCtorEq, Bool.false_eq_true, Int.reduceLT, Int.reduceLE, Int.reduceNeg] at hc) <;> (try simp only [zw] at hc)) <;> (try (exfalso; omega)))
          | refine AWp.exit ?_
          | refine AWp.ret ⟨.inr rfl, _, RetOk.ev tabOk (by conv => lhs; cbv), ?_⟩
          | refine AWp.drawVG [] rfl (by decide +kernel) (by conv => lhs; cbv) ?_)
      | (refine AOLg.pass ?_; refine AOLg.nx hA tabOk (by conv => lhs; cbv) ?_; first
          | refine NX.done ?_
          | refine NX.gt ?_
          | refine NX.gf ?_
          | (refine NX.gs ?_ ?_ <;> intro hc <;> rw [hc] <;> ((try simp only [zn] at hc) <;> (try simp (disch := omega) only [zz hA, zb, zy, reduceCtorEq, Bool.false_eq_true, Int.reduceLT, Int.reduceLE, Int.reduceNeg] at hc) <;> (try simp only [zw] at hc)) <;> (try (exfalso; omega)))
          | (refine NX.kC ?_; first | (with_reducible refine NX.call (hmay) ?_) | ((first | refine NX.call (hmay) ?_)) | fail)
          | (refine NX.kO ?_; (first | refine NX.callO (hmay) (by simp [allEq]) rfl ?_))
          | ((first | (refine NX.k 10 ?_; first | refine NX.one (One.lenOwnM hA tabOk rfl rfl rfl rfl) ?_) | (refine NX.k 14 ?_; first | refine NX.one (One.loadRatM hA tabOk rfl rfl rfl rfl rfl rfl ?_) ?_) | (refine NX.k 15 ?_; first | refine NX.one (One.storeRatM hA tabOk _ rfl rfl rfl rfl rfl rfl rfl rfl (fun _ => rfl) ?_) ?_) | (refine NX.k 18 ?_; first | refine NX.one (One.fieldRat tabOk rfl rfl rfl rfl (by decide) rfl rfl) ?_)) <;> (first | refine AOLg.pass ?_ | (((try simp only [zn]) <;> (try simp (disch := omega) only [zz hA, zb, zy, reduceCtorEq, Bool.false_eq_true, Int.reduceLT, Int.reduceLE, Int.reduceNeg]) <;> (try simp only [zw])) <;> omega)))
          | refine NX.raw ?_)
      | (refine TRg.pass ?_; refine TRg.nx hA tabOk (by conv => lhs; cbv) ?_; first
          | refine TX.done ?_
          | refine TX.gt ?_
          | refine TX.gf ?_
          | (refine TX.gs ?_ ?_ <;> intro hc <;> rw [hc] <;> ((try simp only [zn] at hc) <;> (try simp (disch := omega) only [zz hA, zb, zy, reduceCtorEq, Bool.false_eq_true, Int.reduceLT, Int.reduceLE, Int.reduceNeg] at hc) <;> (try simp only [zw] at hc)) <;> (try (exfalso; omega)))
          | (refine TX.kC ?_; first | (with_reducible refine TX.call (hmay) ?_) | ((first | refine TX.call (hmay) ?_)) | fail)
          | (refine TX.kO ?_; (first | refine TX.callO (hmay) (by simp [allEq]) rfl ?_))
          | ((first | (refine TX.k 10 ?_; first | refine TX.one (One.lenOwnM hA tabOk rfl rfl rfl rfl) ?_) | (refine TX.k 14 ?_; first | refine TX.one (One.loadRatM hA tabOk rfl rfl rfl rfl rfl rfl ?_) ?_) | (refine TX.k 15 ?_; first | refine TX.one (One.storeRatM hA tabOk _ rfl rfl rfl rfl rfl rfl rfl rfl (fun _ => rfl) ?_) ?_) | (refine TX.k 18 ?_; first | refine TX.one (One.fieldRat tabOk rfl rfl rfl rfl (by decide) rfl rfl) ?_)) <;> (first | refine TRg.pass ?_ | (((try simp only [zn]) <;> (try simp (disch := omega) only [zz hA, zb, zy, reduceCtorEq, Bool.false_eq_true, Int.reduceLT, Int.reduceLE, Int.reduceNeg]) <;> (try simp only [zw])) <;> omega)))
          | refine TX.raw ?_)
      | refine Fin3.of (by conv => lhs; cbv) (by repeat' (first | exact True.intro | exact rfl | refine And.intro ?_ ?_)) ?_ ?_
      | (refine AllO.pass ?_; first
          | exact AllO.nil
          | (refine AllO.cons (One.ev hA tabOk ?_) ?_ <;> (first | refine AllO.pass ?_ | ((conv => lhs; cbv); done)))
          | (refine AllO.cons (One.skipB ?_) ?_ <;> (first | refine AllO.pass ?_ | ((conv => lhs; cbv); done)))
          | ((with_reducible refine AllO.call (by conv => lhs; cbv) (hmay) ?_ ?_) <;> (first | refine AllO.pass ?_ | exact rfl | (((try simp only [zn]) <;> (try simp (disch := omega) only [zz hA, zb, zy, reduceCtorEq, Bool.false_eq_true, Int.reduceLT, Int.reduceLE, Int.reduceNeg]) <;> (try simp only [zw])) <;> omega)))
          | ((first | refine AllO.consX (One.lenOwnM hA tabOk rfl rfl rfl rfl) rfl rfl ?_ | refine AllO.consX (One.loadRatM hA tabOk rfl rfl rfl rfl rfl rfl ?_) rfl rfl ?_) <;> (first | refine AllO.pass ?_ | (((try simp only [zn]) <;> (try simp (disch := omega) only [zz hA, zb, zy, reduceCtorEq, Bool.false_eq_true, Int.reduceLT, Int.reduceLE, Int.reduceNeg]) <;> (try simp only [zw])) <;> omega))))
      | refine Thn.exit ?_
      | refine Blk.here ?_
      | refine Blk.other (by decide) ?_
      | refine ⟨.inl rfl, _, RetOk.ev tabOk (by conv => lhs; cbv), ?_⟩
      | fail)
    refine rPV_then (by conv => lhs; cbv) ?_
    simp only [putTK, putTi, he]
    simp [hA, real, hid, cN]
end Go.Proofs.Ytpphdaphbkepfaa.Aw

/- Contracts of package term and of the document's answer, part 5: which tables are stores. -/
set_option linter.unusedVariables false
set_option linter.unusedSimpArgs false
namespace Go.Proofs.Ytpphdaphbkepfaa.Aw
open Go Go.RowKit
set_option maxRecDepth 10000
attribute [local irreducible] AWp AOL QS One AOLg QSg NX QX TRg TX AllO Fin3
noncomputable def keyOk (l : List Sg) (id : Nat) (q : List Int) : Bool := (decide (3 ≤ q.length) && mayM l id (q.getD 0 default) (q.getD 1 default) (q.getD 2 default) (q.drop 3)) && (decide (2 ≤ id) || decide (q.getD 0 default = id))
noncomputable def rightT (l : List Sg) (K : List (List Int)) (S : List Int) : Bool := (decide (K.Nodup ∧ S = layM K) && decide (2 ≤ K.length)) && allB K.length fun i => keyOk l i (K.getD i default)
theorem key_eta {q : List Int} (h : 3 ≤ q.length) : q = keyT (q.getD 0 default) (q.getD 1 default) (q.getD 2 default) (q.drop 3) := by
  match q, h with
  | a :: b :: c :: r, _ => rfl
theorem key_ex {q : List Int} (h : 3 ≤ q.length) : ∃ k s p a, q = keyT k s p a := ⟨_, _, _, _, key_eta h⟩
theorem keyOk_T (l : List Sg) (id : Nat) (k s p : Int) (a : List Int) : keyOk l id (keyT k s p a) = (mayM l id k s p a && (decide (2 ≤ id) || decide (k = id))) := by
  unfold keyOk
  rw [decide_eq_true (p := 3 ≤ (keyT k s p a).length) (by simp [keyT])]
  rfl
variable {A : Ar} (hA : A = real)
include hA
theorem refOf_c2 (K : List (List Int)) (S : List Int) (id : Nat) (hi : id < K.length) (hk : (K.getD id default).length < 3) : ∀ z : Int, z = id → PureCalls Try.prog 52 [keyedPV A K S, IP z] (.tup [.agg [.lit (.int .i64 0), .lit (.int .i64 0), .lit (.int .i64 0), .sl 0 true []], BP false]) := by
  intro z hz
  have hzn : z.toNat = id := by omega
  rw [← hzn] at hk
  refine PureCalls.of Try.func52 rfl (by kernel_rfl) rfl ?_
  try first | refine AOLg.of [] ?_ | refine QSg.of [] ?_
  repeat' (first
    | (refine AWp.pass ?_; first
        | refine AWp.seq ?_
        | refine AWp.block ?_
        | refine AWp.skip ?_
        | refine AWp.regG [] (by conv => lhs; cbv) ?_
        | refine AWp.cond_t rfl ?_
        | refine AWp.cond_f rfl ?_
        | (refine AWp.cond rfl ?_ ?_ <;> intro hc <;> (try rw [hc]) <;> ((try simp only [zn] at hc) <;> (try simp (disch := omega) only [zz hA, zb, zy, reduceCtorEq, Bool.false_eq_true, Int.reduceLT, Int.reduceLE, Int.reduceNeg] at hc) <;> (try simp only [zw] at hc)) <;> (try (exfalso; omega)))
        | refine AWp.exit ?_
        | refine AWp.ret ⟨.inr rfl, _, RetOk.ev tabOk (by conv => lhs; cbv), ?_⟩
        | refine AWp.drawVG [] rfl (by decide +kernel) (by conv => lhs; cbv) ?_)
    | (refine AOLg.pass ?_; refine AOLg.nx hA tabOk (by conv => lhs; cbv) ?_; first
        | refine NX.done ?_
        | refine NX.gt ?_
        | refine NX.gf ?_
        | (refine NX.gs ?_ ?_ <;> intro hc <;> rw [hc] <;> ((try simp only [zn] at hc) <;> (try simp (disch := omega) only [zz hA, zb, zy, reduceCtorEq, Bool.false_eq_true, Int.reduceLT, Int.reduceLE, Int.reduceNeg] at hc) <;> (try simp only [zw] at hc)) <;> (try (exfalso; omega)))
        | ((first | (refine NX.k 1 ?_; first | refine NX.one (One.elemM hA tabOk rfl rfl rfl rfl ?_ ?_) ?_ | refine NX.one (One.elemOwnM hA tabOk rfl rfl rfl rfl rfl ?_ ?_) ?_) | (refine NX.k 2 ?_; first | refine NX.one (One.clipM tabOk rfl rfl rfl rfl rfl ?_ ?_) ?_ | refine NX.one (One.cut_hM hA tabOk rfl rfl rfl rfl ?_ ?_) ?_ | refine NX.one (One.cut_lM hA tabOk rfl rfl rfl rfl ?_ ?_) ?_ | refine NX.one (One.cut_lhM hA tabOk rfl rfl rfl rfl rfl ?_ ?_ ?_) ?_) | (refine NX.k 10 ?_; first | refine NX.one (One.lenOwnM hA tabOk rfl rfl rfl rfl) ?_) | (refine NX.k 14 ?_; first | refine NX.one (One.loadRatM hA tabOk rfl rfl rfl rfl rfl rfl ?_) ?_) | (refine NX.k 15 ?_; first | refine NX.one (One.storeRatM hA tabOk _ rfl rfl rfl rfl rfl rfl rfl rfl (fun _ => rfl) ?_) ?_) | (refine NX.k 18 ?_; first | refine NX.one (One.fieldRat tabOk rfl rfl rfl rfl (by decide) rfl rfl) ?_)) <;> (first | refine AOLg.pass ?_ | (((try simp only [zn]) <;> (try simp (disch := omega) only [zz hA, zb, zy, reduceCtorEq, Bool.false_eq_true, Int.reduceLT, Int.reduceLE, Int.reduceNeg]) <;> (try simp only [zw])) <;> omega)))
        | refine NX.raw ?_)
    | (refine TRg.pass ?_; refine TRg.nx hA tabOk (by conv => lhs; cbv) ?_; first
        | refine TX.done ?_
        | refine TX.gt ?_
        | refine TX.gf ?_
        | (refine TX.gs ?_ ?_ <;> intro hc <;> rw [hc] <;> ((try simp only [zn] at hc) <;> (try simp (disch := omega) only [zz hA, zb, zy, reduceCtorEq, Bool.false_eq_true, Int.reduceLT, Int.reduceLE, Int.reduceNeg] at hc) <;> (try simp only [zw] at hc)) <;> (try (exfalso; omega)))
        | ((first | (refine TX.k 1 ?_; first | refine TX.one (One.elemM hA tabOk rfl rfl rfl rfl ?_ ?_) ?_ | refine TX.one (One.elemOwnM hA tabOk rfl rfl rfl rfl rfl ?_ ?_) ?_) | (refine TX.k 2 ?_; first | refine TX.one (One.clipM tabOk rfl rfl rfl rfl rfl ?_ ?_) ?_ | refine TX.one (One.cut_hM hA tabOk rfl rfl rfl rfl ?_ ?_) ?_ | refine TX.one (One.cut_lM hA tabOk rfl rfl rfl rfl ?_ ?_) ?_ | refine TX.one (One.cut_lhM hA tabOk rfl rfl rfl rfl rfl ?_ ?_ ?_) ?_) | (refine TX.k 10 ?_; first | refine TX.one (One.lenOwnM hA tabOk rfl rfl rfl rfl) ?_) | (refine TX.k 14 ?_; first | refine TX.one (One.loadRatM hA tabOk rfl rfl rfl rfl rfl rfl ?_) ?_) | (refine TX.k 15 ?_; first | refine TX.one (One.storeRatM hA tabOk _ rfl rfl rfl rfl rfl rfl rfl rfl (fun _ => rfl) ?_) ?_) | (refine TX.k 18 ?_; first | refine TX.one (One.fieldRat tabOk rfl rfl rfl rfl (by decide) rfl rfl) ?_)) <;> (first | refine TRg.pass ?_ | (((try simp only [zn]) <;> (try simp (disch := omega) only [zz hA, zb, zy, reduceCtorEq, Bool.false_eq_true, Int.reduceLT, Int.reduceLE, Int.reduceNeg]) <;> (try simp only [zw])) <;> omega)))
        | refine TX.raw ?_)
    | refine Fin3.of (by conv => lhs; cbv) (by repeat' (first | exact True.intro | exact rfl | refine And.intro ?_ ?_)) ?_ ?_
    | (refine AllO.pass ?_; first
        | exact AllO.nil
        | (refine AllO.cons (One.ev hA tabOk ?_) ?_ <;> (first | refine AllO.pass ?_ | ((conv => lhs; cbv); done)))
        | (refine AllO.cons (One.skipB ?_) ?_ <;> (first | refine AllO.pass ?_ | ((conv => lhs; cbv); done)))
        | ((first | refine AllO.consX (One.elemM hA tabOk rfl rfl rfl rfl ?_ ?_) rfl rfl ?_ | refine AllO.consX (One.cut_hM hA tabOk rfl rfl rfl rfl ?_ ?_) rfl rfl ?_ | refine AllO.consX (One.cut_lM hA tabOk rfl rfl rfl rfl ?_ ?_) rfl rfl ?_ | refine AllO.consX (One.cut_lhM hA tabOk rfl rfl rfl rfl rfl ?_ ?_ ?_) rfl rfl ?_ | refine AllO.consX (One.lenOwnM hA tabOk rfl rfl rfl rfl) rfl rfl ?_ | refine AllO.consX (One.elemOwnM hA tabOk rfl rfl rfl rfl rfl ?_ ?_) rfl rfl ?_ | refine AllO.consX (One.loadRatM hA tabOk rfl rfl rfl rfl rfl rfl ?_) rfl rfl ?_) <;> (first | refine AllO.pass ?_ | (((try simp only [zn]) <;> (try simp (disch := omega) only [zz hA, zb, zy, reduceCtorEq, Bool.false_eq_true, Int.reduceLT, Int.reduceLE, Int.reduceNeg]) <;> (try simp only [zw])) <;> omega))))
    | refine Thn.exit ?_
    | refine Blk.here ?_
    | refine Blk.other (by decide) ?_
    | refine ⟨.inl rfl, _, RetOk.ev tabOk (by conv => lhs; cbv), ?_⟩
    | fail)
  all_goals first
    | (exfalso; omega)
    | (refine rPV_then (by conv => lhs; cbv) ?_
       rfl)
theorem of_c0 (q : List Int) (h : q.length < 3) : PureCalls Try.prog 55 [intsP A q] (.tup [.agg [.lit (.int .i64 0), .lit (.int .i64 0), .lit (.int .i64 0), .sl 0 true []], BP false]) := by
  refine PureCalls.of Try.func55 rfl (by kernel_rfl) rfl ?_
  try first | refine AOLg.of [] ?_ | refine QSg.of [] ?_
  repeat' (first
    | (refine AWp.pass ?_; first
        | refine AWp.seq ?_
        | refine AWp.block ?_
        | refine AWp.skip ?_
        | refine AWp.regG [] (by conv => lhs; cbv) ?_
        | refine AWp.cond_t rfl ?_
        | refine AWp.cond_f rfl ?_
        | (refine AWp.cond rfl ?_ ?_ <;> intro hc <;> (try rw [hc]) <;> ((try simp only [zn] at hc) <;> (try simp (disch := omega) only [zz hA, zb, zy, reduceCtorEq, Bool.false_eq_true, Int.reduceLT, Int.reduceLE, Int.reduceNeg] at hc) <;> (try simp only [zw] at hc)) <;> (try (exfalso; omega)))
        | refine AWp.exit ?_
        | refine AWp.ret ⟨.inr rfl, _, RetOk.ev tabOk (by conv => lhs; cbv), ?_⟩
        | refine AWp.drawVG [] rfl (by decide +kernel) (by conv => lhs; cbv) ?_)
    | (refine AOLg.pass ?_; refine AOLg.nx hA tabOk (by conv => lhs; cbv) ?_; first
        | refine NX.done ?_
        | refine NX.gt ?_
        | refine NX.gf ?_
        | (refine NX.gs ?_ ?_ <;> intro hc <;> rw [hc] <;> ((try simp only [zn] at hc) <;> (try simp (disch := omega) only [zz hA, zb, zy, reduceCtorEq, Bool.false_eq_true, Int.reduceLT, Int.reduceLE, Int.reduceNeg] at hc) <;> (try simp only [zw] at hc)) <;> (try (exfalso; omega)))
        | ((first | (refine NX.k 1 ?_; first | refine NX.one (One.elemM hA tabOk rfl rfl rfl rfl ?_ ?_) ?_ | refine NX.one (One.elemOwnM hA tabOk rfl rfl rfl rfl rfl ?_ ?_) ?_) | (refine NX.k 2 ?_; first | refine NX.one (One.clipM tabOk rfl rfl rfl rfl rfl ?_ ?_) ?_ | refine NX.one (One.cut_hM hA tabOk rfl rfl rfl rfl ?_ ?_) ?_ | refine NX.one (One.cut_lM hA tabOk rfl rfl rfl rfl ?_ ?_) ?_ | refine NX.one (One.cut_lhM hA tabOk rfl rfl rfl rfl rfl ?_ ?_ ?_) ?_) | (refine NX.k 10 ?_; first | refine NX.one (One.lenOwnM hA tabOk rfl rfl rfl rfl) ?_) | (refine NX.k 14 ?_; first | refine NX.one (One.loadRatM hA tabOk rfl rfl rfl rfl rfl rfl ?_) ?_) | (refine NX.k 15 ?_; first | refine NX.one (One.storeRatM hA tabOk _ rfl rfl rfl rfl rfl rfl rfl rfl (fun _ => rfl) ?_) ?_)) <;> (first | refine AOLg.pass ?_ | (((try simp only [zn]) <;> (try simp (disch := omega) only [zz hA, zb, zy, reduceCtorEq, Bool.false_eq_true, Int.reduceLT, Int.reduceLE, Int.reduceNeg]) <;> (try simp only [zw])) <;> omega)))
        | refine NX.raw ?_)
    | (refine TRg.pass ?_; refine TRg.nx hA tabOk (by conv => lhs; cbv) ?_; first
        | refine TX.done ?_
        | refine TX.gt ?_
        | refine TX.gf ?_
        | (refine TX.gs ?_ ?_ <;> intro hc <;> rw [hc] <;> ((try simp only [zn] at hc) <;> (try simp (disch := omega) only [zz hA, zb, zy, reduceCtorEq, Bool.false_eq_true, Int.reduceLT, Int.reduceLE, Int.reduceNeg] at hc) <;> (try simp only [zw] at hc)) <;> (try (exfalso; omega)))
        | ((first | (refine TX.k 1 ?_; first | refine TX.one (One.elemM hA tabOk rfl rfl rfl rfl ?_ ?_) ?_ | refine TX.one (One.elemOwnM hA tabOk rfl rfl rfl rfl rfl ?_ ?_) ?_) | (refine TX.k 2 ?_; first | refine TX.one (One.clipM tabOk rfl rfl rfl rfl rfl ?_ ?_) ?_ | refine TX.one (One.cut_hM hA tabOk rfl rfl rfl rfl ?_ ?_) ?_ | refine TX.one (One.cut_lM hA tabOk rfl rfl rfl rfl ?_ ?_) ?_ | refine TX.one (One.cut_lhM hA tabOk rfl rfl rfl rfl rfl ?_ ?_ ?_) ?_) | (refine TX.k 10 ?_; first | refine TX.one (One.lenOwnM hA tabOk rfl rfl rfl rfl) ?_) | (refine TX.k 14 ?_; first | refine TX.one (One.loadRatM hA tabOk rfl rfl rfl rfl rfl rfl ?_) ?_) | (refine TX.k 15 ?_; first | refine TX.one (One.storeRatM hA tabOk _ rfl rfl rfl rfl rfl rfl rfl rfl (fun _ => rfl) ?_) ?_)) <;> (first | refine TRg.pass ?_ | (((try simp only [zn]) <;> (try simp (disch := omega) only [zz hA, zb, zy, reduceCtorEq, Bool.false_eq_true, Int.reduceLT, Int.reduceLE, Int.reduceNeg]) <;> (try simp only [zw])) <;> omega)))
        | refine TX.raw ?_)
    | refine Fin3.of (by conv => lhs; cbv) (by repeat' (first | exact True.intro | exact rfl | refine And.intro ?_ ?_)) ?_ ?_
    | (refine AllO.pass ?_; first
        | exact AllO.nil
        | (refine AllO.cons (One.ev hA tabOk ?_) ?_ <;> (first | refine AllO.pass ?_ | ((conv => lhs; cbv); done)))
        | (refine AllO.cons (One.skipB ?_) ?_ <;> (first | refine AllO.pass ?_ | ((conv => lhs; cbv); done)))
        | ((first | refine AllO.consX (One.elemM hA tabOk rfl rfl rfl rfl ?_ ?_) rfl rfl ?_ | refine AllO.consX (One.cut_hM hA tabOk rfl rfl rfl rfl ?_ ?_) rfl rfl ?_ | refine AllO.consX (One.cut_lM hA tabOk rfl rfl rfl rfl ?_ ?_) rfl rfl ?_ | refine AllO.consX (One.cut_lhM hA tabOk rfl rfl rfl rfl rfl ?_ ?_ ?_) rfl rfl ?_ | refine AllO.consX (One.lenOwnM hA tabOk rfl rfl rfl rfl) rfl rfl ?_ | refine AllO.consX (One.elemOwnM hA tabOk rfl rfl rfl rfl rfl ?_ ?_) rfl rfl ?_ | refine AllO.consX (One.loadRatM hA tabOk rfl rfl rfl rfl rfl rfl ?_) rfl rfl ?_) <;> (first | refine AllO.pass ?_ | (((try simp only [zn]) <;> (try simp (disch := omega) only [zz hA, zb, zy, reduceCtorEq, Bool.false_eq_true, Int.reduceLT, Int.reduceLE, Int.reduceNeg]) <;> (try simp only [zw])) <;> omega))))
    | refine Thn.exit ?_
    | refine Blk.here ?_
    | refine Blk.other (by decide) ?_
    | refine ⟨.inl rfl, _, RetOk.ev tabOk (by conv => lhs; cbv), ?_⟩
    | fail)
  all_goals first
    | (exfalso; omega)
    | (refine rPV_then (by conv => lhs; cbv) ?_
       rfl)
set_option maxHeartbeats 4000000 in
theorem refTRight_c (l : List Sg) (K : List (List Int)) (S : List Int) (hl : l.length ≤ 1000000) (hsz : FitG l) (hK : K.length ≤ 900000) (hk : ∀ x ∈ K, x.length ≤ 1000000) :
    PureCalls Try.prog 34 [slP A 2 (encG A) l, keyedPV A K S] (BP (hid A (rightT l K S))) := by
  have hr := refRight_c hA K S (by omega)
  by_cases h1 : K.Nodup ∧ S = layM K
  · rw [decide_eq_true h1, hid_eq hA (α := Bool)] at hr
    by_cases h2 : 2 ≤ K.length
    · have hrt : rightT l K S = allB K.length fun i => keyOk l i (K.getD i default) := by unfold rightT; rw [decide_eq_true h1, decide_eq_true h2]; rfl
      refine PureCalls.of Try.func34 rfl (by kernel_rfl) rfl ?_
      try first | refine AOLg.of [] ?_ | refine QSg.of [] ?_
      repeat' (first
        | (refine AWp.pass ?_; first
            | refine AWp.seq ?_
            | refine AWp.block ?_
            | refine AWp.skip ?_
            | refine AWp.regG [] (by conv => lhs; cbv) ?_
            | refine AWp.cond_t rfl ?_
            | refine AWp.cond_f rfl ?_
            | (refine AWp.cond rfl ?_ ?_ <;> intro hc <;> (try rw [hc]) <;> ((try simp only [zn] at hc) <;> (try simp (disch := omega) only [zz hA, zb, zy, reduceCtorEq, Bool.false_eq_true, Int.reduceLT, Int.reduceLE, Int.reduceNeg] at hc) <;> (try simp only [zw] at hc)) <;> (try (exfalso; omega)))
            | refine AWp.exit ?_
            | refine AWp.ret ⟨.inr rfl, _, RetOk.ev tabOk (by conv => lhs; cbv), ?_⟩)
        | (refine AOLg.pass ?_; refine AOLg.nx hA tabOk (by conv => lhs; cbv) ?_; first
            | refine NX.done ?_
            | refine NX.gt ?_
            | refine NX.gf ?_
            | (refine NX.gs ?_ ?_ <;> intro hc <;> rw [hc] <;> ((try simp only [zn] at hc) <;> (try simp (disch := omega) only [zz hA, zb, zy, reduceCtorEq, Bool.false_eq_true, Int.reduceLT, Int.reduceLE, Int.reduceNeg] at hc) <;> (try simp only [zw] at hc)) <;> (try (exfalso; omega)))
            | (refine NX.kC ?_; first | (with_reducible refine NX.call (hr) ?_) | ((first | refine NX.call (hr) ?_)) | fail)
            | (refine NX.kO ?_; (first | refine NX.callO (hr) (by simp [allEq]) rfl ?_))
            | ((first | (refine NX.k 7 ?_; first | refine NX.one (One.concatM hA rfl rfl rfl ?_) ?_) | (refine NX.k 9 ?_; first | refine NX.one (One.neBoolM hA tabOk rfl rfl rfl rfl rfl) ?_) | (refine NX.k 10 ?_; first | refine NX.one (One.lenOwnM hA tabOk rfl rfl rfl rfl) ?_) | (refine NX.k 14 ?_; first | refine NX.one (One.loadRatM hA tabOk rfl rfl rfl rfl rfl rfl ?_) ?_) | (refine NX.k 15 ?_; first | refine NX.one (One.storeRatM hA tabOk _ rfl rfl rfl rfl rfl rfl rfl rfl (fun _ => rfl) ?_) ?_) | (refine NX.k 18 ?_; first | refine NX.one (One.fieldRat tabOk rfl rfl rfl rfl (by decide) rfl rfl) ?_)) <;> (first | refine AOLg.pass ?_ | (((try simp only [zn]) <;> (try simp (disch := omega) only [zz hA, zb, zy, reduceCtorEq, Bool.false_eq_true, Int.reduceLT, Int.reduceLE, Int.reduceNeg]) <;> (try simp only [zw])) <;> omega)))
            | refine NX.raw ?_)
        | refine Thn.exit ?_
        | refine Blk.here ?_
        | refine Blk.other (by decide) ?_
        | refine ⟨.inl rfl, _, RetOk.ev tabOk (by conv => lhs; cbv), ?_⟩
        | fail)
      refine AWp.loopT 1 (fun i : Nat => [(6, .ic (.lit (.int .i64 (hid A (cN i)))))]) (fun _ => [.var true 25 [.ic (.sl 1 false (hid A (List.map (encK A) K))), .ic (.sl 1 false (hid A (List.map encI S)))]])
        (fun i => K.length - i) (fun i => i ≤ K.length ∧ ∀ j, j < i → keyOk l j (K.getD j default) = true) 0 (by conv => lhs; cbv) ⟨Nat.zero_le _, by simp⟩ (by (repeat' (first | exact subE.nil | refine subE.cons rfl ?_ | refine subE.int rfl ?_ ?_ | refine subE.bool rfl ?_ ?_ | refine subE.str rfl ?_ ?_ | refine subE.sl rfl ?_ ?_)) <;> simp [hA, real, hid, cN]) rfl (fun _ => rfl) (fun _ => rfl) ?_
      rintro i ⟨hi0, hok⟩
      simp only [] at hi0 ⊢
      by_cases hi : i < K.length
      · have hno : keyOk l i (K.getD i default) = false → rightT l K S = false := fun h => by rw [hrt, allB_f hi h]
        have hmem : K.getD i default ∈ K := by rw [List.getD_eq_getElem?_getD, List.getElem?_eq_getElem hi]; exact List.getElem_mem _
        have hkl := hk _ hmem
        by_cases h3 : 3 ≤ (K.getD i default).length
        · obtain ⟨k, s, p, a, hq⟩ := key_ex h3
          have hal : a.length + 3 = (K.getD i default).length := by rw [hq]; rfl
          have hof := refOf_c1 hA K S i k s p a hi hq (by omega)
          have hmay : ∀ z : Int, z = i → PureCalls Try.prog 56 [slP A 2 (encG A) l, IP z, tmP A k s p a] (BP (hid A (mayM l i k s p a))) := by
            rintro z rfl
            exact refMay_c hA l i k s p a (by omega) hl hsz
          have hkk := keyOk_T l i k s p a
          rw [← hq] at hkk
          rw [hkk] at hno
          try first | refine AOLg.of [] ?_ | refine QSg.of [] ?_
          repeat' (first
            | (refine AWp.pass ?_; first
                | refine AWp.seq ?_
                | refine AWp.block ?_
                | refine AWp.skip ?_
                | refine AWp.regG [] (by conv => lhs; cbv) ?_
                | refine AWp.cond_t rfl ?_
                | refine AWp.cond_f rfl ?_
                | (refine AWp.cond rfl ?_ ?_ <;> intro hc <;> (try rw [hc]) <;> ((try simp only [zn] at hc) <;> (try simp (disch := omega) only [zz hA, zb, zy, reduceCtorEq, Bool.false_eq_true, Int.reduceLT, Int.reduceLE, Int.reduceNeg] at hc) <;> (try simp only [zw] at hc)) <;> (try (exfalso; omega)))
                | refine AWp.exit ?_
                | refine AWp.ret ⟨.inr rfl, _, RetOk.ev tabOk (by conv => lhs; cbv), ?_⟩)
            | (refine AOLg.pass ?_; refine AOLg.nx hA tabOk (by conv => lhs; cbv) ?_; first
                | refine NX.done ?_
                | refine NX.gt ?_
                | refine NX.gf ?_
                | (refine NX.gs ?_ ?_ <;> intro hc <;> rw [hc] <;> ((try simp only [zn] at hc) <;> (try simp (disch := omega) only [zz hA, zb, zy, reduceCtorEq, Bool.false_eq_true, Int.reduceLT, Int.reduceLE, Int.reduceNeg] at hc) <;> (try simp only [zw] at hc)) <;> (try (exfalso; omega)))
                | (refine NX.kC ?_; first | ((with_reducible refine NX.call (hof _ ?_) ?_) <;> (first | refine AOLg.pass ?_ | (((try simp only [zn]) <;> (try simp (disch := omega) only [zz hA, zb, zy, reduceCtorEq, Bool.false_eq_true, Int.reduceLT, Int.reduceLE, Int.reduceNeg]) <;> (try simp only [zw])) <;> omega))) | ((with_reducible refine NX.call (hmay _ ?_) ?_) <;> (first | refine AOLg.pass ?_ | (((try simp only [zn]) <;> (try simp (disch := omega) only [zz hA, zb, zy, reduceCtorEq, Bool.false_eq_true, Int.reduceLT, Int.reduceLE, Int.reduceNeg]) <;> (try simp only [zw])) <;> omega))) | ((first | refine NX.call (hof _ ?_) ?_ | refine NX.call (hmay _ ?_) ?_) <;> (first | refine AOLg.pass ?_ | (((try simp only [zn]) <;> (try simp (disch := omega) only [zz hA, zb, zy, reduceCtorEq, Bool.false_eq_true, Int.reduceLT, Int.reduceLE, Int.reduceNeg]) <;> (try simp only [zw])) <;> omega))) | fail)
                | (refine NX.kO ?_; (first | refine NX.callO (hof _ ?_) (by simp [allEq]) rfl ?_ | refine NX.callO (hmay _ ?_) (by simp [allEq]) rfl ?_) <;> (first | refine AOLg.pass ?_ | (((try simp only [zn]) <;> (try simp (disch := omega) only [zz hA, zb, zy, reduceCtorEq, Bool.false_eq_true, Int.reduceLT, Int.reduceLE, Int.reduceNeg]) <;> (try simp only [zw])) <;> omega)))
                | ((first | (refine NX.k 7 ?_; first | refine NX.one (One.concatM hA rfl rfl rfl ?_) ?_) | (refine NX.k 9 ?_; first | refine NX.one (One.neBoolM hA tabOk rfl rfl rfl rfl rfl) ?_) | (refine NX.k 10 ?_; first | refine NX.one (One.lenOwnM hA tabOk rfl rfl rfl rfl) ?_) | (refine NX.k 14 ?_; first | refine NX.one (One.loadRatM hA tabOk rfl rfl rfl rfl rfl rfl ?_) ?_) | (refine NX.k 15 ?_; first | refine NX.one (One.storeRatM hA tabOk _ rfl rfl rfl rfl rfl rfl rfl rfl (fun _ => rfl) ?_) ?_) | (refine NX.k 18 ?_; first | refine NX.one (One.fieldRat tabOk rfl rfl rfl rfl (by decide) rfl rfl) ?_)) <;> (first | refine AOLg.pass ?_ | (((try simp only [zn]) <;> (try simp (disch := omega) only [zz hA, zb, zy, reduceCtorEq, Bool.false_eq_true, Int.reduceLT, Int.reduceLE, Int.reduceNeg]) <;> (try simp only [zw])) <;> omega)))
                | refine NX.raw ?_)
            | refine Thn.exit ?_
            | refine Blk.here ?_
            | refine Blk.other (by decide) ?_
            | refine ⟨.inl rfl, _, RetOk.ev tabOk (by conv => lhs; cbv), ?_⟩
            | fail)
          all_goals first
            | (refine rPV_then (by conv => lhs; cbv) ?_
               rw [hno (by clear hno hrt hof hmay hr; simp_all <;> omega)]
               simp [hid_eq hA]; done)
            | skip
          all_goals
            refine ⟨i + 1, ⟨by omega, stepB hok (by rw [hkk]; clear hno hrt hof hmay hr; simp_all <;> omega)⟩, by omega, rfl, rfl, (by repeat' (first | exact trimOk.nil | refine trimOk.same ?_ | refine trimOk.turn rfl ?_)), rfl, rfl, ?_, (by repeat' (first | exact subE.nil | refine subE.cons rfl ?_))⟩
            exact .int rfl (by (((try simp only [zn]) <;> (try simp (disch := omega) only [zz hA, zb, zy, reduceCtorEq, Bool.false_eq_true, Int.reduceLT, Int.reduceLE, Int.reduceNeg]) <;> (try simp only [zw])) <;> omega)) .nil
        · have hof := refOf_c2 hA K S i hi (by omega)
          have hnn : rightT l K S = false := hno (by unfold keyOk; rw [decide_eq_false h3]; rfl)
          try first | refine AOLg.of [] ?_ | refine QSg.of [] ?_
          repeat' (first
            | (refine AWp.pass ?_; first
                | refine AWp.seq ?_
                | refine AWp.block ?_
                | refine AWp.skip ?_
                | refine AWp.regG [] (by conv => lhs; cbv) ?_
                | refine AWp.cond_t rfl ?_
                | refine AWp.cond_f rfl ?_
                | (refine AWp.cond rfl ?_ ?_ <;> intro hc <;> (try rw [hc]) <;> ((try simp only [zn] at hc) <;> (try simp (disch := omega) only [zz hA, zb, zy, reduceCtorEq, Bool.false_eq_true, Int.reduceLT, Int.reduceLE, Int.reduceNeg] at hc) <;> (try simp only [zw] at hc)) <;> (try (exfalso; omega)))
                | refine AWp.exit ?_
                | refine AWp.ret ⟨.inr rfl, _, RetOk.ev tabOk (by conv => lhs; cbv), ?_⟩)
            | (refine AOLg.pass ?_; refine AOLg.nx hA tabOk (by conv => lhs; cbv) ?_; first
                | refine NX.done ?_
                | refine NX.gt ?_
                | refine NX.gf ?_
                | (refine NX.gs ?_ ?_ <;> intro hc <;> rw [hc] <;> ((try simp only [zn] at hc) <;> (try simp (disch := omega) only [zz hA, zb, zy, reduceCtorEq, Bool.false_eq_true, Int.reduceLT, Int.reduceLE, Int.reduceNeg] at hc) <;> (try simp only [zw] at hc)) <;> (try (exfalso; omega)))
                | (refine NX.kC ?_; first | ((with_reducible refine NX.call (hof _ ?_) ?_) <;> (first | refine AOLg.pass ?_ | (((try simp only [zn]) <;> (try simp (disch := omega) only [zz hA, zb, zy, reduceCtorEq, Bool.false_eq_true, Int.reduceLT, Int.reduceLE, Int.reduceNeg]) <;> (try simp only [zw])) <;> omega))) | ((first | refine NX.call (hof _ ?_) ?_) <;> (first | refine AOLg.pass ?_ | (((try simp only [zn]) <;> (try simp (disch := omega) only [zz hA, zb, zy, reduceCtorEq, Bool.false_eq_true, Int.reduceLT, Int.reduceLE, Int.reduceNeg]) <;> (try simp only [zw])) <;> omega))) | fail)
                | (refine NX.kO ?_; (first | refine NX.callO (hof _ ?_) (by simp [allEq]) rfl ?_) <;> (first | refine AOLg.pass ?_ | (((try simp only [zn]) <;> (try simp (disch := omega) only [zz hA, zb, zy, reduceCtorEq, Bool.false_eq_true, Int.reduceLT, Int.reduceLE, Int.reduceNeg]) <;> (try simp only [zw])) <;> omega)))
                | ((first | (refine NX.k 7 ?_; first | refine NX.one (One.concatM hA rfl rfl rfl ?_) ?_) | (refine NX.k 9 ?_; first | refine NX.one (One.neBoolM hA tabOk rfl rfl rfl rfl rfl) ?_) | (refine NX.k 10 ?_; first | refine NX.one (One.lenOwnM hA tabOk rfl rfl rfl rfl) ?_) | (refine NX.k 14 ?_; first | refine NX.one (One.loadRatM hA tabOk rfl rfl rfl rfl rfl rfl ?_) ?_) | (refine NX.k 15 ?_; first | refine NX.one (One.storeRatM hA tabOk _ rfl rfl rfl rfl rfl rfl rfl rfl (fun _ => rfl) ?_) ?_) | (refine NX.k 18 ?_; first | refine NX.one (One.fieldRat tabOk rfl rfl rfl rfl (by decide) rfl rfl) ?_)) <;> (first | refine AOLg.pass ?_ | (((try simp only [zn]) <;> (try simp (disch := omega) only [zz hA, zb, zy, reduceCtorEq, Bool.false_eq_true, Int.reduceLT, Int.reduceLE, Int.reduceNeg]) <;> (try simp only [zw])) <;> omega)))
                | refine NX.raw ?_)
            | refine Thn.exit ?_
            | refine Blk.here ?_
            | refine Blk.other (by decide) ?_
            | refine ⟨.inl rfl, _, RetOk.ev tabOk (by conv => lhs; cbv), ?_⟩
            | fail)
          refine rPV_then (by conv => lhs; cbv) ?_
          rw [hnn, hid_eq hA]
      · have hyes : rightT l K S = true := by rw [hrt]; exact allB_t fun j hj => hok j (by omega)
        try first | refine AOLg.of [] ?_ | refine QSg.of [] ?_
        repeat' (first
          | (refine AWp.pass ?_; first
              | refine AWp.seq ?_
              | refine AWp.block ?_
              | refine AWp.skip ?_
              | refine AWp.regG [] (by conv => lhs; cbv) ?_
              | refine AWp.cond_t rfl ?_
              | refine AWp.cond_f rfl ?_
              | (refine AWp.cond rfl ?_ ?_ <;> intro hc <;> (try rw [hc]) <;> ((try simp only [zn] at hc) <;> (try simp (disch := omega) only [zz hA, zb, zy, reduceCtorEq, Bool.false_eq_true, Int.reduceLT, Int.reduceLE, Int.reduceNeg] at hc) <;> (try simp only [zw] at hc)) <;> (try (exfalso; omega)))
              | refine AWp.exit ?_
              | refine AWp.ret ⟨.inr rfl, _, RetOk.ev tabOk (by conv => lhs; cbv), ?_⟩)
          | (refine AOLg.pass ?_; refine AOLg.nx hA tabOk (by conv => lhs; cbv) ?_; first
              | refine NX.done ?_
              | refine NX.gt ?_
              | refine NX.gf ?_
              | (refine NX.gs ?_ ?_ <;> intro hc <;> rw [hc] <;> ((try simp only [zn] at hc) <;> (try simp (disch := omega) only [zz hA, zb, zy, reduceCtorEq, Bool.false_eq_true, Int.reduceLT, Int.reduceLE, Int.reduceNeg] at hc) <;> (try simp only [zw] at hc)) <;> (try (exfalso; omega)))
              | ((first | (refine NX.k 7 ?_; first | refine NX.one (One.concatM hA rfl rfl rfl ?_) ?_) | (refine NX.k 9 ?_; first | refine NX.one (One.neBoolM hA tabOk rfl rfl rfl rfl rfl) ?_) | (refine NX.k 10 ?_; first | refine NX.one (One.lenOwnM hA tabOk rfl rfl rfl rfl) ?_) | (refine NX.k 14 ?_; first | refine NX.one (One.loadRatM hA tabOk rfl rfl rfl rfl rfl rfl ?_) ?_) | (refine NX.k 15 ?_; first | refine NX.one (One.storeRatM hA tabOk _ rfl rfl rfl rfl rfl rfl rfl rfl (fun _ => rfl) ?_) ?_) | (refine NX.k 18 ?_; first | refine NX.one (One.fieldRat tabOk rfl rfl rfl rfl (by decide) rfl rfl) ?_)) <;> (first | refine AOLg.pass ?_ | (((try simp only [zn]) <;> (try simp (disch := omega) only [zz hA, zb, zy, reduceCtorEq, Bool.false_eq_true, Int.reduceLT, Int.reduceLE, Int.reduceNeg]) <;> (try simp only [zw])) <;> omega)))
              | refine NX.raw ?_)
          | refine Thn.exit ?_
          | refine Blk.here ?_
          | refine Blk.other (by decide) ?_
          | refine ⟨.inl rfl, _, RetOk.ev tabOk (by conv => lhs; cbv), ?_⟩
          | fail)
        refine rPV_then (by conv => lhs; cbv) ?_
        rw [hyes, hid_eq hA]
    · have hrt : rightT l K S = false := by unfold rightT; rw [decide_eq_false h2]; simp
      refine PureCalls.of Try.func34 rfl (by kernel_rfl) rfl ?_
      try first | refine AOLg.of [] ?_ | refine QSg.of [] ?_
      repeat' (first
        | (refine AWp.pass ?_; first
            | refine AWp.seq ?_
            | refine AWp.block ?_
            | refine AWp.skip ?_
            | refine AWp.regG [] (by conv => lhs; cbv) ?_
            | refine AWp.cond_t rfl ?_
            | refine AWp.cond_f rfl ?_
            | (refine AWp.cond rfl ?_ ?_ <;> intro hc <;> (try rw [hc]) <;> ((try simp only [zn] at hc) <;> (try simp (disch := omega) only [zz hA, zb, zy, reduceCtorEq, Bool.false_eq_true, Int.reduceLT, Int.reduceLE, Int.reduceNeg] at hc) <;> (try simp only [zw] at hc)) <;> (try (exfalso; omega)))
            | refine AWp.exit ?_
            | refine AWp.ret ⟨.inr rfl, _, RetOk.ev tabOk (by conv => lhs; cbv), ?_⟩)
        | (refine AOLg.pass ?_; refine AOLg.nx hA tabOk (by conv => lhs; cbv) ?_; first
            | refine NX.done ?_
            | refine NX.gt ?_
            | refine NX.gf ?_
            | (refine NX.gs ?_ ?_ <;> intro hc <;> rw [hc] <;> ((try simp only [zn] at hc) <;> (try simp (disch := omega) only [zz hA, zb, zy, reduceCtorEq, Bool.false_eq_true, Int.reduceLT, Int.reduceLE, Int.reduceNeg] at hc) <;> (try simp only [zw] at hc)) <;> (try (exfalso; omega)))
            | (refine NX.kC ?_; first | (with_reducible refine NX.call (hr) ?_) | ((first | refine NX.call (hr) ?_)) | fail)
            | (refine NX.kO ?_; (first | refine NX.callO (hr) (by simp [allEq]) rfl ?_))
            | ((first | (refine NX.k 7 ?_; first | refine NX.one (One.concatM hA rfl rfl rfl ?_) ?_) | (refine NX.k 9 ?_; first | refine NX.one (One.neBoolM hA tabOk rfl rfl rfl rfl rfl) ?_) | (refine NX.k 10 ?_; first | refine NX.one (One.lenOwnM hA tabOk rfl rfl rfl rfl) ?_) | (refine NX.k 14 ?_; first | refine NX.one (One.loadRatM hA tabOk rfl rfl rfl rfl rfl rfl ?_) ?_) | (refine NX.k 15 ?_; first | refine NX.one (One.storeRatM hA tabOk _ rfl rfl rfl rfl rfl rfl rfl rfl (fun _ => rfl) ?_) ?_) | (refine NX.k 18 ?_; first | refine NX.one (One.fieldRat tabOk rfl rfl rfl rfl (by decide) rfl rfl) ?_)) <;> (first | refine AOLg.pass ?_ | (((try simp only [zn]) <;> (try simp (disch := omega) only [zz hA, zb, zy, reduceCtorEq, Bool.false_eq_true, Int.reduceLT, Int.reduceLE, Int.reduceNeg]) <;> (try simp only [zw])) <;> omega)))
            | refine NX.raw ?_)
        | refine Thn.exit ?_
        | refine Blk.here ?_
        | refine Blk.other (by decide) ?_
        | refine ⟨.inl rfl, _, RetOk.ev tabOk (by conv => lhs; cbv), ?_⟩
        | fail)
      refine rPV_then (by conv => lhs; cbv) ?_
      rw [hrt, hid_eq hA]
  · rw [decide_eq_false h1, hid_eq hA (α := Bool)] at hr
    have hrt : rightT l K S = false := by unfold rightT; rw [decide_eq_false h1]; rfl
    refine PureCalls.of Try.func34 rfl (by kernel_rfl) rfl ?_
    try first | refine AOLg.of [] ?_ | refine QSg.of [] ?_
    repeat' (first
      | (refine AWp.pass ?_; first
          | refine AWp.seq ?_
          | refine AWp.block ?_
          | refine AWp.skip ?_
          | refine AWp.regG [] (by conv => lhs; cbv) ?_
          | refine AWp.cond_t rfl ?_
          | refine AWp.cond_f rfl ?_
          | (refine AWp.cond rfl ?_ ?_ <;> intro hc <;> (try rw [hc]) <;> ((try simp only [zn] at hc) <;> (try simp (disch := omega) only [zz hA, zb, zy, reduceCtorEq, Bool.false_eq_true, Int.reduceLT, Int.reduceLE, Int.reduceNeg] at hc) <;> (try simp only [zw] at hc)) <;> (try (exfalso; omega)))
          | refine AWp.exit ?_
          | refine AWp.ret ⟨.inr rfl, _, RetOk.ev tabOk (by conv => lhs; cbv), ?_⟩)
      | (refine AOLg.pass ?_; refine AOLg.nx hA tabOk (by conv => lhs; cbv) ?_; first
          | refine NX.done ?_
          | refine NX.gt ?_
          | refine NX.gf ?_
          | (refine NX.gs ?_ ?_ <;> intro hc <;> rw [hc] <;> ((try simp only [zn] at hc) <;> (try simp (disch := omega) only [zz hA, zb, zy, reduceCtorEq, Bool.false_eq_true, Int.reduceLT, Int.reduceLE, Int.reduceNeg] at hc) <;> (try simp only [zw] at hc)) <;> (try (exfalso; omega)))
          | (refine NX.kC ?_; first | (with_reducible refine NX.call (hr) ?_) | ((first | refine NX.call (hr) ?_)) | fail)
          | (refine NX.kO ?_; (first | refine NX.callO (hr) (by simp [allEq]) rfl ?_))
          | ((first | (refine NX.k 7 ?_; first | refine NX.one (One.concatM hA rfl rfl rfl ?_) ?_) | (refine NX.k 9 ?_; first | refine NX.one (One.neBoolM hA tabOk rfl rfl rfl rfl rfl) ?_) | (refine NX.k 10 ?_; first | refine NX.one (One.lenOwnM hA tabOk rfl rfl rfl rfl) ?_) | (refine NX.k 14 ?_; first | refine NX.one (One.loadRatM hA tabOk rfl rfl rfl rfl rfl rfl ?_) ?_) | (refine NX.k 15 ?_; first | refine NX.one (One.storeRatM hA tabOk _ rfl rfl rfl rfl rfl rfl rfl rfl (fun _ => rfl) ?_) ?_) | (refine NX.k 18 ?_; first | refine NX.one (One.fieldRat tabOk rfl rfl rfl rfl (by decide) rfl rfl) ?_)) <;> (first | refine AOLg.pass ?_ | (((try simp only [zn]) <;> (try simp (disch := omega) only [zz hA, zb, zy, reduceCtorEq, Bool.false_eq_true, Int.reduceLT, Int.reduceLE, Int.reduceNeg]) <;> (try simp only [zw])) <;> omega)))
          | refine NX.raw ?_)
      | refine Thn.exit ?_
      | refine Blk.here ?_
      | refine Blk.other (by decide) ?_
      | refine ⟨.inl rfl, _, RetOk.ev tabOk (by conv => lhs; cbv), ?_⟩
      | fail)
    refine rPV_then (by conv => lhs; cbv) ?_
    rw [hrt, hid_eq hA]
end Go.Proofs.Ytpphdaphbkepfaa.Aw

/- Contract of slices.Reverse on a row of the call's own. -/
set_option linter.unusedVariables false
set_option linter.unusedSimpArgs false
namespace Go.Proofs.Ytpphdaphbkepfaa.Aw
open Go Go.RowKit
set_option maxRecDepth 10000
/-- A call that turns the store in a known way. -/
theorem One.scallT {r : Option Nat} {P : Program} {ops : Array Oper} {i : Nat} {s0 : St} {x : Operand} {args : Array Operand} {ts : Array TypeId} {f : FuncId} {first cap : List AV} {y : AV} {st1 : List AObj} (h : opAt ops i s0 = some (.call { callee := .value x, args := args, argTypes := ts })) (hf : s0.ev x = .fn (.func f) first cap)
    (hc : ACalls P f (first ++ args.toList.map s0.ev ++ cap) s0.st (fun x st' => x = y ∧ st' = st1)) : One r P ops i s0 y st1 := fun rest Q k => by
  refine AOL.scall h hf hc ?_
  rintro x st' ⟨rfl, rfl⟩
  exact k
attribute [local irreducible] AWp AOL QS One AOLg QSg NX QX TRg TX AllO Fin3
def revI (l : List Int) (i : Nat) : List Int := (List.range l.length).map fun p => if p < i ∨ l.length ≤ p + i then l.getD (l.length - 1 - p) default else l.getD p default
theorem revI_len (l : List Int) (i : Nat) : (revI l i).length = l.length := by simp [revI]
theorem revI_get (l : List Int) (i p : Nat) (hp : p < l.length) : (revI l i).getD p default = if p < i ∨ l.length ≤ p + i then l.getD (l.length - 1 - p) default else l.getD p default := by
  rw [List.getD_eq_getElem?_getD]
  simp only [revI, List.getElem?_map, List.getElem?_range hp, Option.map_some, Option.getD_some]
theorem list_ext {a b : List Int} (hl : a.length = b.length) (h : ∀ p, p < a.length → a.getD p default = b.getD p default) : a = b := by
  refine List.ext_getElem hl fun p h1 h2 => ?_
  have := h p h1
  simpa [List.getD_eq_getElem?_getD, h1, h2] using this
theorem set_getD (l : List Int) (r : Nat) (v : Int) (p : Nat) (hp : p < l.length) : (l.set r v).getD p default = if p = r then v else l.getD p default := by
  simp only [List.getD_eq_getElem?_getD, List.getElem?_set]
  by_cases h : p = r
  · subst h; simp [hp]
  · simp [h, Ne.symm h]
theorem revI_zero (l : List Int) : revI l 0 = l := list_ext (revI_len l 0) fun p hp => by
  rw [revI_len] at hp
  rw [revI_get l 0 p hp, if_neg (by omega)]
theorem revI_step (l : List Int) (i : Nat) (h : 2 * i + 1 < l.length) : ((revI l i).set i ((revI l i).getD (l.length - 1 - i) default)).set (l.length - 1 - i) ((revI l i).getD i default) = revI l (i + 1) := by
  refine list_ext (by simp [revI_len]) fun p hp => ?_
  simp only [List.length_set, revI_len] at hp
  rw [set_getD _ _ _ _ (by simp [revI_len]; omega), set_getD _ _ _ _ (by simp [revI_len]; omega), revI_get _ _ _ hp, revI_get _ _ _ hp, revI_get _ _ _ (by omega), revI_get _ _ _ (by omega)]
  by_cases h1 : p = l.length - 1 - i
  · rw [if_pos h1, if_neg (by omega), if_pos (by omega)]
    congr 1; omega
  · rw [if_neg h1]
    by_cases h2 : p = i
    · subst h2
      rw [if_pos rfl, if_neg (by omega), if_pos (by omega)]
    · rw [if_neg h2]
      by_cases h3 : p < i ∨ l.length ≤ p + i
      · rw [if_pos h3, if_pos (by omega)]
      · rw [if_neg h3, if_neg (by omega)]
theorem revI_all (l : List Int) (i : Nat) (h : l.length ≤ 2 * i + 1) : revI l i = l.reverse := by
  refine list_ext (by simp [revI_len]) fun p hp => ?_
  rw [revI_len] at hp
  rw [revI_get _ _ _ hp]
  have e : l.reverse.getD p default = l.getD (l.length - 1 - p) default := by
    rw [List.getD_eq_getElem?_getD, List.getElem?_reverse hp, ← List.getD_eq_getElem?_getD]
  rw [e]
  by_cases h3 : p < i ∨ l.length ≤ p + i
  · rw [if_pos h3]
  · rw [if_neg h3]; congr 1; omega
variable {A : Ar} (hA : A = real)
include hA
set_option maxHeartbeats 4000000 in
theorem reverse_c (l : List Int) (ver : Nat) (q0 q1 : AObj) (hl : l.length ≤ 1000000) : ACalls Try.prog 51 [.own 2 ver] [q0, q1, .row true ver 3 1 (hid A (List.map encI l))] (fun x s' => x = .tup [] ∧ s' = [q0, q1, .row true ver 3 1 (hid A (List.map encI l.reverse))]) := by
  refine ACalls.of Try.func51 rfl (by kernel_rfl) rfl ?_
  try first | refine AOLg.of [] ?_ | refine QSg.of [] ?_
  repeat' (first
    | (refine AWp.pass ?_; first
        | refine AWp.seq ?_
        | refine AWp.block ?_
        | refine AWp.skip ?_
        | refine AWp.regG [] (by conv => lhs; cbv) ?_
        | refine AWp.cond_t rfl ?_
        | refine AWp.cond_f rfl ?_
        | (refine AWp.cond rfl ?_ ?_ <;> intro hc <;> (try rw [hc]) <;> ((try simp only [zn] at hc) <;> (try simp (disch := omega) only [zz hA, zb, zy, reduceCtorEq, Bool.false_eq_true, Int.reduceLT, Int.reduceLE, Int.reduceNeg] at hc) <;> (try simp only [zw] at hc)) <;> (try (exfalso; omega)))
        | refine AWp.exit ?_
        | refine AWp.ret ⟨.inr rfl, _, RetOk.ev tabOk (by conv => lhs; cbv), ?_⟩
        | refine AWp.drawVG [] rfl (by decide +kernel) (by conv => lhs; cbv) ?_)
    | (refine AOLg.pass ?_; refine AOLg.nx hA tabOk (by conv => lhs; cbv) ?_; first
        | refine NX.done ?_
        | refine NX.gt ?_
        | refine NX.gf ?_
        | (refine NX.gs ?_ ?_ <;> intro hc <;> rw [hc] <;> ((try simp only [zn] at hc) <;> (try simp (disch := omega) only [zz hA, zb, zy, reduceCtorEq, Bool.false_eq_true, Int.reduceLT, Int.reduceLE, Int.reduceNeg] at hc) <;> (try simp only [zw] at hc)) <;> (try (exfalso; omega)))
        | ((first | (refine NX.k 1 ?_; first | refine NX.one (One.elemM hA tabOk rfl rfl rfl rfl ?_ ?_) ?_ | refine NX.one (One.elemOwnM hA tabOk rfl rfl rfl rfl rfl ?_ ?_) ?_) | (refine NX.k 7 ?_; first | refine NX.one (One.concatM hA rfl rfl rfl ?_) ?_) | (refine NX.k 10 ?_; first | refine NX.one (One.lenOwnM hA tabOk rfl rfl rfl rfl) ?_) | (refine NX.k 14 ?_; first | refine NX.one (One.loadRatM hA tabOk rfl rfl rfl rfl rfl rfl ?_) ?_) | (refine NX.k 15 ?_; first | refine NX.one (One.storeRatM hA tabOk _ rfl rfl rfl rfl rfl rfl rfl rfl (fun _ => rfl) ?_) ?_)) <;> (first | refine AOLg.pass ?_ | (((try simp only [zn]) <;> (try simp (disch := omega) only [zz hA, zb, zy, reduceCtorEq, Bool.false_eq_true, Int.reduceLT, Int.reduceLE, Int.reduceNeg]) <;> (try simp only [zw])) <;> omega)))
        | refine NX.raw ?_)
    | (refine TRg.pass ?_; refine TRg.nx hA tabOk (by conv => lhs; cbv) ?_; first
        | refine TX.done ?_
        | refine TX.gt ?_
        | refine TX.gf ?_
        | (refine TX.gs ?_ ?_ <;> intro hc <;> rw [hc] <;> ((try simp only [zn] at hc) <;> (try simp (disch := omega) only [zz hA, zb, zy, reduceCtorEq, Bool.false_eq_true, Int.reduceLT, Int.reduceLE, Int.reduceNeg] at hc) <;> (try simp only [zw] at hc)) <;> (try (exfalso; omega)))
        | ((first | (refine TX.k 1 ?_; first | refine TX.one (One.elemM hA tabOk rfl rfl rfl rfl ?_ ?_) ?_ | refine TX.one (One.elemOwnM hA tabOk rfl rfl rfl rfl rfl ?_ ?_) ?_) | (refine TX.k 7 ?_; first | refine TX.one (One.concatM hA rfl rfl rfl ?_) ?_) | (refine TX.k 10 ?_; first | refine TX.one (One.lenOwnM hA tabOk rfl rfl rfl rfl) ?_) | (refine TX.k 14 ?_; first | refine TX.one (One.loadRatM hA tabOk rfl rfl rfl rfl rfl rfl ?_) ?_) | (refine TX.k 15 ?_; first | refine TX.one (One.storeRatM hA tabOk _ rfl rfl rfl rfl rfl rfl rfl rfl (fun _ => rfl) ?_) ?_)) <;> (first | refine TRg.pass ?_ | (((try simp only [zn]) <;> (try simp (disch := omega) only [zz hA, zb, zy, reduceCtorEq, Bool.false_eq_true, Int.reduceLT, Int.reduceLE, Int.reduceNeg]) <;> (try simp only [zw])) <;> omega)))
        | refine TX.raw ?_)
    | refine Fin3.of (by conv => lhs; cbv) (by repeat' (first | exact True.intro | exact rfl | refine And.intro ?_ ?_)) ?_ ?_
    | (refine AllO.pass ?_; first
        | exact AllO.nil
        | (refine AllO.cons (One.ev hA tabOk ?_) ?_ <;> (first | refine AllO.pass ?_ | ((conv => lhs; cbv); done)))
        | (refine AllO.cons (One.skipB ?_) ?_ <;> (first | refine AllO.pass ?_ | ((conv => lhs; cbv); done)))
        | ((first | refine AllO.consX (One.elemM hA tabOk rfl rfl rfl rfl ?_ ?_) rfl rfl ?_ | refine AllO.consX (One.concatM hA rfl rfl rfl ?_) rfl rfl ?_ | refine AllO.consX (One.lenOwnM hA tabOk rfl rfl rfl rfl) rfl rfl ?_ | refine AllO.consX (One.elemOwnM hA tabOk rfl rfl rfl rfl rfl ?_ ?_) rfl rfl ?_ | refine AllO.consX (One.loadRatM hA tabOk rfl rfl rfl rfl rfl rfl ?_) rfl rfl ?_) <;> (first | refine AllO.pass ?_ | (((try simp only [zn]) <;> (try simp (disch := omega) only [zz hA, zb, zy, reduceCtorEq, Bool.false_eq_true, Int.reduceLT, Int.reduceLE, Int.reduceNeg]) <;> (try simp only [zw])) <;> omega))))
    | refine Thn.exit ?_
    | refine Blk.here ?_
    | refine Blk.other (by decide) ?_
    | refine ⟨.inl rfl, _, RetOk.ev tabOk (by conv => lhs; cbv), ?_⟩
    | fail)
  refine AWp.loopU (fun i : Nat => [(2, .ic (.lit (.int .i64 (hid A (cN i))))), (3, .ic (.lit (.int .i64 (hid A ((l.length : Int) - 1 - cN i)))))]) (fun i => [q0, q1, .row true ver 3 1 (hid A (List.map encI (revI l i)))]) (fun i => l.length - 2 * i) (fun i => 2 * i ≤ l.length + 1) 0 (by conv => lhs; cbv) (by omega) (by
    refine .int rfl ?_ (.int rfl ?_ .nil) 
    all_goals (first | done | (((try simp only [zn]) <;> (try simp (disch := omega) only [zz hA, zb, zy, reduceCtorEq, Bool.false_eq_true, Int.reduceLT, Int.reduceLE, Int.reduceNeg]) <;> (try simp only [zw])) <;> omega))) (by simp only [revI_zero]) ?_
  intro i hi
  have hrl := revI_len l i
  by_cases hlt : 2 * i + 1 < l.length
  · have hst := revI_step l i hlt
    have hj : ((l.length : Int) - 1 - i).toNat = l.length - 1 - i := by omega
    generalize revI l i = r at *
    try first | refine AOLg.of [] ?_ | refine QSg.of [] ?_
    repeat' (first
      | (refine AWp.pass ?_; first
          | refine AWp.seq ?_
          | refine AWp.block ?_
          | refine AWp.skip ?_
          | refine AWp.regG [] (by conv => lhs; cbv) ?_
          | refine AWp.cond_t rfl ?_
          | refine AWp.cond_f rfl ?_
          | (refine AWp.cond rfl ?_ ?_ <;> intro hc <;> (try rw [hc]) <;> ((try simp only [zn] at hc) <;> (try simp (disch := omega) only [zz hA, zb, zy, reduceCtorEq, Bool.false_eq_true, Int.reduceLT, Int.reduceLE, Int.reduceNeg] at hc) <;> (try simp only [zw] at hc)) <;> (try (exfalso; omega)))
          | refine AWp.exit ?_
          | refine AWp.ret ⟨.inr rfl, _, RetOk.ev tabOk (by conv => lhs; cbv), ?_⟩
          | refine AWp.drawVG [] rfl (by decide +kernel) (by conv => lhs; cbv) ?_)
      | (refine AOLg.pass ?_; refine AOLg.nx hA tabOk (by conv => lhs; cbv) ?_; first
          | refine NX.done ?_
          | refine NX.gt ?_
          | refine NX.gf ?_
          | (refine NX.gs ?_ ?_ <;> intro hc <;> rw [hc] <;> ((try simp only [zn] at hc) <;> (try simp (disch := omega) only [zz hA, zb, zy, reduceCtorEq, Bool.false_eq_true, Int.reduceLT, Int.reduceLE, Int.reduceNeg] at hc) <;> (try simp only [zw] at hc)) <;> (try (exfalso; omega)))
          | ((first | (refine NX.k 1 ?_; first | refine NX.one (One.elemM hA tabOk rfl rfl rfl rfl ?_ ?_) ?_ | refine NX.one (One.elemOwnM hA tabOk rfl rfl rfl rfl rfl ?_ ?_) ?_) | (refine NX.k 7 ?_; first | refine NX.one (One.concatM hA rfl rfl rfl ?_) ?_) | (refine NX.k 10 ?_; first | refine NX.one (One.lenOwnM hA tabOk rfl rfl rfl rfl) ?_) | (refine NX.k 14 ?_; first | refine NX.one (One.loadRatM hA tabOk rfl rfl rfl rfl rfl rfl ?_) ?_) | (refine NX.k 15 ?_; first | refine NX.one (One.storeRatM hA tabOk _ rfl rfl rfl rfl rfl rfl rfl rfl (fun _ => rfl) ?_) ?_)) <;> (first | refine AOLg.pass ?_ | (((try simp only [zn]) <;> (try simp (disch := omega) only [zz hA, zb, zy, reduceCtorEq, Bool.false_eq_true, Int.reduceLT, Int.reduceLE, Int.reduceNeg]) <;> (try simp only [zw])) <;> omega)))
          | refine NX.raw ?_)
      | (refine TRg.pass ?_; refine TRg.nx hA tabOk (by conv => lhs; cbv) ?_; first
          | refine TX.done ?_
          | refine TX.gt ?_
          | refine TX.gf ?_
          | (refine TX.gs ?_ ?_ <;> intro hc <;> rw [hc] <;> ((try simp only [zn] at hc) <;> (try simp (disch := omega) only [zz hA, zb, zy, reduceCtorEq, Bool.false_eq_true, Int.reduceLT, Int.reduceLE, Int.reduceNeg] at hc) <;> (try simp only [zw] at hc)) <;> (try (exfalso; omega)))
          | ((first | (refine TX.k 1 ?_; first | refine TX.one (One.elemM hA tabOk rfl rfl rfl rfl ?_ ?_) ?_ | refine TX.one (One.elemOwnM hA tabOk rfl rfl rfl rfl rfl ?_ ?_) ?_) | (refine TX.k 7 ?_; first | refine TX.one (One.concatM hA rfl rfl rfl ?_) ?_) | (refine TX.k 10 ?_; first | refine TX.one (One.lenOwnM hA tabOk rfl rfl rfl rfl) ?_) | (refine TX.k 14 ?_; first | refine TX.one (One.loadRatM hA tabOk rfl rfl rfl rfl rfl rfl ?_) ?_) | (refine TX.k 15 ?_; first | refine TX.one (One.storeRatM hA tabOk _ rfl rfl rfl rfl rfl rfl rfl rfl (fun _ => rfl) ?_) ?_)) <;> (first | refine TRg.pass ?_ | (((try simp only [zn]) <;> (try simp (disch := omega) only [zz hA, zb, zy, reduceCtorEq, Bool.false_eq_true, Int.reduceLT, Int.reduceLE, Int.reduceNeg]) <;> (try simp only [zw])) <;> omega)))
          | refine TX.raw ?_)
      | refine Fin3.of (by conv => lhs; cbv) (by repeat' (first | exact True.intro | exact rfl | refine And.intro ?_ ?_)) ?_ ?_
      | (refine AllO.pass ?_; first
          | exact AllO.nil
          | (refine AllO.cons (One.ev hA tabOk ?_) ?_ <;> (first | refine AllO.pass ?_ | ((conv => lhs; cbv); done)))
          | (refine AllO.cons (One.skipB ?_) ?_ <;> (first | refine AllO.pass ?_ | ((conv => lhs; cbv); done)))
          | ((first | refine AllO.consX (One.elemM hA tabOk rfl rfl rfl rfl ?_ ?_) rfl rfl ?_ | refine AllO.consX (One.concatM hA rfl rfl rfl ?_) rfl rfl ?_ | refine AllO.consX (One.lenOwnM hA tabOk rfl rfl rfl rfl) rfl rfl ?_ | refine AllO.consX (One.elemOwnM hA tabOk rfl rfl rfl rfl rfl ?_ ?_) rfl rfl ?_ | refine AllO.consX (One.loadRatM hA tabOk rfl rfl rfl rfl rfl rfl ?_) rfl rfl ?_) <;> (first | refine AllO.pass ?_ | (((try simp only [zn]) <;> (try simp (disch := omega) only [zz hA, zb, zy, reduceCtorEq, Bool.false_eq_true, Int.reduceLT, Int.reduceLE, Int.reduceNeg]) <;> (try simp only [zw])) <;> omega))))
      | refine Thn.exit ?_
      | refine Blk.here ?_
      | refine Blk.other (by decide) ?_
      | refine ⟨.inl rfl, _, RetOk.ev tabOk (by conv => lhs; cbv), ?_⟩
      | fail)
    all_goals try (first | done | (((try simp only [zn]) <;> (try simp (disch := omega) only [zz hA, zb, zy, reduceCtorEq, Bool.false_eq_true, Int.reduceLT, Int.reduceLE, Int.reduceNeg]) <;> (try simp only [zw])) <;> omega))
    refine ⟨i + 1, ?_, ?_, rfl, ?_, ?_, (by repeat' (first | exact subE.nil | refine subE.cons rfl ?_))⟩ <;> (try omega)
    · ((try simp only [zn]) <;> (try simp (disch := omega) only [zz hA, zb, zy, reduceCtorEq, Bool.false_eq_true, Int.reduceLT, Int.reduceLE, Int.reduceNeg, hj, hst]) <;> (try simp only [zw]))
    · refine subE.int rfl ?_ (subE.int rfl ?_ subE.nil)
      all_goals (((try simp only [zn]) <;> (try simp (disch := omega) only [zz hA, zb, zy, reduceCtorEq, Bool.false_eq_true, Int.reduceLT, Int.reduceLE, Int.reduceNeg]) <;> (try simp only [zw])) <;> omega)
  · have hall := revI_all l i (by omega)
    try first | refine AOLg.of [] ?_ | refine QSg.of [] ?_
    repeat' (first
      | (refine AWp.pass ?_; first
          | refine AWp.seq ?_
          | refine AWp.block ?_
          | refine AWp.skip ?_
          | refine AWp.regG [] (by conv => lhs; cbv) ?_
          | refine AWp.cond_t rfl ?_
          | refine AWp.cond_f rfl ?_
          | (refine AWp.cond rfl ?_ ?_ <;> intro hc <;> (try rw [hc]) <;> ((try simp only [zn] at hc) <;> (try simp (disch := omega) only [zz hA, zb, zy, reduceCtorEq, Bool.false_eq_true, Int.reduceLT, Int.reduceLE, Int.reduceNeg] at hc) <;> (try simp only [zw] at hc)) <;> (try (exfalso; omega)))
          | refine AWp.exit ?_
          | refine AWp.ret ⟨.inr rfl, _, RetOk.ev tabOk (by conv => lhs; cbv), ?_⟩
          | refine AWp.drawVG [] rfl (by decide +kernel) (by conv => lhs; cbv) ?_)
      | (refine AOLg.pass ?_; refine AOLg.nx hA tabOk (by conv => lhs; cbv) ?_; first
          | refine NX.done ?_
          | refine NX.gt ?_
          | refine NX.gf ?_
          | (refine NX.gs ?_ ?_ <;> intro hc <;> rw [hc] <;> ((try simp only [zn] at hc) <;> (try simp (disch := omega) only [zz hA, zb, zy, reduceCtorEq, Bool.false_eq_true, Int.reduceLT, Int.reduceLE, Int.reduceNeg] at hc) <;> (try simp only [zw] at hc)) <;> (try (exfalso; omega)))
          | ((first | (refine NX.k 1 ?_; first | refine NX.one (One.elemM hA tabOk rfl rfl rfl rfl ?_ ?_) ?_ | refine NX.one (One.elemOwnM hA tabOk rfl rfl rfl rfl rfl ?_ ?_) ?_) | (refine NX.k 7 ?_; first | refine NX.one (One.concatM hA rfl rfl rfl ?_) ?_) | (refine NX.k 10 ?_; first | refine NX.one (One.lenOwnM hA tabOk rfl rfl rfl rfl) ?_) | (refine NX.k 14 ?_; first | refine NX.one (One.loadRatM hA tabOk rfl rfl rfl rfl rfl rfl ?_) ?_) | (refine NX.k 15 ?_; first | refine NX.one (One.storeRatM hA tabOk _ rfl rfl rfl rfl rfl rfl rfl rfl (fun _ => rfl) ?_) ?_)) <;> (first | refine AOLg.pass ?_ | (((try simp only [zn]) <;> (try simp (disch := omega) only [zz hA, zb, zy, reduceCtorEq, Bool.false_eq_true, Int.reduceLT, Int.reduceLE, Int.reduceNeg]) <;> (try simp only [zw])) <;> omega)))
          | refine NX.raw ?_)
      | (refine TRg.pass ?_; refine TRg.nx hA tabOk (by conv => lhs; cbv) ?_; first
          | refine TX.done ?_
          | refine TX.gt ?_
          | refine TX.gf ?_
          | (refine TX.gs ?_ ?_ <;> intro hc <;> rw [hc] <;> ((try simp only [zn] at hc) <;> (try simp (disch := omega) only [zz hA, zb, zy, reduceCtorEq, Bool.false_eq_true, Int.reduceLT, Int.reduceLE, Int.reduceNeg] at hc) <;> (try simp only [zw] at hc)) <;> (try (exfalso; omega)))
          | ((first | (refine TX.k 1 ?_; first | refine TX.one (One.elemM hA tabOk rfl rfl rfl rfl ?_ ?_) ?_ | refine TX.one (One.elemOwnM hA tabOk rfl rfl rfl rfl rfl ?_ ?_) ?_) | (refine TX.k 7 ?_; first | refine TX.one (One.concatM hA rfl rfl rfl ?_) ?_) | (refine TX.k 10 ?_; first | refine TX.one (One.lenOwnM hA tabOk rfl rfl rfl rfl) ?_) | (refine TX.k 14 ?_; first | refine TX.one (One.loadRatM hA tabOk rfl rfl rfl rfl rfl rfl ?_) ?_) | (refine TX.k 15 ?_; first | refine TX.one (One.storeRatM hA tabOk _ rfl rfl rfl rfl rfl rfl rfl rfl (fun _ => rfl) ?_) ?_)) <;> (first | refine TRg.pass ?_ | (((try simp only [zn]) <;> (try simp (disch := omega) only [zz hA, zb, zy, reduceCtorEq, Bool.false_eq_true, Int.reduceLT, Int.reduceLE, Int.reduceNeg]) <;> (try simp only [zw])) <;> omega)))
          | refine TX.raw ?_)
      | refine Fin3.of (by conv => lhs; cbv) (by repeat' (first | exact True.intro | exact rfl | refine And.intro ?_ ?_)) ?_ ?_
      | (refine AllO.pass ?_; first
          | exact AllO.nil
          | (refine AllO.cons (One.ev hA tabOk ?_) ?_ <;> (first | refine AllO.pass ?_ | ((conv => lhs; cbv); done)))
          | (refine AllO.cons (One.skipB ?_) ?_ <;> (first | refine AllO.pass ?_ | ((conv => lhs; cbv); done)))
          | ((first | refine AllO.consX (One.elemM hA tabOk rfl rfl rfl rfl ?_ ?_) rfl rfl ?_ | refine AllO.consX (One.concatM hA rfl rfl rfl ?_) rfl rfl ?_ | refine AllO.consX (One.lenOwnM hA tabOk rfl rfl rfl rfl) rfl rfl ?_ | refine AllO.consX (One.elemOwnM hA tabOk rfl rfl rfl rfl rfl ?_ ?_) rfl rfl ?_ | refine AllO.consX (One.loadRatM hA tabOk rfl rfl rfl rfl rfl rfl ?_) rfl rfl ?_) <;> (first | refine AllO.pass ?_ | (((try simp only [zn]) <;> (try simp (disch := omega) only [zz hA, zb, zy, reduceCtorEq, Bool.false_eq_true, Int.reduceLT, Int.reduceLE, Int.reduceNeg]) <;> (try simp only [zw])) <;> omega))))
      | refine Thn.exit ?_
      | refine Blk.here ?_
      | refine Blk.other (by decide) ?_
      | refine ⟨.inl rfl, _, RetOk.ev tabOk (by conv => lhs; cbv), ?_⟩
      | fail)
    all_goals try (first | done | (((try simp only [zn]) <;> (try simp (disch := omega) only [zz hA, zb, zy, reduceCtorEq, Bool.false_eq_true, Int.reduceLT, Int.reduceLE, Int.reduceNeg]) <;> (try simp only [zw])) <;> omega))
    exact ⟨rfl, by rw [hall]⟩
end Go.Proofs.Ytpphdaphbkepfaa.Aw

/- Contracts of package term, part 6: Right. -/
set_option linter.unusedVariables false
set_option linter.unusedSimpArgs false
namespace Go.Proofs.Ytpphdaphbkepfaa.Aw
open Go Go.RowKit
set_option maxRecDepth 10000
attribute [local irreducible] AWp AOL QS One AOLg QSg NX QX TRg TX AllO Fin3
variable {A : Ar} (hA : A = real)
include hA
set_option maxHeartbeats 4000000 in
theorem tRight_c (l : List Sg) (K : List (List Int)) (S : List Int) (hl : l.length ≤ 1000000) (hsz : FitG l) (hK : K.length ≤ 900000) (hk : ∀ x ∈ K, x.length ≤ 1000000) (hS : S.length ≤ 100000000) :
    PureCalls Try.prog 47 [slP A 2 (encG A) l, keyedPV A K S] (BP (hid A (rightT l K S))) := by
  have hr := right_c hA K S hK hk hS
  by_cases h1 : K.Nodup ∧ S = layM K
  · rw [decide_eq_true h1, hid_eq hA (α := Bool)] at hr
    by_cases h2 : 2 ≤ K.length
    · have hrt : rightT l K S = allB K.length fun i => keyOk l i (K.getD i default) := by unfold rightT; rw [decide_eq_true h1, decide_eq_true h2]; rfl
      refine PureCalls.of Try.func47 rfl (by kernel_rfl) rfl ?_
      try first | refine AOLg.of [] ?_ | refine QSg.of [] ?_
      repeat' (first
        | (refine AWp.pass ?_; first
            | refine AWp.seq ?_
            | refine AWp.block ?_
            | refine AWp.skip ?_
            | refine AWp.regG [] (by conv => lhs; cbv) ?_
            | refine AWp.cond_t rfl ?_
            | refine AWp.cond_f rfl ?_
            | (refine AWp.cond rfl ?_ ?_ <;> intro hc <;> (try rw [hc]) <;> ((try simp only [zn] at hc) <;> (try simp (disch := omega) only [zz hA, zb, zy, reduceCtorEq, Bool.false_eq_true, Int.reduceLT, Int.reduceLE, Int.reduceNeg] at hc) <;> (try simp only [zw] at hc)) <;> (try (exfalso; omega)))
            | refine AWp.exit ?_
            | refine AWp.ret ⟨.inr rfl, _, RetOk.ev tabOk (by conv => lhs; cbv), ?_⟩)
        | (refine AOLg.pass ?_; refine AOLg.nx hA tabOk (by conv => lhs; cbv) ?_; first
            | refine NX.done ?_
            | refine NX.gt ?_
            | refine NX.gf ?_
            | (refine NX.gs ?_ ?_ <;> intro hc <;> rw [hc] <;> ((try simp only [zn] at hc) <;> (try simp (disch := omega) only [zz hA, zb, zy, reduceCtorEq, Bool.false_eq_true, Int.reduceLT, Int.reduceLE, Int.reduceNeg] at hc) <;> (try simp only [zw] at hc)) <;> (try (exfalso; omega)))
            | (refine NX.kC ?_; first | (with_reducible refine NX.call (hr) ?_) | ((first | refine NX.call (hr) ?_)) | fail)
            | (refine NX.kO ?_; (first | refine NX.callO (hr) (by simp [allEq]) rfl ?_))
            | ((first | (refine NX.k 1 ?_; first | refine NX.one (One.elemM hA tabOk rfl rfl rfl rfl ?_ ?_) ?_ | refine NX.one (One.elemOwnM hA tabOk rfl rfl rfl rfl rfl ?_ ?_) ?_) | (refine NX.k 7 ?_; first | refine NX.one (One.concatM hA rfl rfl rfl ?_) ?_) | (refine NX.k 9 ?_; first | refine NX.one (One.neBoolM hA tabOk rfl rfl rfl rfl rfl) ?_) | (refine NX.k 10 ?_; first | refine NX.one (One.lenOwnM hA tabOk rfl rfl rfl rfl) ?_) | (refine NX.k 14 ?_; first | refine NX.one (One.loadRatM hA tabOk rfl rfl rfl rfl rfl rfl ?_) ?_) | (refine NX.k 15 ?_; first | refine NX.one (One.storeRatM hA tabOk _ rfl rfl rfl rfl rfl rfl rfl rfl (fun _ => rfl) ?_) ?_) | (refine NX.k 18 ?_; first | refine NX.one (One.fieldRat tabOk rfl rfl rfl rfl (by decide) rfl rfl) ?_)) <;> (first | refine AOLg.pass ?_ | (((try simp only [zn]) <;> (try simp (disch := omega) only [zz hA, zb, zy, reduceCtorEq, Bool.false_eq_true, Int.reduceLT, Int.reduceLE, Int.reduceNeg]) <;> (try simp only [zw])) <;> omega)))
            | refine NX.raw ?_)
        | refine Thn.exit ?_
        | refine Blk.here ?_
        | refine Blk.other (by decide) ?_
        | refine ⟨.inl rfl, _, RetOk.ev tabOk (by conv => lhs; cbv), ?_⟩
        | fail)
      refine AWp.loopT 1 (fun i : Nat => [(21, .ic (.lit (.int .i64 (hid A (cN i)))))]) (fun _ => [.var true 25 [.ic (.sl 1 false (hid A (List.map (encK A) K))), .ic (.sl 1 false (hid A (List.map encI S)))]])
        (fun i => K.length - i) (fun i => i ≤ K.length ∧ ∀ j, j < i → keyOk l j (K.getD j default) = true) 0 (by conv => lhs; cbv) ⟨Nat.zero_le _, by simp⟩ (by (repeat' (first | exact subE.nil | refine subE.cons rfl ?_ | refine subE.int rfl ?_ ?_ | refine subE.bool rfl ?_ ?_ | refine subE.str rfl ?_ ?_ | refine subE.sl rfl ?_ ?_)) <;> simp [hA, real, hid, cN]) rfl (fun _ => rfl) (fun _ => rfl) ?_
      rintro i ⟨hi0, hok⟩
      simp only [] at hi0 ⊢
      by_cases hi : i < K.length
      · have hno : keyOk l i (K.getD i default) = false → rightT l K S = false := fun h => by rw [hrt, allB_f hi h]
        have hmem : K.getD i default ∈ K := by rw [List.getD_eq_getElem?_getD, List.getElem?_eq_getElem hi]; exact List.getElem_mem _
        have hkl := hk _ hmem
        by_cases h3 : 3 ≤ (K.getD i default).length
        · obtain ⟨k, s, p, a, hq⟩ := key_ex h3
          have hal : a.length + 3 = (K.getD i default).length := by rw [hq]; rfl
          have hof : ∀ q : List Int, q = K.getD i default → PureCalls Try.prog 55 [intsP A q] (.tup [tmP A k s p a, BP true]) := by
            rintro z rfl
            rw [hq]
            exact of_c1 hA k s p a (by omega)
          have hmay : ∀ z : Int, z = i → PureCalls Try.prog 54 [slP A 2 (encG A) l, IP z, tmP A k s p a] (BP (hid A (mayM l i k s p a))) := by
            rintro z rfl
            exact tmay_c hA l i k s p a (by omega) hl hsz
          have hkk := keyOk_T l i k s p a
          rw [← hq] at hkk
          rw [hkk] at hno
          try first | refine AOLg.of [] ?_ | refine QSg.of [] ?_
          repeat' (first
            | (refine AWp.pass ?_; first
                | refine AWp.seq ?_
                | refine AWp.block ?_
                | refine AWp.skip ?_
                | refine AWp.regG [] (by conv => lhs; cbv) ?_
                | refine AWp.cond_t rfl ?_
                | refine AWp.cond_f rfl ?_
                | (refine AWp.cond rfl ?_ ?_ <;> intro hc <;> (try rw [hc]) <;> ((try simp only [zn] at hc) <;> (try simp (disch := omega) only [zz hA, zb, zy, reduceCtorEq, Bool.false_eq_true, Int.reduceLT, Int.reduceLE, Int.reduceNeg] at hc) <;> (try simp only [zw] at hc)) <;> (try (exfalso; omega)))
                | refine AWp.exit ?_
                | refine AWp.ret ⟨.inr rfl, _, RetOk.ev tabOk (by conv => lhs; cbv), ?_⟩)
            | (refine AOLg.pass ?_; refine AOLg.nx hA tabOk (by conv => lhs; cbv) ?_; first
                | refine NX.done ?_
                | refine NX.gt ?_
                | refine NX.gf ?_
                | (refine NX.gs ?_ ?_ <;> intro hc <;> rw [hc] <;> ((try simp only [zn] at hc) <;> (try simp (disch := omega) only [zz hA, zb, zy, reduceCtorEq, Bool.false_eq_true, Int.reduceLT, Int.reduceLE, Int.reduceNeg] at hc) <;> (try simp only [zw] at hc)) <;> (try (exfalso; omega)))
                | (refine NX.kC ?_; first | (with_reducible refine NX.call (hof _ (by simp [hA, real, hid, cN])) ?_) | ((with_reducible refine NX.call (hmay _ ?_) ?_) <;> (first | refine AOLg.pass ?_ | (((try simp only [zn]) <;> (try simp (disch := omega) only [zz hA, zb, zy, reduceCtorEq, Bool.false_eq_true, Int.reduceLT, Int.reduceLE, Int.reduceNeg]) <;> (try simp only [zw])) <;> omega))) | ((first | refine NX.call (hof _ (by simp [hA, real, hid, cN])) ?_ | refine NX.call (hmay _ ?_) ?_) <;> (first | refine AOLg.pass ?_ | (((try simp only [zn]) <;> (try simp (disch := omega) only [zz hA, zb, zy, reduceCtorEq, Bool.false_eq_true, Int.reduceLT, Int.reduceLE, Int.reduceNeg]) <;> (try simp only [zw])) <;> omega))) | fail)
                | (refine NX.kO ?_; (first | refine NX.callO (hof _ (by simp [hA, real, hid, cN])) (by simp [allEq]) rfl ?_ | refine NX.callO (hmay _ ?_) (by simp [allEq]) rfl ?_) <;> (first | refine AOLg.pass ?_ | (((try simp only [zn]) <;> (try simp (disch := omega) only [zz hA, zb, zy, reduceCtorEq, Bool.false_eq_true, Int.reduceLT, Int.reduceLE, Int.reduceNeg]) <;> (try simp only [zw])) <;> omega)))
                | ((first | (refine NX.k 1 ?_; first | refine NX.one (One.elemM hA tabOk rfl rfl rfl rfl ?_ ?_) ?_ | refine NX.one (One.elemOwnM hA tabOk rfl rfl rfl rfl rfl ?_ ?_) ?_) | (refine NX.k 7 ?_; first | refine NX.one (One.concatM hA rfl rfl rfl ?_) ?_) | (refine NX.k 9 ?_; first | refine NX.one (One.neBoolM hA tabOk rfl rfl rfl rfl rfl) ?_) | (refine NX.k 10 ?_; first | refine NX.one (One.lenOwnM hA tabOk rfl rfl rfl rfl) ?_) | (refine NX.k 14 ?_; first | refine NX.one (One.loadRatM hA tabOk rfl rfl rfl rfl rfl rfl ?_) ?_) | (refine NX.k 15 ?_; first | refine NX.one (One.storeRatM hA tabOk _ rfl rfl rfl rfl rfl rfl rfl rfl (fun _ => rfl) ?_) ?_) | (refine NX.k 18 ?_; first | refine NX.one (One.fieldRat tabOk rfl rfl rfl rfl (by decide) rfl rfl) ?_)) <;> (first | refine AOLg.pass ?_ | (((try simp only [zn]) <;> (try simp (disch := omega) only [zz hA, zb, zy, reduceCtorEq, Bool.false_eq_true, Int.reduceLT, Int.reduceLE, Int.reduceNeg]) <;> (try simp only [zw])) <;> omega)))
                | refine NX.raw ?_)
            | refine Thn.exit ?_
            | refine Blk.here ?_
            | refine Blk.other (by decide) ?_
            | refine ⟨.inl rfl, _, RetOk.ev tabOk (by conv => lhs; cbv), ?_⟩
            | fail)
          all_goals first
            | (refine rPV_then (by conv => lhs; cbv) ?_
               rw [hno (by clear hno hrt hof hmay hr; simp_all <;> omega)]
               simp [hid_eq hA]; done)
            | skip
          all_goals
            refine ⟨i + 1, ⟨by omega, stepB hok (by rw [hkk]; clear hno hrt hof hmay hr; simp_all <;> omega)⟩, by omega, rfl, rfl, (by repeat' (first | exact trimOk.nil | refine trimOk.same ?_ | refine trimOk.turn rfl ?_)), rfl, rfl, ?_, (by repeat' (first | exact subE.nil | refine subE.cons rfl ?_))⟩
            exact .int rfl (by (((try simp only [zn]) <;> (try simp (disch := omega) only [zz hA, zb, zy, reduceCtorEq, Bool.false_eq_true, Int.reduceLT, Int.reduceLE, Int.reduceNeg]) <;> (try simp only [zw])) <;> omega)) .nil
        · have hof : ∀ q : List Int, q = K.getD i default → PureCalls Try.prog 55 [intsP A q] (.tup [.agg [.lit (.int .i64 0), .lit (.int .i64 0), .lit (.int .i64 0), .sl 0 true []], BP false]) := by
            rintro z rfl
            exact of_c0 hA _ (by omega)
          have hnn : rightT l K S = false := hno (by unfold keyOk; rw [decide_eq_false h3]; rfl)
          try first | refine AOLg.of [] ?_ | refine QSg.of [] ?_
          repeat' (first
            | (refine AWp.pass ?_; first
                | refine AWp.seq ?_
                | refine AWp.block ?_
                | refine AWp.skip ?_
                | refine AWp.regG [] (by conv => lhs; cbv) ?_
                | refine AWp.cond_t rfl ?_
                | refine AWp.cond_f rfl ?_
                | (refine AWp.cond rfl ?_ ?_ <;> intro hc <;> (try rw [hc]) <;> ((try simp only [zn] at hc) <;> (try simp (disch := omega) only [zz hA, zb, zy, reduceCtorEq, Bool.false_eq_true, Int.reduceLT, Int.reduceLE, Int.reduceNeg] at hc) <;> (try simp only [zw] at hc)) <;> (try (exfalso; omega)))
                | refine AWp.exit ?_
                | refine AWp.ret ⟨.inr rfl, _, RetOk.ev tabOk (by conv => lhs; cbv), ?_⟩)
            | (refine AOLg.pass ?_; refine AOLg.nx hA tabOk (by conv => lhs; cbv) ?_; first
                | refine NX.done ?_
                | refine NX.gt ?_
                | refine NX.gf ?_
                | (refine NX.gs ?_ ?_ <;> intro hc <;> rw [hc] <;> ((try simp only [zn] at hc) <;> (try simp (disch := omega) only [zz hA, zb, zy, reduceCtorEq, Bool.false_eq_true, Int.reduceLT, Int.reduceLE, Int.reduceNeg] at hc) <;> (try simp only [zw] at hc)) <;> (try (exfalso; omega)))
                | (refine NX.kC ?_; first | (with_reducible refine NX.call (hof _ (by simp [hA, real, hid, cN])) ?_) | ((first | refine NX.call (hof _ (by simp [hA, real, hid, cN])) ?_)) | fail)
                | (refine NX.kO ?_; (first | refine NX.callO (hof _ (by simp [hA, real, hid, cN])) (by simp [allEq]) rfl ?_))
                | ((first | (refine NX.k 1 ?_; first | refine NX.one (One.elemM hA tabOk rfl rfl rfl rfl ?_ ?_) ?_ | refine NX.one (One.elemOwnM hA tabOk rfl rfl rfl rfl rfl ?_ ?_) ?_) | (refine NX.k 7 ?_; first | refine NX.one (One.concatM hA rfl rfl rfl ?_) ?_) | (refine NX.k 9 ?_; first | refine NX.one (One.neBoolM hA tabOk rfl rfl rfl rfl rfl) ?_) | (refine NX.k 10 ?_; first | refine NX.one (One.lenOwnM hA tabOk rfl rfl rfl rfl) ?_) | (refine NX.k 14 ?_; first | refine NX.one (One.loadRatM hA tabOk rfl rfl rfl rfl rfl rfl ?_) ?_) | (refine NX.k 15 ?_; first | refine NX.one (One.storeRatM hA tabOk _ rfl rfl rfl rfl rfl rfl rfl rfl (fun _ => rfl) ?_) ?_) | (refine NX.k 18 ?_; first | refine NX.one (One.fieldRat tabOk rfl rfl rfl rfl (by decide) rfl rfl) ?_)) <;> (first | refine AOLg.pass ?_ | (((try simp only [zn]) <;> (try simp (disch := omega) only [zz hA, zb, zy, reduceCtorEq, Bool.false_eq_true, Int.reduceLT, Int.reduceLE, Int.reduceNeg]) <;> (try simp only [zw])) <;> omega)))
                | refine NX.raw ?_)
            | refine Thn.exit ?_
            | refine Blk.here ?_
            | refine Blk.other (by decide) ?_
            | refine ⟨.inl rfl, _, RetOk.ev tabOk (by conv => lhs; cbv), ?_⟩
            | fail)
          refine rPV_then (by conv => lhs; cbv) ?_
          rw [hnn, hid_eq hA]
      · have hyes : rightT l K S = true := by rw [hrt]; exact allB_t fun j hj => hok j (by omega)
        try first | refine AOLg.of [] ?_ | refine QSg.of [] ?_
        repeat' (first
          | (refine AWp.pass ?_; first
              | refine AWp.seq ?_
              | refine AWp.block ?_
              | refine AWp.skip ?_
              | refine AWp.regG [] (by conv => lhs; cbv) ?_
              | refine AWp.cond_t rfl ?_
              | refine AWp.cond_f rfl ?_
              | (refine AWp.cond rfl ?_ ?_ <;> intro hc <;> (try rw [hc]) <;> ((try simp only [zn] at hc) <;> (try simp (disch := omega) only [zz hA, zb, zy, reduceCtorEq, Bool.false_eq_true, Int.reduceLT, Int.reduceLE, Int.reduceNeg] at hc) <;> (try simp only [zw] at hc)) <;> (try (exfalso; omega)))
              | refine AWp.exit ?_
              | refine AWp.ret ⟨.inr rfl, _, RetOk.ev tabOk (by conv => lhs; cbv), ?_⟩)
          | (refine AOLg.pass ?_; refine AOLg.nx hA tabOk (by conv => lhs; cbv) ?_; first
              | refine NX.done ?_
              | refine NX.gt ?_
              | refine NX.gf ?_
              | (refine NX.gs ?_ ?_ <;> intro hc <;> rw [hc] <;> ((try simp only [zn] at hc) <;> (try simp (disch := omega) only [zz hA, zb, zy, reduceCtorEq, Bool.false_eq_true, Int.reduceLT, Int.reduceLE, Int.reduceNeg] at hc) <;> (try simp only [zw] at hc)) <;> (try (exfalso; omega)))
              | ((first | (refine NX.k 1 ?_; first | refine NX.one (One.elemM hA tabOk rfl rfl rfl rfl ?_ ?_) ?_ | refine NX.one (One.elemOwnM hA tabOk rfl rfl rfl rfl rfl ?_ ?_) ?_) | (refine NX.k 7 ?_; first | refine NX.one (One.concatM hA rfl rfl rfl ?_) ?_) | (refine NX.k 9 ?_; first | refine NX.one (One.neBoolM hA tabOk rfl rfl rfl rfl rfl) ?_) | (refine NX.k 10 ?_; first | refine NX.one (One.lenOwnM hA tabOk rfl rfl rfl rfl) ?_) | (refine NX.k 14 ?_; first | refine NX.one (One.loadRatM hA tabOk rfl rfl rfl rfl rfl rfl ?_) ?_) | (refine NX.k 15 ?_; first | refine NX.one (One.storeRatM hA tabOk _ rfl rfl rfl rfl rfl rfl rfl rfl (fun _ => rfl) ?_) ?_) | (refine NX.k 18 ?_; first | refine NX.one (One.fieldRat tabOk rfl rfl rfl rfl (by decide) rfl rfl) ?_)) <;> (first | refine AOLg.pass ?_ | (((try simp only [zn]) <;> (try simp (disch := omega) only [zz hA, zb, zy, reduceCtorEq, Bool.false_eq_true, Int.reduceLT, Int.reduceLE, Int.reduceNeg]) <;> (try simp only [zw])) <;> omega)))
              | refine NX.raw ?_)
          | refine Thn.exit ?_
          | refine Blk.here ?_
          | refine Blk.other (by decide) ?_
          | refine ⟨.inl rfl, _, RetOk.ev tabOk (by conv => lhs; cbv), ?_⟩
          | fail)
        refine rPV_then (by conv => lhs; cbv) ?_
        rw [hyes, hid_eq hA]
    · have hrt : rightT l K S = false := by unfold rightT; rw [decide_eq_false h2]; simp
      refine PureCalls.of Try.func47 rfl (by kernel_rfl) rfl ?_
      try first | refine AOLg.of [] ?_ | refine QSg.of [] ?_
      repeat' (first
        | (refine AWp.pass ?_; first
            | refine AWp.seq ?_
            | refine AWp.block ?_
            | refine AWp.skip ?_
            | refine AWp.regG [] (by conv => lhs; cbv) ?_
            | refine AWp.cond_t rfl ?_
            | refine AWp.cond_f rfl ?_
            | (refine AWp.cond rfl ?_ ?_ <;> intro hc <;> (try rw [hc]) <;> ((try simp only [zn] at hc) <;> (try simp (disch := omega) only [zz hA, zb, zy, reduceCtorEq, Bool.false_eq_true, Int.reduceLT, Int.reduceLE, Int.reduceNeg] at hc) <;> (try simp only [zw] at hc)) <;> (try (exfalso; omega)))
            | refine AWp.exit ?_
            | refine AWp.ret ⟨.inr rfl, _, RetOk.ev tabOk (by conv => lhs; cbv), ?_⟩)
        | (refine AOLg.pass ?_; refine AOLg.nx hA tabOk (by conv => lhs; cbv) ?_; first
            | refine NX.done ?_
            | refine NX.gt ?_
            | refine NX.gf ?_
            | (refine NX.gs ?_ ?_ <;> intro hc <;> rw [hc] <;> ((try simp only [zn] at hc) <;> (try simp (disch := omega) only [zz hA, zb, zy, reduceCtorEq, Bool.false_eq_true, Int.reduceLT, Int.reduceLE, Int.reduceNeg] at hc) <;> (try simp only [zw] at hc)) <;> (try (exfalso; omega)))
            | (refine NX.kC ?_; first | (with_reducible refine NX.call (hr) ?_) | ((first | refine NX.call (hr) ?_)) | fail)
            | (refine NX.kO ?_; (first | refine NX.callO (hr) (by simp [allEq]) rfl ?_))
            | ((first | (refine NX.k 1 ?_; first | refine NX.one (One.elemM hA tabOk rfl rfl rfl rfl ?_ ?_) ?_ | refine NX.one (One.elemOwnM hA tabOk rfl rfl rfl rfl rfl ?_ ?_) ?_) | (refine NX.k 7 ?_; first | refine NX.one (One.concatM hA rfl rfl rfl ?_) ?_) | (refine NX.k 9 ?_; first | refine NX.one (One.neBoolM hA tabOk rfl rfl rfl rfl rfl) ?_) | (refine NX.k 10 ?_; first | refine NX.one (One.lenOwnM hA tabOk rfl rfl rfl rfl) ?_) | (refine NX.k 14 ?_; first | refine NX.one (One.loadRatM hA tabOk rfl rfl rfl rfl rfl rfl ?_) ?_) | (refine NX.k 15 ?_; first | refine NX.one (One.storeRatM hA tabOk _ rfl rfl rfl rfl rfl rfl rfl rfl (fun _ => rfl) ?_) ?_) | (refine NX.k 18 ?_; first | refine NX.one (One.fieldRat tabOk rfl rfl rfl rfl (by decide) rfl rfl) ?_)) <;> (first | refine AOLg.pass ?_ | (((try simp only [zn]) <;> (try simp (disch := omega) only [zz hA, zb, zy, reduceCtorEq, Bool.false_eq_true, Int.reduceLT, Int.reduceLE, Int.reduceNeg]) <;> (try simp only [zw])) <;> omega)))
            | refine NX.raw ?_)
        | refine Thn.exit ?_
        | refine Blk.here ?_
        | refine Blk.other (by decide) ?_
        | refine ⟨.inl rfl, _, RetOk.ev tabOk (by conv => lhs; cbv), ?_⟩
        | fail)
      refine rPV_then (by conv => lhs; cbv) ?_
      rw [hrt, hid_eq hA]
  · rw [decide_eq_false h1, hid_eq hA (α := Bool)] at hr
    have hrt : rightT l K S = false := by unfold rightT; rw [decide_eq_false h1]; rfl
    refine PureCalls.of Try.func47 rfl (by kernel_rfl) rfl ?_
    try first | refine AOLg.of [] ?_ | refine QSg.of [] ?_
    repeat' (first
      | (refine AWp.pass ?_; first
          | refine AWp.seq ?_
          | refine AWp.block ?_
          | refine AWp.skip ?_
          | refine AWp.regG [] (by conv => lhs; cbv) ?_
          | refine AWp.cond_t rfl ?_
          | refine AWp.cond_f rfl ?_
          | (refine AWp.cond rfl ?_ ?_ <;> intro hc <;> (try rw [hc]) <;> ((try simp only [zn] at hc) <;> (try simp (disch := omega) only [zz hA, zb, zy, reduceCtorEq, Bool.false_eq_true, Int.reduceLT, Int.reduceLE, Int.reduceNeg] at hc) <;> (try simp only [zw] at hc)) <;> (try (exfalso; omega)))
          | refine AWp.exit ?_
          | refine AWp.ret ⟨.inr rfl, _, RetOk.ev tabOk (by conv => lhs; cbv), ?_⟩)
      | (refine AOLg.pass ?_; refine AOLg.nx hA tabOk (by conv => lhs; cbv) ?_; first
          | refine NX.done ?_
          | refine NX.gt ?_
          | refine NX.gf ?_
          | (refine NX.gs ?_ ?_ <;> intro hc <;> rw [hc] <;> ((try simp only [zn] at hc) <;> (try simp (disch := omega) only [zz hA, zb, zy, reduceCtorEq, Bool.false_eq_true, Int.reduceLT, Int.reduceLE, Int.reduceNeg] at hc) <;> (try simp only [zw] at hc)) <;> (try (exfalso; omega)))
          | (refine NX.kC ?_; first | (with_reducible refine NX.call (hr) ?_) | ((first | refine NX.call (hr) ?_)) | fail)
          | (refine NX.kO ?_; (first | refine NX.callO (hr) (by simp [allEq]) rfl ?_))
          | ((first | (refine NX.k 1 ?_; first | refine NX.one (One.elemM hA tabOk rfl rfl rfl rfl ?_ ?_) ?_ | refine NX.one (One.elemOwnM hA tabOk rfl rfl rfl rfl rfl ?_ ?_) ?_) | (refine NX.k 7 ?_; first | refine NX.one (One.concatM hA rfl rfl rfl ?_) ?_) | (refine NX.k 9 ?_; first | refine NX.one (One.neBoolM hA tabOk rfl rfl rfl rfl rfl) ?_) | (refine NX.k 10 ?_; first | refine NX.one (One.lenOwnM hA tabOk rfl rfl rfl rfl) ?_) | (refine NX.k 14 ?_; first | refine NX.one (One.loadRatM hA tabOk rfl rfl rfl rfl rfl rfl ?_) ?_) | (refine NX.k 15 ?_; first | refine NX.one (One.storeRatM hA tabOk _ rfl rfl rfl rfl rfl rfl rfl rfl (fun _ => rfl) ?_) ?_) | (refine NX.k 18 ?_; first | refine NX.one (One.fieldRat tabOk rfl rfl rfl rfl (by decide) rfl rfl) ?_)) <;> (first | refine AOLg.pass ?_ | (((try simp only [zn]) <;> (try simp (disch := omega) only [zz hA, zb, zy, reduceCtorEq, Bool.false_eq_true, Int.reduceLT, Int.reduceLE, Int.reduceNeg]) <;> (try simp only [zw])) <;> omega)))
          | refine NX.raw ?_)
      | refine Thn.exit ?_
      | refine Blk.here ?_
      | refine Blk.other (by decide) ?_
      | refine ⟨.inl rfl, _, RetOk.ev tabOk (by conv => lhs; cbv), ?_⟩
      | fail)
    refine rPV_then (by conv => lhs; cbv) ?_
    rw [hrt, hid_eq hA]
end Go.Proofs.Ytpphdaphbkepfaa.Aw

/- Contracts of package term, part 7: of what a term is made. -/
set_option linter.unusedVariables false
set_option linter.unusedSimpArgs false
namespace Go.Proofs.Ytpphdaphbkepfaa.Aw
open Go Go.RowKit
set_option maxRecDepth 10000
attribute [local irreducible] AWp AOL QS One AOLg QSg NX QX TRg TX AllO Fin3
def encT (b : Bool) : List IC := [.lit (.bool b)]
def argsK (K : List (List Int)) (n : Nat) : List Int := (K.getD n default).drop 3
def markA (r : List Bool) (a : List Int) : List Bool := a.foldl (fun r x => r.set x.toNat true) r
def belB (K : List (List Int)) (id : Nat) : Nat → List Bool
  | 0 => (List.replicate (id + 1) false).set id true
  | k + 1 => if (belB K id k).getD (id - k) default = true then markA (belB K id k) (argsK K (id - k)) else belB K id k
def belO (K : List (List Int)) (id : Nat) : Nat → List Int
  | 0 => []
  | k + 1 => if (belB K id k).getD (id - k) default = true then belO K id k ++ [((id - k : Nat) : Int)] else belO K id k
def belowM (K : List (List Int)) (id : Nat) : List Int := (belO K id (id + 1)).reverse
theorem markA_len (r : List Bool) (a : List Int) : (markA r a).length = r.length := by
  induction a generalizing r with
  | nil => rfl
  | cons x a ih => show (markA _ a).length = _; rw [ih, List.length_set]
theorem markA_succ (r : List Bool) (a : List Int) (j : Nat) (h : j < a.length) : markA r (a.take (j + 1)) = (markA r (a.take j)).set (a.getD j default).toNat true := by
  rw [List.take_succ_eq_append_getElem h]
  simp only [markA, List.foldl_append, List.foldl_cons, List.foldl_nil, List.getD_eq_getElem?_getD, List.getElem?_eq_getElem h, Option.getD_some]
theorem belB_len (K : List (List Int)) (id : Nat) : ∀ k, (belB K id k).length = id + 1
  | 0 => by simp [belB]
  | k + 1 => by
    unfold belB; split
    · rw [markA_len, belB_len K id k]
    · exact belB_len K id k
theorem belO_len (K : List (List Int)) (id : Nat) : ∀ k, (belO K id k).length ≤ k
  | 0 => by simp [belO]
  | k + 1 => by
    have := belO_len K id k
    unfold belO; split
    · simp; omega
    · omega
/-- Keys that stand for terms of what is ahead. -/
def Down (K : List (List Int)) : Prop := ∀ n, n < K.length → 3 ≤ (K.getD n default).length ∧ ∀ x ∈ argsK K n, 0 ≤ x ∧ x < n
variable {A : Ar} (hA : A = real)
include hA
theorem below_c0 (K : List (List Int)) (S : List Int) (z : Int) (hz : z < 0 ∨ (K.length : Int) ≤ z) : PureCalls Try.prog 30 [keyedPV A K S, IP z] (.c (.sl 0 true [])) := by
  refine PureCalls.of Try.func30 rfl (by kernel_rfl) rfl ?_
  try first | refine AOLg.of [] ?_ | refine QSg.of [] ?_
  repeat' (first
    | (refine AWp.pass ?_; first
        | refine AWp.seq ?_
        | refine AWp.block ?_
        | refine AWp.skip ?_
        | refine AWp.regG [] (by conv => lhs; cbv) ?_
        | refine AWp.cond_t rfl ?_
        | refine AWp.cond_f rfl ?_
        | (refine AWp.cond rfl ?_ ?_ <;> intro hc <;> (try rw [hc]) <;> ((try simp only [zn] at hc) <;> (try simp (disch := omega) only [zz hA, zb, zy, reduceCtorEq, Bool.false_eq_true, Int.reduceLT, Int.reduceLE, Int.reduceNeg] at hc) <;> (try simp only [zw] at hc)) <;> (try (exfalso; omega)))
        | refine AWp.exit ?_
        | refine AWp.ret ⟨.inr rfl, _, RetOk.ev tabOk (by conv => lhs; cbv), ?_⟩)
    | (refine AOLg.pass ?_; refine AOLg.nx hA tabOk (by conv => lhs; cbv) ?_; first
        | refine NX.done ?_
        | refine NX.gt ?_
        | refine NX.gf ?_
        | (refine NX.gs ?_ ?_ <;> intro hc <;> rw [hc] <;> ((try simp only [zn] at hc) <;> (try simp (disch := omega) only [zz hA, zb, zy, reduceCtorEq, Bool.false_eq_true, Int.reduceLT, Int.reduceLE, Int.reduceNeg] at hc) <;> (try simp only [zw] at hc)) <;> (try (exfalso; omega)))
        | ((first | (refine NX.k 1 ?_; first | refine NX.one (One.elemM hA tabOk rfl rfl rfl rfl ?_ ?_) ?_ | refine NX.one (One.elemOwnM hA tabOk rfl rfl rfl rfl rfl ?_ ?_) ?_) | (refine NX.k 7 ?_; first | refine NX.one (One.concatM hA rfl rfl rfl ?_) ?_) | (refine NX.k 10 ?_; first | refine NX.one (One.lenOwnM hA tabOk rfl rfl rfl rfl) ?_) | (refine NX.k 11 ?_; first | refine NX.one (One.appendM hA tabOk _ rfl rfl rfl rfl rfl rfl ?_ ?_) ?_ | refine NX.one (One.appendMM hA tabOk rfl rfl rfl rfl rfl ?_ ?_) ?_ | refine NX.one (One.appendOwnM hA tabOk _ rfl rfl rfl rfl rfl rfl rfl ?_ ?_) ?_ | refine NX.one (One.appendOwnMM hA tabOk rfl rfl rfl rfl rfl rfl ?_ ?_) ?_ | refine NX.one (One.appendOwn0 hA tabOk rfl rfl rfl rfl rfl rfl ?_ ?_) ?_) | (refine NX.k 14 ?_; first | refine NX.one (One.loadRatM hA tabOk rfl rfl rfl rfl rfl rfl ?_) ?_) | (refine NX.k 15 ?_; first | refine NX.one (One.storeRatM hA tabOk _ rfl rfl rfl rfl rfl rfl rfl rfl (fun _ => rfl) ?_) ?_) | (refine NX.k 16 ?_; first | refine NX.one (One.makeM hA tabOk encI 0 rfl rfl rfl rfl rfl rfl rfl ?_ ?_ ?_) ?_) | (refine NX.k 17 ?_; first | refine NX.one (One.build0 tabOk rfl rfl) ?_) | (refine NX.k 18 ?_; first | refine NX.one (One.fieldRat tabOk rfl rfl rfl rfl (by decide) rfl rfl) ?_)) <;> (first | refine AOLg.pass ?_ | (((try simp only [zn]) <;> (try simp (disch := omega) only [zz hA, zb, zy, reduceCtorEq, Bool.false_eq_true, Int.reduceLT, Int.reduceLE, Int.reduceNeg]) <;> (try simp only [zw])) <;> omega)))
        | refine NX.raw ?_)
    | refine Thn.exit ?_
    | refine Blk.here ?_
    | refine Blk.other (by decide) ?_
    | refine ⟨.inl rfl, _, RetOk.ev tabOk (by conv => lhs; cbv), ?_⟩
    | fail)
  all_goals first
    | (exfalso; omega)
    | (refine rPV_then (by conv => lhs; cbv) ?_
       rfl)
set_option maxHeartbeats 4000000 in
theorem below_c (K : List (List Int)) (S : List Int) (id : Nat) (hd : Down K) (hK : K.length ≤ 900000) (hk : ∀ x ∈ K, x.length ≤ 1000000) (hi : id < K.length) : ∀ z : Int, z = id → PureCalls Try.prog 30 [keyedPV A K S, IP z] (intsP A (belowM K id)) := by
  intro z hz
  refine PureCalls.of Try.func30 rfl (by kernel_rfl) rfl ?_
  try first | refine AOLg.of [6] ?_ | refine QSg.of [6] ?_
  repeat' (first
    | (refine AWp.pass ?_; first
        | refine AWp.seq ?_
        | refine AWp.block ?_
        | refine AWp.skip ?_
        | refine AWp.regG [6] (by conv => lhs; cbv) ?_
        | refine AWp.cond_t rfl ?_
        | refine AWp.cond_f rfl ?_
        | (refine AWp.cond rfl ?_ ?_ <;> intro hc <;> (try rw [hc]) <;> ((try simp only [zn] at hc) <;> (try simp (disch := omega) only [zz hA, zb, zy, reduceCtorEq, Bool.false_eq_true, Int.reduceLT, Int.reduceLE, Int.reduceNeg] at hc) <;> (try simp only [zw] at hc)) <;> (try (exfalso; omega)))
        | refine AWp.exit ?_
        | refine AWp.ret ⟨.inr rfl, _, RetOk.ev tabOk (by conv => lhs; cbv), ?_⟩)
    | (refine AOLg.pass ?_; refine AOLg.nx hA tabOk (by conv => lhs; cbv) ?_; first
        | refine NX.done ?_
        | refine NX.gt ?_
        | refine NX.gf ?_
        | (refine NX.gs ?_ ?_ <;> intro hc <;> rw [hc] <;> ((try simp only [zn] at hc) <;> (try simp (disch := omega) only [zz hA, zb, zy, reduceCtorEq, Bool.false_eq_true, Int.reduceLT, Int.reduceLE, Int.reduceNeg] at hc) <;> (try simp only [zw] at hc)) <;> (try (exfalso; omega)))
        | ((first | (refine NX.k 1 ?_; first | refine NX.one (One.elemM hA tabOk rfl rfl rfl rfl ?_ ?_) ?_ | refine NX.one (One.elemOwnM hA tabOk rfl rfl rfl rfl rfl ?_ ?_) ?_) | (refine NX.k 7 ?_; first | refine NX.one (One.concatM hA rfl rfl rfl ?_) ?_) | (refine NX.k 10 ?_; first | refine NX.one (One.lenOwnM hA tabOk rfl rfl rfl rfl) ?_) | (refine NX.k 11 ?_; first | refine NX.one (One.appendM hA tabOk _ rfl rfl rfl rfl rfl rfl ?_ ?_) ?_ | refine NX.one (One.appendMM hA tabOk rfl rfl rfl rfl rfl ?_ ?_) ?_ | refine NX.one (One.appendOwnM hA tabOk _ rfl rfl rfl rfl rfl rfl rfl ?_ ?_) ?_ | refine NX.one (One.appendOwnMM hA tabOk rfl rfl rfl rfl rfl rfl ?_ ?_) ?_ | refine NX.one (One.appendOwn0 hA tabOk rfl rfl rfl rfl rfl rfl ?_ ?_) ?_) | (refine NX.k 14 ?_; first | refine NX.one (One.loadRatM hA tabOk rfl rfl rfl rfl rfl rfl ?_) ?_) | (refine NX.k 15 ?_; first | refine NX.one (One.storeRatM hA tabOk _ rfl rfl rfl rfl rfl rfl rfl rfl (fun _ => rfl) ?_) ?_) | (refine NX.k 16 ?_; first | refine NX.one (One.makeM hA tabOk encI 0 rfl rfl rfl rfl rfl rfl rfl ?_ ?_ ?_) ?_) | (refine NX.k 17 ?_; first | refine NX.one (One.build0 tabOk rfl rfl) ?_) | (refine NX.k 18 ?_; first | refine NX.one (One.fieldRat tabOk rfl rfl rfl rfl (by decide) rfl rfl) ?_)) <;> (first | refine AOLg.pass ?_ | (((try simp only [zn]) <;> (try simp (disch := omega) only [zz hA, zb, zy, reduceCtorEq, Bool.false_eq_true, Int.reduceLT, Int.reduceLE, Int.reduceNeg]) <;> (try simp only [zw])) <;> omega)))
        | (refine NX.one (One.nilOwn tabOk 6 23 rfl rfl rfl) ?_)
        | (refine NX.one (One.makeM hA tabOk encT false rfl rfl rfl rfl rfl rfl rfl (by (((try simp only [zn]) <;> (try simp (disch := omega) only [zz hA, zb, zy, reduceCtorEq, Bool.false_eq_true, Int.reduceLT, Int.reduceLE, Int.reduceNeg]) <;> (try simp only [zw])) <;> omega)) (by (((try simp only [zn]) <;> (try simp (disch := omega) only [zz hA, zb, zy, reduceCtorEq, Bool.false_eq_true, Int.reduceLT, Int.reduceLE, Int.reduceNeg]) <;> (try simp only [zw])) <;> omega)) (by (((try simp only [zn]) <;> (try simp (disch := omega) only [zz hA, zb, zy, reduceCtorEq, Bool.false_eq_true, Int.reduceLT, Int.reduceLE, Int.reduceNeg]) <;> (try simp only [zw])) <;> omega))) ?_)
        | refine NX.raw ?_)
    | refine Thn.exit ?_
    | refine Blk.here ?_
    | refine Blk.other (by decide) ?_
    | refine ⟨.inl rfl, _, RetOk.ev tabOk (by conv => lhs; cbv), ?_⟩
    | fail)
  refine AWp.loopT 3 (fun x : Nat × Nat => [(30, .ic (.lit (.int .i64 (hid A (cN x.1))))), (6, .own 2 x.2)]) (fun x => [.var true 25 [.ic (.sl 1 false (hid A (List.map (encK A) K))), .ic (.sl 1 false (hid A (List.map encI S)))], .row true 0 4 1 (hid A (List.map encT (belB K id x.1))), .row true x.2 3 1 (hid A (List.map encI (belO K id x.1)))])
    (fun x => id + 1 - x.1) (fun x => x.1 ≤ id + 1) (0, 0) (by conv => lhs; cbv) (Nat.zero_le _) (.int rfl (by simp [hA, real, hid, cN]) (.cons rfl .nil)) (by
      have e : (z + 1).toNat = id + 1 := by omega
      have e2 : z.toNat = id := by omega
      ((try simp only [zn]) <;> (try simp (disch := omega) only [zz hA, zb, zy, reduceCtorEq, Bool.false_eq_true, Int.reduceLT, Int.reduceLE, Int.reduceNeg, belB, belO, e, e2]) <;> (try simp only [zw]))
      rfl) (fun _ => rfl) (fun _ => rfl) ?_
  rintro ⟨k, ver⟩ hi0
  simp only [] at hi0 ⊢
  have hBl := belB_len K id k
  have hOl := belO_len K id k
  by_cases hkk : k < id + 1
  · have eB : belB K id (k + 1) = if (belB K id k).getD (id - k) default = true then markA (belB K id k) (argsK K (id - k)) else belB K id k := rfl
    have eO : belO K id (k + 1) = if (belB K id k).getD (id - k) default = true then belO K id k ++ [((id - k : Nat) : Int)] else belO K id k := rfl
    generalize belB K id k = B at *
    generalize belO K id k = O at *
    generalize hB2 : belB K id (k + 1) = B2 at *
    generalize hO2 : belO K id (k + 1) = O2 at *
    obtain ⟨h3, hdn⟩ := hd (id - k) (by omega)
    have hmem : K.getD (id - k) default ∈ K := by rw [List.getD_eq_getElem?_getD, List.getElem?_eq_getElem (by omega)]; exact List.getElem_mem _
    have hkl := hk _ hmem
    obtain ⟨kk, s, p, a, hq⟩ := key_ex h3
    have hal : a.length + 3 = (K.getD (id - k) default).length := by rw [hq]; rfl
    have ha : argsK K (id - k) = a := by unfold argsK; rw [hq]; rfl
    rw [ha] at hdn eB
    have hof := tOf_c1 hA K S (id - k) kk s p a (by omega) hq (by omega)
    have hn : ∀ n : Nat, n = id - k → B.getD n default = B.getD (id - k) default := by rintro n rfl; rfl
    generalize hb : B.getD (id - k) default = b at *
    cases b
    · obtain rfl : B2 = B := eB
      obtain rfl : O2 = O := eO
      try first | refine AOLg.of [] ?_ | refine QSg.of [] ?_
      repeat' (first
        | (refine AWp.pass ?_; first
            | refine AWp.seq ?_
            | refine AWp.block ?_
            | refine AWp.skip ?_
            | refine AWp.regG [] (by conv => lhs; cbv) ?_
            | refine AWp.cond_t rfl ?_
            | refine AWp.cond_f rfl ?_
            | (refine AWp.cond rfl ?_ ?_ <;> intro hc <;> (try rw [hc]) <;> ((try simp only [zn] at hc) <;> (try simp (disch := omega) only [zz hA, zb, zy, reduceCtorEq, Bool.false_eq_true, Int.reduceLT, Int.reduceLE, Int.reduceNeg] at hc) <;> (try simp only [zw] at hc)) <;> (try (exfalso; omega)))
            | refine AWp.exit ?_
            | refine AWp.ret ⟨.inr rfl, _, RetOk.ev tabOk (by conv => lhs; cbv), ?_⟩)
        | (refine AOLg.pass ?_; refine AOLg.nx hA tabOk (by conv => lhs; cbv) ?_; first
            | refine NX.done ?_
            | refine NX.gt ?_
            | refine NX.gf ?_
            | (refine NX.gs ?_ ?_ <;> intro hc <;> rw [hc] <;> ((try simp only [zn] at hc) <;> (try simp (disch := omega) only [zz hA, zb, zy, reduceCtorEq, Bool.false_eq_true, Int.reduceLT, Int.reduceLE, Int.reduceNeg] at hc) <;> (try simp only [zw] at hc)) <;> (try (exfalso; omega)))
            | ((first | (refine NX.k 1 ?_; first | refine NX.one (One.elemM hA tabOk rfl rfl rfl rfl ?_ ?_) ?_ | refine NX.one (One.elemOwnM hA tabOk rfl rfl rfl rfl rfl ?_ ?_) ?_) | (refine NX.k 7 ?_; first | refine NX.one (One.concatM hA rfl rfl rfl ?_) ?_) | (refine NX.k 10 ?_; first | refine NX.one (One.lenOwnM hA tabOk rfl rfl rfl rfl) ?_) | (refine NX.k 11 ?_; first | refine NX.one (One.appendM hA tabOk _ rfl rfl rfl rfl rfl rfl ?_ ?_) ?_ | refine NX.one (One.appendMM hA tabOk rfl rfl rfl rfl rfl ?_ ?_) ?_ | refine NX.one (One.appendOwnM hA tabOk _ rfl rfl rfl rfl rfl rfl rfl ?_ ?_) ?_ | refine NX.one (One.appendOwnMM hA tabOk rfl rfl rfl rfl rfl rfl ?_ ?_) ?_ | refine NX.one (One.appendOwn0 hA tabOk rfl rfl rfl rfl rfl rfl ?_ ?_) ?_) | (refine NX.k 14 ?_; first | refine NX.one (One.loadRatM hA tabOk rfl rfl rfl rfl rfl rfl ?_) ?_) | (refine NX.k 15 ?_; first | refine NX.one (One.storeRatM hA tabOk _ rfl rfl rfl rfl rfl rfl rfl rfl (fun _ => rfl) ?_) ?_) | (refine NX.k 16 ?_; first | refine NX.one (One.makeM hA tabOk encI 0 rfl rfl rfl rfl rfl rfl rfl ?_ ?_ ?_) ?_) | (refine NX.k 17 ?_; first | refine NX.one (One.build0 tabOk rfl rfl) ?_) | (refine NX.k 18 ?_; first | refine NX.one (One.fieldRat tabOk rfl rfl rfl rfl (by decide) rfl rfl) ?_)) <;> (first | refine AOLg.pass ?_ | (((try simp only [zn]) <;> (try simp (disch := omega) only [zz hA, zb, zy, reduceCtorEq, Bool.false_eq_true, Int.reduceLT, Int.reduceLE, Int.reduceNeg]) <;> (try simp only [zw])) <;> omega)))
            | refine NX.raw ?_)
        | refine Thn.exit ?_
        | refine Blk.here ?_
        | refine Blk.other (by decide) ?_
        | refine ⟨.inl rfl, _, RetOk.ev tabOk (by conv => lhs; cbv), ?_⟩
        | fail)
      · refine ⟨(k + 1, ver), by simp only; omega, by simp only; omega, rfl, rfl, (by repeat' (first | exact trimOk.nil | refine trimOk.same ?_ | refine trimOk.turn rfl ?_)), ?_, rfl, ?_, (by repeat' (first | exact subE.nil | refine subE.cons rfl ?_))⟩
        · simp only [hB2, hO2]
          rfl
        · exact .int rfl (by (((try simp only [zn]) <;> (try simp (disch := omega) only [zz hA, zb, zy, reduceCtorEq, Bool.false_eq_true, Int.reduceLT, Int.reduceLE, Int.reduceNeg]) <;> (try simp only [zw])) <;> omega)) (.cons rfl .nil)
      · exfalso
        rw [hn _ (by omega)] at hc
        exact Bool.noConfusion hc
    · obtain rfl : B2 = markA B a := eB
      obtain rfl : O2 = O ++ [((id - k : Nat) : Int)] := eO
      try first | refine AOLg.of [] ?_ | refine QSg.of [] ?_
      repeat' (first
        | (refine AWp.pass ?_; first
            | refine AWp.seq ?_
            | refine AWp.block ?_
            | refine AWp.skip ?_
            | refine AWp.regG [] (by conv => lhs; cbv) ?_
            | refine AWp.cond_t rfl ?_
            | refine AWp.cond_f rfl ?_
            | (refine AWp.cond rfl ?_ ?_ <;> intro hc <;> (try rw [hc]) <;> ((try simp only [zn] at hc) <;> (try simp (disch := omega) only [zz hA, zb, zy, reduceCtorEq, Bool.false_eq_true, Int.reduceLT, Int.reduceLE, Int.reduceNeg] at hc) <;> (try simp only [zw] at hc)) <;> (try (exfalso; omega)))
            | refine AWp.exit ?_
            | refine AWp.ret ⟨.inr rfl, _, RetOk.ev tabOk (by conv => lhs; cbv), ?_⟩)
        | (refine AOLg.pass ?_; refine AOLg.nx hA tabOk (by conv => lhs; cbv) ?_; first
            | refine NX.done ?_
            | refine NX.gt ?_
            | refine NX.gf ?_
            | (refine NX.gs ?_ ?_ <;> intro hc <;> rw [hc] <;> ((try simp only [zn] at hc) <;> (try simp (disch := omega) only [zz hA, zb, zy, reduceCtorEq, Bool.false_eq_true, Int.reduceLT, Int.reduceLE, Int.reduceNeg] at hc) <;> (try simp only [zw] at hc)) <;> (try (exfalso; omega)))
            | (refine NX.kC ?_; first | ((with_reducible refine NX.call (hof _ ?_) ?_) <;> (first | refine AOLg.pass ?_ | (((try simp only [zn]) <;> (try simp (disch := omega) only [zz hA, zb, zy, reduceCtorEq, Bool.false_eq_true, Int.reduceLT, Int.reduceLE, Int.reduceNeg]) <;> (try simp only [zw])) <;> omega))) | ((first | refine NX.call (hof _ ?_) ?_) <;> (first | refine AOLg.pass ?_ | (((try simp only [zn]) <;> (try simp (disch := omega) only [zz hA, zb, zy, reduceCtorEq, Bool.false_eq_true, Int.reduceLT, Int.reduceLE, Int.reduceNeg]) <;> (try simp only [zw])) <;> omega))) | fail)
            | (refine NX.kO ?_; (first | refine NX.callO (hof _ ?_) (by simp [allEq]) rfl ?_) <;> (first | refine AOLg.pass ?_ | (((try simp only [zn]) <;> (try simp (disch := omega) only [zz hA, zb, zy, reduceCtorEq, Bool.false_eq_true, Int.reduceLT, Int.reduceLE, Int.reduceNeg]) <;> (try simp only [zw])) <;> omega)))
            | ((first | (refine NX.k 1 ?_; first | refine NX.one (One.elemM hA tabOk rfl rfl rfl rfl ?_ ?_) ?_ | refine NX.one (One.elemOwnM hA tabOk rfl rfl rfl rfl rfl ?_ ?_) ?_) | (refine NX.k 7 ?_; first | refine NX.one (One.concatM hA rfl rfl rfl ?_) ?_) | (refine NX.k 10 ?_; first | refine NX.one (One.lenOwnM hA tabOk rfl rfl rfl rfl) ?_) | (refine NX.k 11 ?_; first | refine NX.one (One.appendM hA tabOk _ rfl rfl rfl rfl rfl rfl ?_ ?_) ?_ | refine NX.one (One.appendMM hA tabOk rfl rfl rfl rfl rfl ?_ ?_) ?_ | refine NX.one (One.appendOwnM hA tabOk _ rfl rfl rfl rfl rfl rfl rfl ?_ ?_) ?_ | refine NX.one (One.appendOwnMM hA tabOk rfl rfl rfl rfl rfl rfl ?_ ?_) ?_ | refine NX.one (One.appendOwn0 hA tabOk rfl rfl rfl rfl rfl rfl ?_ ?_) ?_) | (refine NX.k 14 ?_; first | refine NX.one (One.loadRatM hA tabOk rfl rfl rfl rfl rfl rfl ?_) ?_) | (refine NX.k 15 ?_; first | refine NX.one (One.storeRatM hA tabOk _ rfl rfl rfl rfl rfl rfl rfl rfl (fun _ => rfl) ?_) ?_) | (refine NX.k 16 ?_; first | refine NX.one (One.makeM hA tabOk encI 0 rfl rfl rfl rfl rfl rfl rfl ?_ ?_ ?_) ?_) | (refine NX.k 17 ?_; first | refine NX.one (One.build0 tabOk rfl rfl) ?_) | (refine NX.k 18 ?_; first | refine NX.one (One.fieldRat tabOk rfl rfl rfl rfl (by decide) rfl rfl) ?_)) <;> (first | refine AOLg.pass ?_ | (((try simp only [zn]) <;> (try simp (disch := omega) only [zz hA, zb, zy, reduceCtorEq, Bool.false_eq_true, Int.reduceLT, Int.reduceLE, Int.reduceNeg]) <;> (try simp only [zw])) <;> omega)))
            | refine NX.raw ?_)
        | refine Thn.exit ?_
        | refine Blk.here ?_
        | refine Blk.other (by decide) ?_
        | refine ⟨.inl rfl, _, RetOk.ev tabOk (by conv => lhs; cbv), ?_⟩
        | fail)
      · exfalso
        rw [hn _ (by omega)] at hc
        exact Bool.noConfusion hc
      refine AWp.loopU (fun j : Nat => [(54, .ic (.lit (.int .i64 (hid A (cN j)))))]) (fun j => [.var true 25 [.ic (.sl 1 false (hid A (List.map (encK A) K))), .ic (.sl 1 false (hid A (List.map encI S)))], .row true 0 4 1 (hid A (List.map encT (markA B (a.take j)))), .row true ver.succ 3 1 (hid A (List.map encI (O ++ [z - cN k]))), .var true 44 [.ic (.lit (.int .i64 kk)), .ic (.lit (.int .i64 s)), .ic (.lit (.int .i64 p)), .ic (.sl 1 false (hid A (List.map encI a)))]]) (fun j => a.length - j) (fun j => j ≤ a.length) 0 (by conv => lhs; cbv) (Nat.zero_le _) (by (repeat' (first | exact subE.nil | refine subE.cons rfl ?_ | refine subE.int rfl ?_ ?_ | refine subE.bool rfl ?_ ?_ | refine subE.str rfl ?_ ?_ | refine subE.sl rfl ?_ ?_)) <;> simp [hA, real, hid, cN]) (by
        ((try simp only [zn]) <;> (try simp (disch := omega) only [zz hA, zb, zy, reduceCtorEq, Bool.false_eq_true, Int.reduceLT, Int.reduceLE, Int.reduceNeg, List.take_zero, markA, List.foldl_nil]) <;> (try simp only [zw]))) ?_
      intro j hj
      have hml : (markA B (a.take j)).length = id + 1 := by rw [markA_len, hBl]
      by_cases hjj : j < a.length
      · have hx := hdn (a.getD j default) (by rw [List.getD_eq_getElem?_getD, List.getElem?_eq_getElem hjj]; exact List.getElem_mem _)
        have hms := markA_succ B a j hjj
        generalize markA B (a.take j) = R at *
        try first | refine AOLg.of [] ?_ | refine QSg.of [] ?_
        repeat' (first
          | (refine AWp.pass ?_; first
              | refine AWp.seq ?_
              | refine AWp.block ?_
              | refine AWp.skip ?_
              | refine AWp.regG [] (by conv => lhs; cbv) ?_
              | refine AWp.cond_t rfl ?_
              | refine AWp.cond_f rfl ?_
              | (refine AWp.cond rfl ?_ ?_ <;> intro hc <;> (try rw [hc]) <;> ((try simp only [zn] at hc) <;> (try simp (disch := omega) only [zz hA, zb, zy, reduceCtorEq, Bool.false_eq_true, Int.reduceLT, Int.reduceLE, Int.reduceNeg] at hc) <;> (try simp only [zw] at hc)) <;> (try (exfalso; omega)))
              | refine AWp.exit ?_
              | refine AWp.ret ⟨.inr rfl, _, RetOk.ev tabOk (by conv => lhs; cbv), ?_⟩)
          | (refine AOLg.pass ?_; refine AOLg.nx hA tabOk (by conv => lhs; cbv) ?_; first
              | refine NX.done ?_
              | refine NX.gt ?_
              | refine NX.gf ?_
              | (refine NX.gs ?_ ?_ <;> intro hc <;> rw [hc] <;> ((try simp only [zn] at hc) <;> (try simp (disch := omega) only [zz hA, zb, zy, reduceCtorEq, Bool.false_eq_true, Int.reduceLT, Int.reduceLE, Int.reduceNeg] at hc) <;> (try simp only [zw] at hc)) <;> (try (exfalso; omega)))
              | ((first | (refine NX.k 1 ?_; first | refine NX.one (One.elemM hA tabOk rfl rfl rfl rfl ?_ ?_) ?_ | refine NX.one (One.elemOwnM hA tabOk rfl rfl rfl rfl rfl ?_ ?_) ?_) | (refine NX.k 7 ?_; first | refine NX.one (One.concatM hA rfl rfl rfl ?_) ?_) | (refine NX.k 10 ?_; first | refine NX.one (One.lenOwnM hA tabOk rfl rfl rfl rfl) ?_) | (refine NX.k 11 ?_; first | refine NX.one (One.appendM hA tabOk _ rfl rfl rfl rfl rfl rfl ?_ ?_) ?_ | refine NX.one (One.appendMM hA tabOk rfl rfl rfl rfl rfl ?_ ?_) ?_ | refine NX.one (One.appendOwnM hA tabOk _ rfl rfl rfl rfl rfl rfl rfl ?_ ?_) ?_ | refine NX.one (One.appendOwnMM hA tabOk rfl rfl rfl rfl rfl rfl ?_ ?_) ?_ | refine NX.one (One.appendOwn0 hA tabOk rfl rfl rfl rfl rfl rfl ?_ ?_) ?_) | (refine NX.k 14 ?_; first | refine NX.one (One.loadRatM hA tabOk rfl rfl rfl rfl rfl rfl ?_) ?_) | (refine NX.k 15 ?_; first | refine NX.one (One.storeRatM hA tabOk _ rfl rfl rfl rfl rfl rfl rfl rfl (fun _ => rfl) ?_) ?_) | (refine NX.k 16 ?_; first | refine NX.one (One.makeM hA tabOk encI 0 rfl rfl rfl rfl rfl rfl rfl ?_ ?_ ?_) ?_) | (refine NX.k 17 ?_; first | refine NX.one (One.build0 tabOk rfl rfl) ?_) | (refine NX.k 18 ?_; first | refine NX.one (One.fieldRat tabOk rfl rfl rfl rfl (by decide) rfl rfl) ?_)) <;> (first | refine AOLg.pass ?_ | (((try simp only [zn]) <;> (try simp (disch := omega) only [zz hA, zb, zy, reduceCtorEq, Bool.false_eq_true, Int.reduceLT, Int.reduceLE, Int.reduceNeg]) <;> (try simp only [zw])) <;> omega)))
              | refine NX.raw ?_)
          | refine Thn.exit ?_
          | refine Blk.here ?_
          | refine Blk.other (by decide) ?_
          | refine ⟨.inl rfl, _, RetOk.ev tabOk (by conv => lhs; cbv), ?_⟩
          | fail)
        refine ⟨j + 1, ?_, ?_, rfl, ?_, ?_, (by repeat' (first | exact subE.nil | refine subE.cons rfl ?_))⟩ <;> (try omega)
        · ((try simp only [zn]) <;> (try simp (disch := omega) only [zz hA, zb, zy, reduceCtorEq, Bool.false_eq_true, Int.reduceLT, Int.reduceLE, Int.reduceNeg, hms]) <;> (try simp only [zw]))
        · exact .int rfl (by (((try simp only [zn]) <;> (try simp (disch := omega) only [zz hA, zb, zy, reduceCtorEq, Bool.false_eq_true, Int.reduceLT, Int.reduceLE, Int.reduceNeg]) <;> (try simp only [zw])) <;> omega)) .nil
      · have hml2 : markA B (a.take j) = markA B a := by rw [List.take_of_length_le (by omega)]
        try first | refine AOLg.of [] ?_ | refine QSg.of [] ?_
        repeat' (first
          | (refine AWp.pass ?_; first
              | refine AWp.seq ?_
              | refine AWp.block ?_
              | refine AWp.skip ?_
              | refine AWp.regG [] (by conv => lhs; cbv) ?_
              | refine AWp.cond_t rfl ?_
              | refine AWp.cond_f rfl ?_
              | (refine AWp.cond rfl ?_ ?_ <;> intro hc <;> (try rw [hc]) <;> ((try simp only [zn] at hc) <;> (try simp (disch := omega) only [zz hA, zb, zy, reduceCtorEq, Bool.false_eq_true, Int.reduceLT, Int.reduceLE, Int.reduceNeg] at hc) <;> (try simp only [zw] at hc)) <;> (try (exfalso; omega)))
              | refine AWp.exit ?_
              | refine AWp.ret ⟨.inr rfl, _, RetOk.ev tabOk (by conv => lhs; cbv), ?_⟩)
          | (refine AOLg.pass ?_; refine AOLg.nx hA tabOk (by conv => lhs; cbv) ?_; first
              | refine NX.done ?_
              | refine NX.gt ?_
              | refine NX.gf ?_
              | (refine NX.gs ?_ ?_ <;> intro hc <;> rw [hc] <;> ((try simp only [zn] at hc) <;> (try simp (disch := omega) only [zz hA, zb, zy, reduceCtorEq, Bool.false_eq_true, Int.reduceLT, Int.reduceLE, Int.reduceNeg] at hc) <;> (try simp only [zw] at hc)) <;> (try (exfalso; omega)))
              | ((first | (refine NX.k 1 ?_; first | refine NX.one (One.elemM hA tabOk rfl rfl rfl rfl ?_ ?_) ?_ | refine NX.one (One.elemOwnM hA tabOk rfl rfl rfl rfl rfl ?_ ?_) ?_) | (refine NX.k 7 ?_; first | refine NX.one (One.concatM hA rfl rfl rfl ?_) ?_) | (refine NX.k 10 ?_; first | refine NX.one (One.lenOwnM hA tabOk rfl rfl rfl rfl) ?_) | (refine NX.k 11 ?_; first | refine NX.one (One.appendM hA tabOk _ rfl rfl rfl rfl rfl rfl ?_ ?_) ?_ | refine NX.one (One.appendMM hA tabOk rfl rfl rfl rfl rfl ?_ ?_) ?_ | refine NX.one (One.appendOwnM hA tabOk _ rfl rfl rfl rfl rfl rfl rfl ?_ ?_) ?_ | refine NX.one (One.appendOwnMM hA tabOk rfl rfl rfl rfl rfl rfl ?_ ?_) ?_ | refine NX.one (One.appendOwn0 hA tabOk rfl rfl rfl rfl rfl rfl ?_ ?_) ?_) | (refine NX.k 14 ?_; first | refine NX.one (One.loadRatM hA tabOk rfl rfl rfl rfl rfl rfl ?_) ?_) | (refine NX.k 15 ?_; first | refine NX.one (One.storeRatM hA tabOk _ rfl rfl rfl rfl rfl rfl rfl rfl (fun _ => rfl) ?_) ?_) | (refine NX.k 16 ?_; first | refine NX.one (One.makeM hA tabOk encI 0 rfl rfl rfl rfl rfl rfl rfl ?_ ?_ ?_) ?_) | (refine NX.k 17 ?_; first | refine NX.one (One.build0 tabOk rfl rfl) ?_) | (refine NX.k 18 ?_; first | refine NX.one (One.fieldRat tabOk rfl rfl rfl rfl (by decide) rfl rfl) ?_)) <;> (first | refine AOLg.pass ?_ | (((try simp only [zn]) <;> (try simp (disch := omega) only [zz hA, zb, zy, reduceCtorEq, Bool.false_eq_true, Int.reduceLT, Int.reduceLE, Int.reduceNeg]) <;> (try simp only [zw])) <;> omega)))
              | refine NX.raw ?_)
          | refine Thn.exit ?_
          | refine Blk.here ?_
          | refine Blk.other (by decide) ?_
          | refine ⟨.inl rfl, _, RetOk.ev tabOk (by conv => lhs; cbv), ?_⟩
          | fail)
        refine ⟨(k + 1, ver + 1), by simp only; omega, by simp only; omega, rfl, rfl, (by repeat' (first | exact trimOk.nil | refine trimOk.same ?_ | refine trimOk.turn rfl ?_)), ?_, rfl, ?_, (by repeat' (first | exact subE.nil | refine subE.cons rfl ?_))⟩
        · have e : z - k = ((id - k : Nat) : Int) := by omega
          simp only [hB2, hO2, hml2]
          ((try simp only [zn]) <;> (try simp (disch := omega) only [zz hA, zb, zy, reduceCtorEq, Bool.false_eq_true, Int.reduceLT, Int.reduceLE, Int.reduceNeg, e]) <;> (try simp only [zw]))
          rfl
        · exact .int rfl (by (((try simp only [zn]) <;> (try simp (disch := omega) only [zz hA, zb, zy, reduceCtorEq, Bool.false_eq_true, Int.reduceLT, Int.reduceLE, Int.reduceNeg]) <;> (try simp only [zw])) <;> omega)) (.cons rfl .nil)
  · obtain rfl : k = id + 1 := by omega
    try first | refine AOLg.of [] ?_ | refine QSg.of [] ?_
    repeat' (first
      | (refine AWp.pass ?_; first
          | refine AWp.seq ?_
          | refine AWp.block ?_
          | refine AWp.skip ?_
          | refine AWp.regG [] (by conv => lhs; cbv) ?_
          | refine AWp.cond_t rfl ?_
          | refine AWp.cond_f rfl ?_
          | (refine AWp.cond rfl ?_ ?_ <;> intro hc <;> (try rw [hc]) <;> ((try simp only [zn] at hc) <;> (try simp (disch := omega) only [zz hA, zb, zy, reduceCtorEq, Bool.false_eq_true, Int.reduceLT, Int.reduceLE, Int.reduceNeg] at hc) <;> (try simp only [zw] at hc)) <;> (try (exfalso; omega)))
          | refine AWp.exit ?_
          | refine AWp.ret ⟨.inr rfl, _, RetOk.ev tabOk (by conv => lhs; cbv), ?_⟩)
      | (refine AOLg.pass ?_; refine AOLg.nx hA tabOk (by conv => lhs; cbv) ?_; first
          | refine NX.done ?_
          | refine NX.gt ?_
          | refine NX.gf ?_
          | (refine NX.gs ?_ ?_ <;> intro hc <;> rw [hc] <;> ((try simp only [zn] at hc) <;> (try simp (disch := omega) only [zz hA, zb, zy, reduceCtorEq, Bool.false_eq_true, Int.reduceLT, Int.reduceLE, Int.reduceNeg] at hc) <;> (try simp only [zw] at hc)) <;> (try (exfalso; omega)))
          | ((first | (refine NX.k 1 ?_; first | refine NX.one (One.elemM hA tabOk rfl rfl rfl rfl ?_ ?_) ?_ | refine NX.one (One.elemOwnM hA tabOk rfl rfl rfl rfl rfl ?_ ?_) ?_) | (refine NX.k 7 ?_; first | refine NX.one (One.concatM hA rfl rfl rfl ?_) ?_) | (refine NX.k 10 ?_; first | refine NX.one (One.lenOwnM hA tabOk rfl rfl rfl rfl) ?_) | (refine NX.k 11 ?_; first | refine NX.one (One.appendM hA tabOk _ rfl rfl rfl rfl rfl rfl ?_ ?_) ?_ | refine NX.one (One.appendMM hA tabOk rfl rfl rfl rfl rfl ?_ ?_) ?_ | refine NX.one (One.appendOwnM hA tabOk _ rfl rfl rfl rfl rfl rfl rfl ?_ ?_) ?_ | refine NX.one (One.appendOwnMM hA tabOk rfl rfl rfl rfl rfl rfl ?_ ?_) ?_ | refine NX.one (One.appendOwn0 hA tabOk rfl rfl rfl rfl rfl rfl ?_ ?_) ?_) | (refine NX.k 14 ?_; first | refine NX.one (One.loadRatM hA tabOk rfl rfl rfl rfl rfl rfl ?_) ?_) | (refine NX.k 15 ?_; first | refine NX.one (One.storeRatM hA tabOk _ rfl rfl rfl rfl rfl rfl rfl rfl (fun _ => rfl) ?_) ?_) | (refine NX.k 16 ?_; first | refine NX.one (One.makeM hA tabOk encI 0 rfl rfl rfl rfl rfl rfl rfl ?_ ?_ ?_) ?_) | (refine NX.k 17 ?_; first | refine NX.one (One.build0 tabOk rfl rfl) ?_) | (refine NX.k 18 ?_; first | refine NX.one (One.fieldRat tabOk rfl rfl rfl rfl (by decide) rfl rfl) ?_)) <;> (first | refine AOLg.pass ?_ | (((try simp only [zn]) <;> (try simp (disch := omega) only [zz hA, zb, zy, reduceCtorEq, Bool.false_eq_true, Int.reduceLT, Int.reduceLE, Int.reduceNeg]) <;> (try simp only [zw])) <;> omega)))
          | (refine NX.one (One.scallT rfl rfl (reverse_c hA (belO K id (id + 1)) ver _ _ (by (((try simp only [zn]) <;> (try simp (disch := omega) only [zz hA, zb, zy, reduceCtorEq, Bool.false_eq_true, Int.reduceLT, Int.reduceLE, Int.reduceNeg]) <;> (try simp only [zw])) <;> omega)))) ?_)
          | refine NX.raw ?_)
      | refine Thn.exit ?_
      | refine Blk.here ?_
      | refine Blk.other (by decide) ?_
      | refine ⟨.inl rfl, _, RetOk.ev tabOk (by conv => lhs; cbv), ?_⟩
      | fail)
    exact (rPV_own rfl).trans rfl
end Go.Proofs.Ytpphdaphbkepfaa.Aw

/- Contracts of package term, part 8: the store of two. -/
set_option linter.unusedVariables false
set_option linter.unusedSimpArgs false
namespace Go.Proofs.Ytpphdaphbkepfaa.Aw
open Go Go.RowKit
set_option maxRecDepth 10000
attribute [local irreducible] AWp AOL QS One AOLg QSg NX QX TRg TX AllO Fin3
def newK : Nat → List (List Int)
  | 0 => []
  | 1 => [[0, 0, 0]]
  | 2 => [[0, 0, 0], [1, 0, 0]]
  | _ + 3 => [[0, 0, 0], [1, 0, 0], [2, 0, 0]]
def pickI : Nat → Int
  | 0 => 0
  | 1 => 1
  | _ + 2 => 2
theorem newK_len : ∀ n, (newK n).length ≤ 3
  | 0 | 1 | 2 => by simp [newK]
  | _ + 3 => by simp [newK]
theorem newK_row : ∀ n, ∀ x ∈ newK n, x.length ≤ 1000000
  | 0 | 1 | 2 => by simp [newK]
  | _ + 3 => by simp [newK]
theorem newK_nodup : ∀ n, (newK n).Nodup
  | 0 | 1 | 2 => by simp [newK]
  | _ + 3 => by simp [newK]
def pickJ : Nat → Int
  | 0 => 0
  | 1 => 1
  | _ => 2
theorem down3 : Down (newK 3) := by
  unfold Down; decide
theorem mayM_new : ∀ i, i < 3 → ∀ many : Nat, mayM [] many (pickJ i) 0 0 [] = true := by
  intro i hi many
  rw [mayM_iff]
  refine ⟨?_, show (-1 : Int) < 0 by decide⟩
  match i, hi with
  | 0, _ => exact .inl ⟨.inl rfl, rfl, rfl, rfl⟩
  | 1, _ => exact .inl ⟨.inr rfl, rfl, rfl, rfl⟩
  | 2, _ => exact .inr (.inl ⟨rfl, by decide, rfl, rfl⟩)
theorem right3 : rightT [] (newK 3) (layM (newK 3)) = true := by
  unfold rightT
  rw [Bool.and_eq_true, Bool.and_eq_true]
  refine ⟨⟨decide_eq_true ⟨newK_nodup 3, rfl⟩, by decide⟩, ?_⟩
  refine allB_t fun i hi => ?_
  match i, hi with
  | 0, _ => show keyOk [] 0 (keyT 0 0 0 []) = true; rw [keyOk_T, Bool.and_eq_true]; exact ⟨mayM_new 0 (by decide) 0, by decide⟩
  | 1, _ => show keyOk [] 1 (keyT 1 0 0 []) = true; rw [keyOk_T, Bool.and_eq_true]; exact ⟨mayM_new 1 (by decide) 1, by decide⟩
  | 2, _ => show keyOk [] 2 (keyT 2 0 0 []) = true; rw [keyOk_T, Bool.and_eq_true]; exact ⟨mayM_new 2 (by decide) 2, by decide⟩
variable {A : Ar} (hA : A = real)
include hA
set_option maxHeartbeats 4000000 in
theorem tNew_c : PureCalls Try.prog 46 [] (tabPV A (newK 2)) := by
  have hlay := lay_c hA [] (by simp) (by simp)
  refine PureCalls.of Try.func46 rfl (by kernel_rfl) rfl ?_
  try first | refine AOLg.of [] ?_ | refine QSg.of [] ?_
  repeat' (first
    | (refine AWp.pass ?_; first
        | refine AWp.seq ?_
        | refine AWp.block ?_
        | refine AWp.skip ?_
        | refine AWp.regG [] (by conv => lhs; cbv) ?_
        | refine AWp.cond_t rfl ?_
        | refine AWp.cond_f rfl ?_
        | (refine AWp.cond rfl ?_ ?_ <;> intro hc <;> (try rw [hc]) <;> ((try simp only [zn] at hc) <;> (try simp (disch := omega) only [zz hA, zb, zy, reduceCtorEq, Bool.false_eq_true, Int.reduceLT, Int.reduceLE, Int.reduceNeg] at hc) <;> (try simp only [zw] at hc)) <;> (try (exfalso; omega)))
        | refine AWp.exit ?_
        | refine AWp.ret ⟨.inr rfl, _, RetOk.ev tabOk (by conv => lhs; cbv), ?_⟩
        | refine AWp.drawVG [] rfl (by decide +kernel) (by conv => lhs; cbv) ?_)
    | (refine AOLg.pass ?_; refine AOLg.nx hA tabOk (by conv => lhs; cbv) ?_; first
        | refine NX.done ?_
        | refine NX.gt ?_
        | refine NX.gf ?_
        | (refine NX.gs ?_ ?_ <;> intro hc <;> rw [hc] <;> ((try simp only [zn] at hc) <;> (try simp (disch := omega) only [zz hA, zb, zy, reduceCtorEq, Bool.false_eq_true, Int.reduceLT, Int.reduceLE, Int.reduceNeg] at hc) <;> (try simp only [zw] at hc)) <;> (try (exfalso; omega)))
        | (refine NX.kC ?_; first | (with_reducible refine NX.call (hlay) ?_) | (refine NX.call (PureCalls.weaken (hlay) ?_) ?_ <;> (first | refine AOLg.pass ?_ | ((with_reducible repeat' (first | exact PLes.nil | exact ILes.nil | refine PLes.cons (PLe.refl _) ?_ | refine PLes.cons (PLe.c (ILe.nilM hA _ _ _ _)) ?_ | refine PLes.cons (PLe.agg ?_) ?_ | refine ILes.cons (ILe.refl _) ?_ | refine ILes.cons (ILe.nilM hA _ _ _ _) ?_)); done) | (((try simp only [zn]) <;> (try simp (disch := omega) only [zz hA, zb, zy, reduceCtorEq, Bool.false_eq_true, Int.reduceLT, Int.reduceLE, Int.reduceNeg]) <;> (try simp only [zw])) <;> omega))) | ((first | refine NX.call (hlay) ?_)) | fail)
        | (refine NX.kO ?_; (first | refine NX.callO (hlay) (by simp [allEq]) rfl ?_))
        | ((first | (refine NX.k 1 ?_; first | refine NX.one (One.elemM hA tabOk rfl rfl rfl rfl ?_ ?_) ?_ | refine NX.one (One.elemOwnM hA tabOk rfl rfl rfl rfl rfl ?_ ?_) ?_) | (refine NX.k 7 ?_; first | refine NX.one (One.concatM hA rfl rfl rfl ?_) ?_) | (refine NX.k 10 ?_; first | refine NX.one (One.lenOwnM hA tabOk rfl rfl rfl rfl) ?_) | (refine NX.k 14 ?_; first | refine NX.one (One.loadRatM hA tabOk rfl rfl rfl rfl rfl rfl ?_) ?_) | (refine NX.k 15 ?_; first | refine NX.one (One.storeRatM hA tabOk _ rfl rfl rfl rfl rfl rfl rfl rfl (fun _ => rfl) ?_) ?_) | (refine NX.k 17 ?_; first | refine NX.one (One.build0 tabOk rfl rfl) ?_)) <;> (first | refine AOLg.pass ?_ | (((try simp only [zn]) <;> (try simp (disch := omega) only [zz hA, zb, zy, reduceCtorEq, Bool.false_eq_true, Int.reduceLT, Int.reduceLE, Int.reduceNeg]) <;> (try simp only [zw])) <;> omega)))
        | refine NX.raw ?_)
    | (refine TRg.pass ?_; refine TRg.nx hA tabOk (by conv => lhs; cbv) ?_; first
        | refine TX.done ?_
        | refine TX.gt ?_
        | refine TX.gf ?_
        | (refine TX.gs ?_ ?_ <;> intro hc <;> rw [hc] <;> ((try simp only [zn] at hc) <;> (try simp (disch := omega) only [zz hA, zb, zy, reduceCtorEq, Bool.false_eq_true, Int.reduceLT, Int.reduceLE, Int.reduceNeg] at hc) <;> (try simp only [zw] at hc)) <;> (try (exfalso; omega)))
        | (refine TX.kC ?_; first | (with_reducible refine TX.call (hlay) ?_) | (refine TX.call (PureCalls.weaken (hlay) ?_) ?_ <;> (first | refine TRg.pass ?_ | ((with_reducible repeat' (first | exact PLes.nil | exact ILes.nil | refine PLes.cons (PLe.refl _) ?_ | refine PLes.cons (PLe.c (ILe.nilM hA _ _ _ _)) ?_ | refine PLes.cons (PLe.agg ?_) ?_ | refine ILes.cons (ILe.refl _) ?_ | refine ILes.cons (ILe.nilM hA _ _ _ _) ?_)); done) | (((try simp only [zn]) <;> (try simp (disch := omega) only [zz hA, zb, zy, reduceCtorEq, Bool.false_eq_true, Int.reduceLT, Int.reduceLE, Int.reduceNeg]) <;> (try simp only [zw])) <;> omega))) | ((first | refine TX.call (hlay) ?_)) | fail)
        | (refine TX.kO ?_; (first | refine TX.callO (hlay) (by simp [allEq]) rfl ?_))
        | ((first | (refine TX.k 1 ?_; first | refine TX.one (One.elemM hA tabOk rfl rfl rfl rfl ?_ ?_) ?_ | refine TX.one (One.elemOwnM hA tabOk rfl rfl rfl rfl rfl ?_ ?_) ?_) | (refine TX.k 7 ?_; first | refine TX.one (One.concatM hA rfl rfl rfl ?_) ?_) | (refine TX.k 10 ?_; first | refine TX.one (One.lenOwnM hA tabOk rfl rfl rfl rfl) ?_) | (refine TX.k 14 ?_; first | refine TX.one (One.loadRatM hA tabOk rfl rfl rfl rfl rfl rfl ?_) ?_) | (refine TX.k 15 ?_; first | refine TX.one (One.storeRatM hA tabOk _ rfl rfl rfl rfl rfl rfl rfl rfl (fun _ => rfl) ?_) ?_) | (refine TX.k 17 ?_; first | refine TX.one (One.build0 tabOk rfl rfl) ?_)) <;> (first | refine TRg.pass ?_ | (((try simp only [zn]) <;> (try simp (disch := omega) only [zz hA, zb, zy, reduceCtorEq, Bool.false_eq_true, Int.reduceLT, Int.reduceLE, Int.reduceNeg]) <;> (try simp only [zw])) <;> omega)))
        | refine TX.raw ?_)
    | refine Fin3.of (by conv => lhs; cbv) (by repeat' (first | exact True.intro | exact rfl | refine And.intro ?_ ?_)) ?_ ?_
    | (refine AllO.pass ?_; first
        | exact AllO.nil
        | (refine AllO.cons (One.ev hA tabOk ?_) ?_ <;> (first | refine AllO.pass ?_ | ((conv => lhs; cbv); done)))
        | (refine AllO.cons (One.skipB ?_) ?_ <;> (first | refine AllO.pass ?_ | ((conv => lhs; cbv); done)))
        | ((with_reducible refine AllO.call (by conv => lhs; cbv) (hlay) ?_ ?_) <;> (first | refine AllO.pass ?_ | exact rfl | (((try simp only [zn]) <;> (try simp (disch := omega) only [zz hA, zb, zy, reduceCtorEq, Bool.false_eq_true, Int.reduceLT, Int.reduceLE, Int.reduceNeg]) <;> (try simp only [zw])) <;> omega)))
        | ((first | refine AllO.consX (One.elemM hA tabOk rfl rfl rfl rfl ?_ ?_) rfl rfl ?_ | refine AllO.consX (One.concatM hA rfl rfl rfl ?_) rfl rfl ?_ | refine AllO.consX (One.lenOwnM hA tabOk rfl rfl rfl rfl) rfl rfl ?_ | refine AllO.consX (One.elemOwnM hA tabOk rfl rfl rfl rfl rfl ?_ ?_) rfl rfl ?_ | refine AllO.consX (One.loadRatM hA tabOk rfl rfl rfl rfl rfl rfl ?_) rfl rfl ?_) <;> (first | refine AllO.pass ?_ | (((try simp only [zn]) <;> (try simp (disch := omega) only [zz hA, zb, zy, reduceCtorEq, Bool.false_eq_true, Int.reduceLT, Int.reduceLE, Int.reduceNeg]) <;> (try simp only [zw])) <;> omega))))
    | refine Thn.exit ?_
    | refine Blk.here ?_
    | refine Blk.other (by decide) ?_
    | refine ⟨.inl rfl, _, RetOk.ev tabOk (by conv => lhs; cbv), ?_⟩
    | fail)
  refine AWp.recell 1 [.ic (.sl 1 false (hid A (List.map (encK A) (newK 0)))), .ic (.sl 1 false (hid A (List.map encI (layM (newK 0)))))] rfl (.cons (by rw [hid_eq hA]; exact .nil _ _ _) (.cons (.refl _) .nil)) ?_
  refine AWp.norm (by conv => lhs; cbv) ?_
  refine AWp.loopU (fun i : Nat => [(8, .ic (.lit (.int .i64 (pickI i))))]) (fun i => [.var true 25 [.ic (.sl 0 true []), .ic (.sl 0 true [])], .var true 25 [.ic (.sl 1 false (hid A (List.map (encK A) (newK i)))), .ic (.sl 1 false (hid A (List.map encI (layM (newK i)))))]]) (fun i => 2 - i) (fun i => i ≤ 2) 0 (by conv => lhs; cbv) (by omega) (.int rfl rfl .nil) rfl ?_
  intro i hi
  match i, hi with
  | 0, _ =>
    have hput := put_c hA (newK 0) (keyT 0 0 0 []) (newK_nodup 0) (by have := newK_len 0; omega) (newK_row 0) (by simp [keyT])
    have hkey := key_c hA 0 0 0 [] (by simp)
    rw [show putK (newK 0) (keyT 0 0 0 []) = newK 1 by rfl] at hput
    generalize hK0 : newK 0 = K0 at *
    generalize hK1 : newK 1 = K1 at *
    generalize keyT 0 0 0 [] = q at *
    try first | refine AOLg.of [] ?_ | refine QSg.of [] ?_
    repeat' (first
      | (refine AWp.pass ?_; first
          | refine AWp.seq ?_
          | refine AWp.block ?_
          | refine AWp.skip ?_
          | refine AWp.regG [] (by conv => lhs; cbv) ?_
          | refine AWp.cond_t rfl ?_
          | refine AWp.cond_f rfl ?_
          | (refine AWp.cond rfl ?_ ?_ <;> intro hc <;> (try rw [hc]) <;> ((try simp only [zn] at hc) <;> (try simp (disch := omega) only [zz hA, zb, zy, reduceCtorEq, Bool.false_eq_true, Int.reduceLT, Int.reduceLE, Int.reduceNeg] at hc) <;> (try simp only [zw] at hc)) <;> (try (exfalso; omega)))
          | refine AWp.exit ?_
          | refine AWp.ret ⟨.inr rfl, _, RetOk.ev tabOk (by conv => lhs; cbv), ?_⟩
          | refine AWp.drawVG [] rfl (by decide +kernel) (by conv => lhs; cbv) ?_)
      | (refine AOLg.pass ?_; refine AOLg.nx hA tabOk (by conv => lhs; cbv) ?_; first
          | refine NX.done ?_
          | refine NX.gt ?_
          | refine NX.gf ?_
          | (refine NX.gs ?_ ?_ <;> intro hc <;> rw [hc] <;> ((try simp only [zn] at hc) <;> (try simp (disch := omega) only [zz hA, zb, zy, reduceCtorEq, Bool.false_eq_true, Int.reduceLT, Int.reduceLE, Int.reduceNeg] at hc) <;> (try simp only [zw] at hc)) <;> (try (exfalso; omega)))
          | (refine NX.kC ?_; first | (with_reducible refine NX.call (hkey) ?_) | (with_reducible refine NX.call (hput) ?_) | (refine NX.call (PureCalls.weaken (hkey) ?_) ?_ <;> (first | refine AOLg.pass ?_ | ((with_reducible repeat' (first | exact PLes.nil | exact ILes.nil | refine PLes.cons (PLe.refl _) ?_ | refine PLes.cons (PLe.c (ILe.nilM hA _ _ _ _)) ?_ | refine PLes.cons (PLe.agg ?_) ?_ | refine ILes.cons (ILe.refl _) ?_ | refine ILes.cons (ILe.nilM hA _ _ _ _) ?_)); done) | (((try simp only [zn]) <;> (try simp (disch := omega) only [zz hA, zb, zy, reduceCtorEq, Bool.false_eq_true, Int.reduceLT, Int.reduceLE, Int.reduceNeg]) <;> (try simp only [zw])) <;> omega))) | ((first | refine NX.call (hkey) ?_ | refine NX.call (hput) ?_)) | fail)
          | (refine NX.kO ?_; (first | refine NX.callO (hkey) (by simp [allEq]) rfl ?_ | refine NX.callO (hput) (by simp [allEq]) rfl ?_))
          | ((first | (refine NX.k 1 ?_; first | refine NX.one (One.elemM hA tabOk rfl rfl rfl rfl ?_ ?_) ?_ | refine NX.one (One.elemOwnM hA tabOk rfl rfl rfl rfl rfl ?_ ?_) ?_) | (refine NX.k 7 ?_; first | refine NX.one (One.concatM hA rfl rfl rfl ?_) ?_) | (refine NX.k 10 ?_; first | refine NX.one (One.lenOwnM hA tabOk rfl rfl rfl rfl) ?_) | (refine NX.k 14 ?_; first | refine NX.one (One.loadRatM hA tabOk rfl rfl rfl rfl rfl rfl ?_) ?_) | (refine NX.k 15 ?_; first | refine NX.one (One.storeRatM hA tabOk _ rfl rfl rfl rfl rfl rfl rfl rfl (fun _ => rfl) ?_) ?_) | (refine NX.k 17 ?_; first | refine NX.one (One.build0 tabOk rfl rfl) ?_)) <;> (first | refine AOLg.pass ?_ | (((try simp only [zn]) <;> (try simp (disch := omega) only [zz hA, zb, zy, reduceCtorEq, Bool.false_eq_true, Int.reduceLT, Int.reduceLE, Int.reduceNeg]) <;> (try simp only [zw])) <;> omega)))
          | (refine NX.one (One.elem tabOk rfl rfl rfl rfl (by decide) rfl) ?_)
          | refine NX.raw ?_)
      | (refine TRg.pass ?_; refine TRg.nx hA tabOk (by conv => lhs; cbv) ?_; first
          | refine TX.done ?_
          | refine TX.gt ?_
          | refine TX.gf ?_
          | (refine TX.gs ?_ ?_ <;> intro hc <;> rw [hc] <;> ((try simp only [zn] at hc) <;> (try simp (disch := omega) only [zz hA, zb, zy, reduceCtorEq, Bool.false_eq_true, Int.reduceLT, Int.reduceLE, Int.reduceNeg] at hc) <;> (try simp only [zw] at hc)) <;> (try (exfalso; omega)))
          | (refine TX.kC ?_; first | (with_reducible refine TX.call (hkey) ?_) | (with_reducible refine TX.call (hput) ?_) | (refine TX.call (PureCalls.weaken (hkey) ?_) ?_ <;> (first | refine TRg.pass ?_ | ((with_reducible repeat' (first | exact PLes.nil | exact ILes.nil | refine PLes.cons (PLe.refl _) ?_ | refine PLes.cons (PLe.c (ILe.nilM hA _ _ _ _)) ?_ | refine PLes.cons (PLe.agg ?_) ?_ | refine ILes.cons (ILe.refl _) ?_ | refine ILes.cons (ILe.nilM hA _ _ _ _) ?_)); done) | (((try simp only [zn]) <;> (try simp (disch := omega) only [zz hA, zb, zy, reduceCtorEq, Bool.false_eq_true, Int.reduceLT, Int.reduceLE, Int.reduceNeg]) <;> (try simp only [zw])) <;> omega))) | ((first | refine TX.call (hkey) ?_ | refine TX.call (hput) ?_)) | fail)
          | (refine TX.kO ?_; (first | refine TX.callO (hkey) (by simp [allEq]) rfl ?_ | refine TX.callO (hput) (by simp [allEq]) rfl ?_))
          | ((first | (refine TX.k 1 ?_; first | refine TX.one (One.elemM hA tabOk rfl rfl rfl rfl ?_ ?_) ?_ | refine TX.one (One.elemOwnM hA tabOk rfl rfl rfl rfl rfl ?_ ?_) ?_) | (refine TX.k 7 ?_; first | refine TX.one (One.concatM hA rfl rfl rfl ?_) ?_) | (refine TX.k 10 ?_; first | refine TX.one (One.lenOwnM hA tabOk rfl rfl rfl rfl) ?_) | (refine TX.k 14 ?_; first | refine TX.one (One.loadRatM hA tabOk rfl rfl rfl rfl rfl rfl ?_) ?_) | (refine TX.k 15 ?_; first | refine TX.one (One.storeRatM hA tabOk _ rfl rfl rfl rfl rfl rfl rfl rfl (fun _ => rfl) ?_) ?_) | (refine TX.k 17 ?_; first | refine TX.one (One.build0 tabOk rfl rfl) ?_)) <;> (first | refine TRg.pass ?_ | (((try simp only [zn]) <;> (try simp (disch := omega) only [zz hA, zb, zy, reduceCtorEq, Bool.false_eq_true, Int.reduceLT, Int.reduceLE, Int.reduceNeg]) <;> (try simp only [zw])) <;> omega)))
          | (refine TX.one (One.elem tabOk rfl rfl rfl rfl (by decide) rfl) ?_)
          | refine TX.raw ?_)
      | refine Fin3.of (by conv => lhs; cbv) (by repeat' (first | exact True.intro | exact rfl | refine And.intro ?_ ?_)) ?_ ?_
      | (refine AllO.pass ?_; first
          | exact AllO.nil
          | (refine AllO.cons (One.ev hA tabOk ?_) ?_ <;> (first | refine AllO.pass ?_ | ((conv => lhs; cbv); done)))
          | (refine AllO.cons (One.skipB ?_) ?_ <;> (first | refine AllO.pass ?_ | ((conv => lhs; cbv); done)))
          | ((with_reducible refine AllO.call (by conv => lhs; cbv) (hkey) ?_ ?_) <;> (first | refine AllO.pass ?_ | exact rfl | (((try simp only [zn]) <;> (try simp (disch := omega) only [zz hA, zb, zy, reduceCtorEq, Bool.false_eq_true, Int.reduceLT, Int.reduceLE, Int.reduceNeg]) <;> (try simp only [zw])) <;> omega)))
          | ((with_reducible refine AllO.call (by conv => lhs; cbv) (hput) ?_ ?_) <;> (first | refine AllO.pass ?_ | exact rfl | (((try simp only [zn]) <;> (try simp (disch := omega) only [zz hA, zb, zy, reduceCtorEq, Bool.false_eq_true, Int.reduceLT, Int.reduceLE, Int.reduceNeg]) <;> (try simp only [zw])) <;> omega)))
          | ((first | refine AllO.consX (One.elemM hA tabOk rfl rfl rfl rfl ?_ ?_) rfl rfl ?_ | refine AllO.consX (One.concatM hA rfl rfl rfl ?_) rfl rfl ?_ | refine AllO.consX (One.lenOwnM hA tabOk rfl rfl rfl rfl) rfl rfl ?_ | refine AllO.consX (One.elemOwnM hA tabOk rfl rfl rfl rfl rfl ?_ ?_) rfl rfl ?_ | refine AllO.consX (One.loadRatM hA tabOk rfl rfl rfl rfl rfl rfl ?_) rfl rfl ?_) <;> (first | refine AllO.pass ?_ | (((try simp only [zn]) <;> (try simp (disch := omega) only [zz hA, zb, zy, reduceCtorEq, Bool.false_eq_true, Int.reduceLT, Int.reduceLE, Int.reduceNeg]) <;> (try simp only [zw])) <;> omega))))
      | refine Thn.exit ?_
      | refine Blk.here ?_
      | refine Blk.other (by decide) ?_
      | refine ⟨.inl rfl, _, RetOk.ev tabOk (by conv => lhs; cbv), ?_⟩
      | fail)
    refine ⟨1, ?_, ?_, rfl, ?_, ?_, (by repeat' (first | exact subE.nil | refine subE.cons rfl ?_))⟩ <;> (try omega)
    · rw [hK1]
    · exact .int rfl (by show _ = (1 : Int); (((try simp only [zn]) <;> (try simp (disch := omega) only [zz hA, zb, zy, reduceCtorEq, Bool.false_eq_true, Int.reduceLT, Int.reduceLE, Int.reduceNeg]) <;> (try simp only [zw])) <;> omega)) .nil
  | 1, _ =>
    have hput := put_c hA (newK 1) (keyT 1 0 0 []) (newK_nodup 1) (by have := newK_len 1; omega) (newK_row 1) (by simp [keyT])
    have hkey := key_c hA 1 0 0 [] (by simp)
    rw [show putK (newK 1) (keyT 1 0 0 []) = newK 2 by rfl] at hput
    generalize hK1 : newK 1 = K1 at *
    generalize hK2 : newK 2 = K2 at *
    generalize keyT 1 0 0 [] = q at *
    try first | refine AOLg.of [] ?_ | refine QSg.of [] ?_
    repeat' (first
      | (refine AWp.pass ?_; first
          | refine AWp.seq ?_
          | refine AWp.block ?_
          | refine AWp.skip ?_
          | refine AWp.regG [] (by conv => lhs; cbv) ?_
          | refine AWp.cond_t rfl ?_
          | refine AWp.cond_f rfl ?_
          | (refine AWp.cond rfl ?_ ?_ <;> intro hc <;> (try rw [hc]) <;> ((try simp only [zn] at hc) <;> (try simp (disch := omega) only [zz hA, zb, zy, reduceCtorEq, Bool.false_eq_true, Int.reduceLT, Int.reduceLE, Int.reduceNeg] at hc) <;> (try simp only [zw] at hc)) <;> (try (exfalso; omega)))
          | refine AWp.exit ?_
          | refine AWp.ret ⟨.inr rfl, _, RetOk.ev tabOk (by conv => lhs; cbv), ?_⟩
          | refine AWp.drawVG [] rfl (by decide +kernel) (by conv => lhs; cbv) ?_)
      | (refine AOLg.pass ?_; refine AOLg.nx hA tabOk (by conv => lhs; cbv) ?_; first
          | refine NX.done ?_
          | refine NX.gt ?_
          | refine NX.gf ?_
          | (refine NX.gs ?_ ?_ <;> intro hc <;> rw [hc] <;> ((try simp only [zn] at hc) <;> (try simp (disch := omega) only [zz hA, zb, zy, reduceCtorEq, Bool.false_eq_true, Int.reduceLT, Int.reduceLE, Int.reduceNeg] at hc) <;> (try simp only [zw] at hc)) <;> (try (exfalso; omega)))
          | (refine NX.kC ?_; first | (with_reducible refine NX.call (hkey) ?_) | (with_reducible refine NX.call (hput) ?_) | (refine NX.call (PureCalls.weaken (hkey) ?_) ?_ <;> (first | refine AOLg.pass ?_ | ((with_reducible repeat' (first | exact PLes.nil | exact ILes.nil | refine PLes.cons (PLe.refl _) ?_ | refine PLes.cons (PLe.c (ILe.nilM hA _ _ _ _)) ?_ | refine PLes.cons (PLe.agg ?_) ?_ | refine ILes.cons (ILe.refl _) ?_ | refine ILes.cons (ILe.nilM hA _ _ _ _) ?_)); done) | (((try simp only [zn]) <;> (try simp (disch := omega) only [zz hA, zb, zy, reduceCtorEq, Bool.false_eq_true, Int.reduceLT, Int.reduceLE, Int.reduceNeg]) <;> (try simp only [zw])) <;> omega))) | ((first | refine NX.call (hkey) ?_ | refine NX.call (hput) ?_)) | fail)
          | (refine NX.kO ?_; (first | refine NX.callO (hkey) (by simp [allEq]) rfl ?_ | refine NX.callO (hput) (by simp [allEq]) rfl ?_))
          | ((first | (refine NX.k 1 ?_; first | refine NX.one (One.elemM hA tabOk rfl rfl rfl rfl ?_ ?_) ?_ | refine NX.one (One.elemOwnM hA tabOk rfl rfl rfl rfl rfl ?_ ?_) ?_) | (refine NX.k 7 ?_; first | refine NX.one (One.concatM hA rfl rfl rfl ?_) ?_) | (refine NX.k 10 ?_; first | refine NX.one (One.lenOwnM hA tabOk rfl rfl rfl rfl) ?_) | (refine NX.k 14 ?_; first | refine NX.one (One.loadRatM hA tabOk rfl rfl rfl rfl rfl rfl ?_) ?_) | (refine NX.k 15 ?_; first | refine NX.one (One.storeRatM hA tabOk _ rfl rfl rfl rfl rfl rfl rfl rfl (fun _ => rfl) ?_) ?_) | (refine NX.k 17 ?_; first | refine NX.one (One.build0 tabOk rfl rfl) ?_)) <;> (first | refine AOLg.pass ?_ | (((try simp only [zn]) <;> (try simp (disch := omega) only [zz hA, zb, zy, reduceCtorEq, Bool.false_eq_true, Int.reduceLT, Int.reduceLE, Int.reduceNeg]) <;> (try simp only [zw])) <;> omega)))
          | (refine NX.one (One.elem tabOk rfl rfl rfl rfl (by decide) rfl) ?_)
          | refine NX.raw ?_)
      | (refine TRg.pass ?_; refine TRg.nx hA tabOk (by conv => lhs; cbv) ?_; first
          | refine TX.done ?_
          | refine TX.gt ?_
          | refine TX.gf ?_
          | (refine TX.gs ?_ ?_ <;> intro hc <;> rw [hc] <;> ((try simp only [zn] at hc) <;> (try simp (disch := omega) only [zz hA, zb, zy, reduceCtorEq, Bool.false_eq_true, Int.reduceLT, Int.reduceLE, Int.reduceNeg] at hc) <;> (try simp only [zw] at hc)) <;> (try (exfalso; omega)))
          | (refine TX.kC ?_; first | (with_reducible refine TX.call (hkey) ?_) | (with_reducible refine TX.call (hput) ?_) | (refine TX.call (PureCalls.weaken (hkey) ?_) ?_ <;> (first | refine TRg.pass ?_ | ((with_reducible repeat' (first | exact PLes.nil | exact ILes.nil | refine PLes.cons (PLe.refl _) ?_ | refine PLes.cons (PLe.c (ILe.nilM hA _ _ _ _)) ?_ | refine PLes.cons (PLe.agg ?_) ?_ | refine ILes.cons (ILe.refl _) ?_ | refine ILes.cons (ILe.nilM hA _ _ _ _) ?_)); done) | (((try simp only [zn]) <;> (try simp (disch := omega) only [zz hA, zb, zy, reduceCtorEq, Bool.false_eq_true, Int.reduceLT, Int.reduceLE, Int.reduceNeg]) <;> (try simp only [zw])) <;> omega))) | ((first | refine TX.call (hkey) ?_ | refine TX.call (hput) ?_)) | fail)
          | (refine TX.kO ?_; (first | refine TX.callO (hkey) (by simp [allEq]) rfl ?_ | refine TX.callO (hput) (by simp [allEq]) rfl ?_))
          | ((first | (refine TX.k 1 ?_; first | refine TX.one (One.elemM hA tabOk rfl rfl rfl rfl ?_ ?_) ?_ | refine TX.one (One.elemOwnM hA tabOk rfl rfl rfl rfl rfl ?_ ?_) ?_) | (refine TX.k 7 ?_; first | refine TX.one (One.concatM hA rfl rfl rfl ?_) ?_) | (refine TX.k 10 ?_; first | refine TX.one (One.lenOwnM hA tabOk rfl rfl rfl rfl) ?_) | (refine TX.k 14 ?_; first | refine TX.one (One.loadRatM hA tabOk rfl rfl rfl rfl rfl rfl ?_) ?_) | (refine TX.k 15 ?_; first | refine TX.one (One.storeRatM hA tabOk _ rfl rfl rfl rfl rfl rfl rfl rfl (fun _ => rfl) ?_) ?_) | (refine TX.k 17 ?_; first | refine TX.one (One.build0 tabOk rfl rfl) ?_)) <;> (first | refine TRg.pass ?_ | (((try simp only [zn]) <;> (try simp (disch := omega) only [zz hA, zb, zy, reduceCtorEq, Bool.false_eq_true, Int.reduceLT, Int.reduceLE, Int.reduceNeg]) <;> (try simp only [zw])) <;> omega)))
          | (refine TX.one (One.elem tabOk rfl rfl rfl rfl (by decide) rfl) ?_)
          | refine TX.raw ?_)
      | refine Fin3.of (by conv => lhs; cbv) (by repeat' (first | exact True.intro | exact rfl | refine And.intro ?_ ?_)) ?_ ?_
      | (refine AllO.pass ?_; first
          | exact AllO.nil
          | (refine AllO.cons (One.ev hA tabOk ?_) ?_ <;> (first | refine AllO.pass ?_ | ((conv => lhs; cbv); done)))
          | (refine AllO.cons (One.skipB ?_) ?_ <;> (first | refine AllO.pass ?_ | ((conv => lhs; cbv); done)))
          | ((with_reducible refine AllO.call (by conv => lhs; cbv) (hkey) ?_ ?_) <;> (first | refine AllO.pass ?_ | exact rfl | (((try simp only [zn]) <;> (try simp (disch := omega) only [zz hA, zb, zy, reduceCtorEq, Bool.false_eq_true, Int.reduceLT, Int.reduceLE, Int.reduceNeg]) <;> (try simp only [zw])) <;> omega)))
          | ((with_reducible refine AllO.call (by conv => lhs; cbv) (hput) ?_ ?_) <;> (first | refine AllO.pass ?_ | exact rfl | (((try simp only [zn]) <;> (try simp (disch := omega) only [zz hA, zb, zy, reduceCtorEq, Bool.false_eq_true, Int.reduceLT, Int.reduceLE, Int.reduceNeg]) <;> (try simp only [zw])) <;> omega)))
          | ((first | refine AllO.consX (One.elemM hA tabOk rfl rfl rfl rfl ?_ ?_) rfl rfl ?_ | refine AllO.consX (One.concatM hA rfl rfl rfl ?_) rfl rfl ?_ | refine AllO.consX (One.lenOwnM hA tabOk rfl rfl rfl rfl) rfl rfl ?_ | refine AllO.consX (One.elemOwnM hA tabOk rfl rfl rfl rfl rfl ?_ ?_) rfl rfl ?_ | refine AllO.consX (One.loadRatM hA tabOk rfl rfl rfl rfl rfl rfl ?_) rfl rfl ?_) <;> (first | refine AllO.pass ?_ | (((try simp only [zn]) <;> (try simp (disch := omega) only [zz hA, zb, zy, reduceCtorEq, Bool.false_eq_true, Int.reduceLT, Int.reduceLE, Int.reduceNeg]) <;> (try simp only [zw])) <;> omega))))
      | refine Thn.exit ?_
      | refine Blk.here ?_
      | refine Blk.other (by decide) ?_
      | refine ⟨.inl rfl, _, RetOk.ev tabOk (by conv => lhs; cbv), ?_⟩
      | fail)
    refine ⟨2, ?_, ?_, rfl, ?_, ?_, (by repeat' (first | exact subE.nil | refine subE.cons rfl ?_))⟩ <;> (try omega)
    · rw [hK2]
    · exact .int rfl (by show _ = (2 : Int); (((try simp only [zn]) <;> (try simp (disch := omega) only [zz hA, zb, zy, reduceCtorEq, Bool.false_eq_true, Int.reduceLT, Int.reduceLE, Int.reduceNeg]) <;> (try simp only [zw])) <;> omega)) .nil
  | 2, _ =>
    try first | refine AOLg.of [] ?_ | refine QSg.of [] ?_
    repeat' (first
      | (refine AWp.pass ?_; first
          | refine AWp.seq ?_
          | refine AWp.block ?_
          | refine AWp.skip ?_
          | refine AWp.regG [] (by conv => lhs; cbv) ?_
          | refine AWp.cond_t rfl ?_
          | refine AWp.cond_f rfl ?_
          | (refine AWp.cond rfl ?_ ?_ <;> intro hc <;> (try rw [hc]) <;> ((try simp only [zn] at hc) <;> (try simp (disch := omega) only [zz hA, zb, zy, reduceCtorEq, Bool.false_eq_true, Int.reduceLT, Int.reduceLE, Int.reduceNeg] at hc) <;> (try simp only [zw] at hc)) <;> (try (exfalso; omega)))
          | refine AWp.exit ?_
          | refine AWp.ret ⟨.inr rfl, _, RetOk.ev tabOk (by conv => lhs; cbv), ?_⟩
          | refine AWp.drawVG [] rfl (by decide +kernel) (by conv => lhs; cbv) ?_)
      | (refine AOLg.pass ?_; refine AOLg.nx hA tabOk (by conv => lhs; cbv) ?_; first
          | refine NX.done ?_
          | refine NX.gt ?_
          | refine NX.gf ?_
          | (refine NX.gs ?_ ?_ <;> intro hc <;> rw [hc] <;> ((try simp only [zn] at hc) <;> (try simp (disch := omega) only [zz hA, zb, zy, reduceCtorEq, Bool.false_eq_true, Int.reduceLT, Int.reduceLE, Int.reduceNeg] at hc) <;> (try simp only [zw] at hc)) <;> (try (exfalso; omega)))
          | ((first | (refine NX.k 1 ?_; first | refine NX.one (One.elemM hA tabOk rfl rfl rfl rfl ?_ ?_) ?_ | refine NX.one (One.elemOwnM hA tabOk rfl rfl rfl rfl rfl ?_ ?_) ?_) | (refine NX.k 7 ?_; first | refine NX.one (One.concatM hA rfl rfl rfl ?_) ?_) | (refine NX.k 10 ?_; first | refine NX.one (One.lenOwnM hA tabOk rfl rfl rfl rfl) ?_) | (refine NX.k 14 ?_; first | refine NX.one (One.loadRatM hA tabOk rfl rfl rfl rfl rfl rfl ?_) ?_) | (refine NX.k 15 ?_; first | refine NX.one (One.storeRatM hA tabOk _ rfl rfl rfl rfl rfl rfl rfl rfl (fun _ => rfl) ?_) ?_) | (refine NX.k 17 ?_; first | refine NX.one (One.build0 tabOk rfl rfl) ?_)) <;> (first | refine AOLg.pass ?_ | (((try simp only [zn]) <;> (try simp (disch := omega) only [zz hA, zb, zy, reduceCtorEq, Bool.false_eq_true, Int.reduceLT, Int.reduceLE, Int.reduceNeg]) <;> (try simp only [zw])) <;> omega)))
          | refine NX.raw ?_)
      | (refine TRg.pass ?_; refine TRg.nx hA tabOk (by conv => lhs; cbv) ?_; first
          | refine TX.done ?_
          | refine TX.gt ?_
          | refine TX.gf ?_
          | (refine TX.gs ?_ ?_ <;> intro hc <;> rw [hc] <;> ((try simp only [zn] at hc) <;> (try simp (disch := omega) only [zz hA, zb, zy, reduceCtorEq, Bool.false_eq_true, Int.reduceLT, Int.reduceLE, Int.reduceNeg] at hc) <;> (try simp only [zw] at hc)) <;> (try (exfalso; omega)))
          | ((first | (refine TX.k 1 ?_; first | refine TX.one (One.elemM hA tabOk rfl rfl rfl rfl ?_ ?_) ?_ | refine TX.one (One.elemOwnM hA tabOk rfl rfl rfl rfl rfl ?_ ?_) ?_) | (refine TX.k 7 ?_; first | refine TX.one (One.concatM hA rfl rfl rfl ?_) ?_) | (refine TX.k 10 ?_; first | refine TX.one (One.lenOwnM hA tabOk rfl rfl rfl rfl) ?_) | (refine TX.k 14 ?_; first | refine TX.one (One.loadRatM hA tabOk rfl rfl rfl rfl rfl rfl ?_) ?_) | (refine TX.k 15 ?_; first | refine TX.one (One.storeRatM hA tabOk _ rfl rfl rfl rfl rfl rfl rfl rfl (fun _ => rfl) ?_) ?_) | (refine TX.k 17 ?_; first | refine TX.one (One.build0 tabOk rfl rfl) ?_)) <;> (first | refine TRg.pass ?_ | (((try simp only [zn]) <;> (try simp (disch := omega) only [zz hA, zb, zy, reduceCtorEq, Bool.false_eq_true, Int.reduceLT, Int.reduceLE, Int.reduceNeg]) <;> (try simp only [zw])) <;> omega)))
          | refine TX.raw ?_)
      | refine Fin3.of (by conv => lhs; cbv) (by repeat' (first | exact True.intro | exact rfl | refine And.intro ?_ ?_)) ?_ ?_
      | (refine AllO.pass ?_; first
          | exact AllO.nil
          | (refine AllO.cons (One.ev hA tabOk ?_) ?_ <;> (first | refine AllO.pass ?_ | ((conv => lhs; cbv); done)))
          | (refine AllO.cons (One.skipB ?_) ?_ <;> (first | refine AllO.pass ?_ | ((conv => lhs; cbv); done)))
          | ((first | refine AllO.consX (One.elemM hA tabOk rfl rfl rfl rfl ?_ ?_) rfl rfl ?_ | refine AllO.consX (One.concatM hA rfl rfl rfl ?_) rfl rfl ?_ | refine AllO.consX (One.lenOwnM hA tabOk rfl rfl rfl rfl) rfl rfl ?_ | refine AllO.consX (One.elemOwnM hA tabOk rfl rfl rfl rfl rfl ?_ ?_) rfl rfl ?_ | refine AllO.consX (One.loadRatM hA tabOk rfl rfl rfl rfl rfl rfl ?_) rfl rfl ?_) <;> (first | refine AllO.pass ?_ | (((try simp only [zn]) <;> (try simp (disch := omega) only [zz hA, zb, zy, reduceCtorEq, Bool.false_eq_true, Int.reduceLT, Int.reduceLE, Int.reduceNeg]) <;> (try simp only [zw])) <;> omega))))
      | refine Thn.exit ?_
      | refine Blk.here ?_
      | refine Blk.other (by decide) ?_
      | refine ⟨.inl rfl, _, RetOk.ev tabOk (by conv => lhs; cbv), ?_⟩
      | fail)
    refine rPV_then (by conv => lhs; cbv) ?_
    rfl
set_option maxHeartbeats 4000000 in
theorem shown3_c : PureCalls Try.prog 26 [] (BP true) := by
  have hm := mayM_new 2 (by decide) 2
  have he : putTe [] (newK 2) 2 0 0 [] 9 = 0 := by
    unfold putTe
    rw [if_pos (by exact hm), if_neg (by decide)]
  have hk : putTK [] (newK 2) 2 0 0 [] 9 = newK 3 := by
    unfold putTK; rw [if_pos he]; rfl
  have hi : putTi [] (newK 2) 2 0 0 [] 9 = 2 := by
    unfold putTi; rw [if_pos he]; rfl
  have hput := tPut_c hA [] (newK 2) 2 0 0 [] 9 (by decide) (by decide) (by simp [FitG]) (newK_nodup 2) (by decide) (newK_row 2)
  rw [he, hk, hi] at hput
  have hr := tRight_c hA [] (newK 3) (layM (newK 3)) (by decide) (by simp [FitG]) (by decide) (newK_row 3) (by have := layM_len (newK 3); have := sizeM_bound (newK 3).length; have := newK_len 3; omega)
  rw [right3, hid_eq hA (α := Bool)] at hr
  have hbl := below_c hA (newK 3) (layM (newK 3)) 2 down3 (by decide) (newK_row 3) (by decide)
  have hb1 : (belowM (newK 3) 2).length = 1 := by decide
  have hl3 : (newK 3).length = 3 := rfl
  have hnew := tNew_c hA
  clear hm he hk hi
  generalize newK 3 = K3 at *
  generalize newK 2 = K2 at *
  generalize belowM K3 2 = b at *
  refine PureCalls.of Try.func26 rfl (by kernel_rfl) rfl ?_
  try first | refine AOLg.of [] ?_ | refine QSg.of [] ?_
  repeat' (first
    | (refine AWp.pass ?_; first
        | refine AWp.seq ?_
        | refine AWp.block ?_
        | refine AWp.skip ?_
        | refine AWp.regG [] (by conv => lhs; cbv) ?_
        | refine AWp.cond_t rfl ?_
        | refine AWp.cond_f rfl ?_
        | (refine AWp.cond rfl ?_ ?_ <;> intro hc <;> (try rw [hc]) <;> ((try simp only [zn] at hc) <;> (try simp (disch := omega) only [zz hA, zb, zy, reduceCtorEq, Bool.false_eq_true, Int.reduceLT, Int.reduceLE, Int.reduceNeg] at hc) <;> (try simp only [zw] at hc)) <;> (try (exfalso; omega)))
        | refine AWp.exit ?_
        | refine AWp.ret ⟨.inr rfl, _, RetOk.ev tabOk (by conv => lhs; cbv), ?_⟩)
    | (refine AOLg.pass ?_; refine AOLg.nx hA tabOk (by conv => lhs; cbv) ?_; first
        | refine NX.done ?_
        | refine NX.gt ?_
        | refine NX.gf ?_
        | (refine NX.gs ?_ ?_ <;> intro hc <;> rw [hc] <;> ((try simp only [zn] at hc) <;> (try simp (disch := omega) only [zz hA, zb, zy, reduceCtorEq, Bool.false_eq_true, Int.reduceLT, Int.reduceLE, Int.reduceNeg] at hc) <;> (try simp only [zw] at hc)) <;> (try (exfalso; omega)))
        | (refine NX.kC ?_; first | (with_reducible refine NX.call (hnew) ?_) | (with_reducible refine NX.call (hput) ?_) | (with_reducible refine NX.call (hr) ?_) | ((with_reducible refine NX.call (hbl _ ?_) ?_) <;> (first | refine AOLg.pass ?_ | (((try simp only [zn]) <;> (try simp (disch := omega) only [zz hA, zb, zy, reduceCtorEq, Bool.false_eq_true, Int.reduceLT, Int.reduceLE, Int.reduceNeg]) <;> (try simp only [zw])) <;> omega))) | (refine NX.call (PureCalls.weaken (hput) ?_) ?_ <;> (first | refine AOLg.pass ?_ | ((with_reducible repeat' (first | exact PLes.nil | exact ILes.nil | refine PLes.cons (PLe.refl _) ?_ | refine PLes.cons (PLe.c (ILe.nilM hA _ _ _ _)) ?_ | refine PLes.cons (PLe.agg ?_) ?_ | refine ILes.cons (ILe.refl _) ?_ | refine ILes.cons (ILe.nilM hA _ _ _ _) ?_)); done) | (((try simp only [zn]) <;> (try simp (disch := omega) only [zz hA, zb, zy, reduceCtorEq, Bool.false_eq_true, Int.reduceLT, Int.reduceLE, Int.reduceNeg]) <;> (try simp only [zw])) <;> omega))) | (refine NX.call (PureCalls.weaken (hr) ?_) ?_ <;> (first | refine AOLg.pass ?_ | ((with_reducible repeat' (first | exact PLes.nil | exact ILes.nil | refine PLes.cons (PLe.refl _) ?_ | refine PLes.cons (PLe.c (ILe.nilM hA _ _ _ _)) ?_ | refine PLes.cons (PLe.agg ?_) ?_ | refine ILes.cons (ILe.refl _) ?_ | refine ILes.cons (ILe.nilM hA _ _ _ _) ?_)); done) | (((try simp only [zn]) <;> (try simp (disch := omega) only [zz hA, zb, zy, reduceCtorEq, Bool.false_eq_true, Int.reduceLT, Int.reduceLE, Int.reduceNeg]) <;> (try simp only [zw])) <;> omega))) | ((first | refine NX.call (hnew) ?_ | refine NX.call (hput) ?_ | refine NX.call (hr) ?_ | refine NX.call (hbl _ ?_) ?_) <;> (first | refine AOLg.pass ?_ | (((try simp only [zn]) <;> (try simp (disch := omega) only [zz hA, zb, zy, reduceCtorEq, Bool.false_eq_true, Int.reduceLT, Int.reduceLE, Int.reduceNeg]) <;> (try simp only [zw])) <;> omega))) | fail)
        | (refine NX.kO ?_; (first | refine NX.callO (hnew) (by simp [allEq]) rfl ?_ | refine NX.callO (hput) (by simp [allEq]) rfl ?_ | refine NX.callO (hr) (by simp [allEq]) rfl ?_ | refine NX.callO (hbl _ ?_) (by simp [allEq]) rfl ?_) <;> (first | refine AOLg.pass ?_ | (((try simp only [zn]) <;> (try simp (disch := omega) only [zz hA, zb, zy, reduceCtorEq, Bool.false_eq_true, Int.reduceLT, Int.reduceLE, Int.reduceNeg]) <;> (try simp only [zw])) <;> omega)))
        | ((first | (refine NX.k 8 ?_; first | refine NX.one (One.eqBoolM hA tabOk rfl rfl rfl rfl rfl) ?_) | (refine NX.k 10 ?_; first | refine NX.one (One.lenOwnM hA tabOk rfl rfl rfl rfl) ?_) | (refine NX.k 14 ?_; first | refine NX.one (One.loadRatM hA tabOk rfl rfl rfl rfl rfl rfl ?_) ?_) | (refine NX.k 15 ?_; first | refine NX.one (One.storeRatM hA tabOk _ rfl rfl rfl rfl rfl rfl rfl rfl (fun _ => rfl) ?_) ?_) | (refine NX.k 18 ?_; first | refine NX.one (One.fieldRat tabOk rfl rfl rfl rfl (by decide) rfl rfl) ?_)) <;> (first | refine AOLg.pass ?_ | (((try simp only [zn]) <;> (try simp (disch := omega) only [zz hA, zb, zy, reduceCtorEq, Bool.false_eq_true, Int.reduceLT, Int.reduceLE, Int.reduceNeg]) <;> (try simp only [zw])) <;> omega)))
        | refine NX.raw ?_)
    | refine Thn.exit ?_
    | refine Blk.here ?_
    | refine Blk.other (by decide) ?_
    | refine ⟨.inl rfl, _, RetOk.ev tabOk (by conv => lhs; cbv), ?_⟩
    | fail)
  first | (exfalso; omega) | (refine rPV_then (by conv => lhs; cbv) ?_; rfl) | (refine rPV_then (by conv => lhs; cbv) ?_; refine congrArg (fun b => PV.c (IC.lit (Value.bool b))) ?_; ((try simp only [zn]) <;> (try simp (disch := omega) only [zz hA, zb, zy, reduceCtorEq, Bool.false_eq_true, Int.reduceLT, Int.reduceLE, Int.reduceNeg]) <;> (try simp only [zw])); done) | (refine rPV_then (by conv => lhs; cbv) ?_; refine congrArg (fun b => PV.c (IC.lit (Value.bool b))) ?_; ((try simp only [zn]) <;> (try simp (disch := omega) only [zz hA, zb, zy, reduceCtorEq, Bool.false_eq_true, Int.reduceLT, Int.reduceLE, Int.reduceNeg]) <;> (try simp only [zw])); omega) | fail
end Go.Proofs.Ytpphdaphbkepfaa.Aw

/- Law TermKeys. -/
set_option linter.unusedVariables false
set_option linter.unusedSimpArgs false
set_option linter.unusedSectionVars false
namespace Go.Proofs.Ytpphdaphbkepfaa.Aw
open Go Go.RowKit
set_option maxRecDepth 10000
attribute [local irreducible] AWp AOL QS One AOLg QSg NX QX TRg TX AllO Fin3
variable {A : Ar} (hA : A = real)
include hA
end Go.Proofs.Ytpphdaphbkepfaa.Aw

/- The arguments of the statements of term out of the row's data; the laws over them. -/
set_option linter.unusedVariables false
set_option linter.unusedSectionVars false
namespace Go.Proofs.Ytpphdaphbkepfaa.Aw
open Go Go.RowKit
def shTerm : List Sh := [.int .i64, .int .i64, .int .i64, .sl 8 (.int .i64)]
theorem decTerm {ics : List IC} (h : Decs shTerm ics) : ∃ (k s p : Int) (a : List Int), ics = [I k, I s, I p, .sl 1 false (List.map encI a)] ∧ a.length ≤ 140737488351232 := by
  obtain ⟨a1, b1, rfl, ⟨k, rfl, _⟩, a2, b2, rfl, ⟨s, rfl, _⟩, a3, b3, rfl, ⟨p, rfl, _⟩, a4, b4, rfl, ⟨r, rfl, h3, h4⟩, rfl⟩ := h
  obtain ⟨l, rfl, _⟩ := decInts h3
  simp only [List.length_map] at h4
  exact ⟨k, s, p, l, rfl, by omega⟩
variable {A : Ar} (hA : A = real)
include hA
end Go.Proofs.Ytpphdaphbkepfaa.Aw

/- Plain law of Below: what it holds is what can be reached. -/
set_option linter.unusedVariables false
namespace Go.Proofs.Ytpphdaphbkepfaa.Aw
open Go Go.RowKit
inductive Rc (K : List (List Int)) (id : Nat) : Nat → Prop
  | refl : Rc K id id
  | step {m : Nat} {x : Int} : Rc K id m → x ∈ argsK K m → Rc K id x.toNat
theorem Rc_le {K : List (List Int)} {id n : Nat} (hd : Down K) (hi : id < K.length) (h : Rc K id n) : n ≤ id := by
  induction h with
  | refl => exact Nat.le_refl _
  | step h1 h2 ih =>
    have := (hd _ (by omega)).2 _ h2
    omega
theorem Rc_step {K : List (List Int)} {id m n : Nat} {x : Int} (h : Rc K id m) (hx : x ∈ argsK K m) (e : x.toNat = n) : Rc K id n := e ▸ h.step hx
theorem markA_get (r : List Bool) (a : List Int) (p : Nat) (hp : p < r.length) : (markA r a).getD p default = true ↔ r.getD p default = true ∨ ∃ x ∈ a, x.toNat = p := by
  induction a generalizing r with
  | nil => simp [markA]
  | cons y a ih =>
    show (markA (r.set y.toNat true) a).getD p default = true ↔ _
    rw [ih _ (by rw [List.length_set]; exact hp)]
    have e : (r.set y.toNat true).getD p default = true ↔ r.getD p default = true ∨ y.toNat = p := by
      simp only [List.getD_eq_getElem?_getD, List.getElem?_set]
      by_cases h : y.toNat = p
      · simp [h, hp]
      · simp [h]
    rw [e]
    simp only [List.mem_cons, exists_eq_or_imp, or_assoc]
theorem belB_get {K : List (List Int)} {id : Nat} (hd : Down K) (hi : id < K.length) : ∀ k, k ≤ id + 1 → ∀ p, p ≤ id → ((belB K id k).getD p default = true ↔ (p = id ∨ ∃ m, id < m + k ∧ Rc K id m ∧ ∃ x ∈ argsK K m, x.toNat = p)) := by
  intro k
  induction k with
  | zero =>
    intro _ p hp
    have e : (belB K id 0).getD p default = true ↔ p = id := by
      show ((List.replicate (id + 1) false).set id true).getD p default = true ↔ _
      simp only [List.getD_eq_getElem?_getD, List.getElem?_set, List.getElem?_replicate, List.length_replicate]
      by_cases h : id = p
      · simp [h]
      · have h' : ¬ p = id := fun e => h e.symm
        simp only [if_neg h, h', iff_false]
        split <;> simp
    rw [e]
    constructor
    · exact .inl
    · rintro (h | ⟨m, h1, h2, _⟩)
      · exact h
      · have := Rc_le hd hi h2; omega
  | succ k ih =>
    intro hk p hp
    have ih := ih (by omega)
    have hc : (belB K id k).getD (id - k) default = true ↔ Rc K id (id - k) := by
      rw [ih _ (by omega)]
      constructor
      · rintro (h | ⟨m, h1, h2, x, hx, e⟩)
        · rw [h]; exact .refl
        · exact Rc_step h2 hx e
      · intro h
        generalize hn : id - k = n at h
        cases h with
        | refl => exact .inl rfl
        | @step m x h1 hx =>
          have h3 := Rc_le hd hi h1
          have h4 := (hd m (by omega)).2 x hx
          exact .inr ⟨m, by omega, h1, x, hx, rfl⟩
    unfold belB
    by_cases hb : (belB K id k).getD (id - k) default = true
    · rw [if_pos hb, markA_get _ _ _ (by rw [belB_len]; omega), ih p hp]
      have hr := hc.1 hb
      constructor
      · rintro ((h | ⟨m, h1, h2, h3⟩) | ⟨x, hx, e⟩)
        · exact .inl h
        · exact .inr ⟨m, by omega, h2, h3⟩
        · exact .inr ⟨id - k, by omega, hr, x, hx, e⟩
      · rintro (h | ⟨m, h1, h2, x, hx, e⟩)
        · exact .inl (.inl h)
        · by_cases hm : m = id - k
          · subst hm; exact .inr ⟨x, hx, e⟩
          · exact .inl (.inr ⟨m, by omega, h2, x, hx, e⟩)
    · rw [if_neg hb, ih p hp]
      have hr : ¬ Rc K id (id - k) := fun h => hb (hc.2 h)
      constructor
      · rintro (h | ⟨m, h1, h2, h3⟩)
        · exact .inl h
        · exact .inr ⟨m, by omega, h2, h3⟩
      · rintro (h | ⟨m, h1, h2, x, hx, e⟩)
        · exact .inl h
        · by_cases hm : m = id - k
          · subst hm; exact absurd h2 hr
          · exact .inr ⟨m, by omega, h2, x, hx, e⟩
theorem belB_rc {K : List (List Int)} {id : Nat} (hd : Down K) (hi : id < K.length) (k : Nat) (hk : k ≤ id) : (belB K id k).getD (id - k) default = true ↔ Rc K id (id - k) := by
  rw [belB_get hd hi k (by omega) _ (by omega)]
  constructor
  · rintro (h | ⟨m, h1, h2, x, hx, e⟩)
    · rw [h]; exact .refl
    · exact Rc_step h2 hx e
  · intro h
    generalize hn : id - k = n at h
    cases h with
    | refl => exact .inl rfl
    | @step m x h1 hx =>
      have h3 := Rc_le hd hi h1
      have h4 := (hd m (by omega)).2 x hx
      exact .inr ⟨m, by omega, h1, x, hx, rfl⟩
noncomputable def rcB (K : List (List Int)) (id n : Nat) : Bool := @decide (Rc K id n) (Classical.propDecidable _)
theorem rcB_iff (K : List (List Int)) (id n : Nat) : rcB K id n = true ↔ Rc K id n := by unfold rcB; simp
theorem belO_eq {K : List (List Int)} {id : Nat} (hd : Down K) (hi : id < K.length) : ∀ k, k ≤ id + 1 → (belO K id k).reverse = ((List.range' (id + 1 - k) k).filter (rcB K id)).map fun n : Nat => (n : Int) := by
  intro k
  induction k with
  | zero => intro _; rfl
  | succ k ih =>
    intro hk
    have e1 : id + 1 - (k + 1) = id - k := by omega
    have e2 : List.range' (id - k) (k + 1) = (id - k) :: List.range' (id + 1 - k) k := by
      rw [List.range'_succ]; congr 2; omega
    rw [e1, e2, List.filter_cons]
    unfold belO
    have hb := belB_rc hd hi k (by omega)
    by_cases h : (belB K id k).getD (id - k) default = true
    · rw [if_pos h, if_pos ((rcB_iff _ _ _).2 (hb.1 h)), List.reverse_append, ih (by omega)]
      rfl
    · rw [if_neg h, if_neg (fun e => h (hb.2 ((rcB_iff _ _ _).1 e))), ih (by omega)]
theorem below_eq {K : List (List Int)} {id : Nat} (hd : Down K) (hi : id < K.length) : belowM K id = ((List.range (id + 1)).filter (rcB K id)).map fun n : Nat => (n : Int) := by
  unfold belowM
  rw [belO_eq hd hi (id + 1) (Nat.le_refl _), Nat.sub_self, List.range_eq_range']
end Go.Proofs.Ytpphdaphbkepfaa.Aw

/- Guard of the statements of term: which inputs they ask; small facts. -/
set_option linter.unusedVariables false
set_option linter.unusedSimpArgs false
set_option linter.unusedSectionVars false
namespace Go.Proofs.Ytpphdaphbkepfaa.Aw
open Go Go.RowKit
set_option maxRecDepth 10000
attribute [local irreducible] AWp AOL QS One AOLg QSg NX QX TRg TX AllO Fin3
theorem oddI_iff (many : Int) (a : List Int) : oddI many a < 0 ↔ ∀ x ∈ a, 0 ≤ x ∧ x < many := by
  unfold oddI
  rcases idxB_cases a.length (fun i => oddM many (a.getD i default)) with ⟨h1, h2⟩ | ⟨i, hi, h1, h2, h3⟩
  · rw [h1]
    refine ⟨fun _ x hx => ?_, fun _ => by omega⟩
    obtain ⟨i, hi, rfl⟩ := List.getElem_of_mem hx
    have := h2 i hi
    simp only [oddM, List.getD_eq_getElem?_getD, List.getElem?_eq_getElem hi, Option.getD_some, Bool.or_eq_false_iff, decide_eq_false_iff_not] at this
    omega
  · rw [h1]
    refine ⟨fun h => by omega, fun h => ?_⟩
    have := h (a.getD i default) (by rw [List.getD_eq_getElem?_getD, List.getElem?_eq_getElem hi]; exact List.getElem_mem _)
    simp only [oddM, Bool.or_eq_true, decide_eq_true_eq] at h2
    omega
theorem mayM_args {l : List Sg} {many k s p : Int} {a : List Int} (h : mayM l many k s p a = true) : ∀ x ∈ a, 0 ≤ x ∧ x < many := by
  rw [mayM_iff] at h
  exact (oddI_iff _ _).1 h.2
noncomputable def ofM (l : List Sg) (K : List (List Int)) (S : List Int) : Bool := (decide (l.length ≤ 64) && rightG l) && (fewM K S && rightT l K S)
/-- What a right store holds. -/
structure St3 (l : List Sg) (K : List (List Int)) (S : List Int) : Prop where
  ll : l.length ≤ 64
  sl : S.length ≤ 2000
  kl : K.length ≤ 2000
  rl : ∀ x ∈ K, x.length ≤ 2000
  nd : K.Nodup
  se : S = layM K
  k2 : 2 ≤ K.length
  ok : ∀ i, i < K.length → keyOk l i (K.getD i default) = true
theorem rightT_st {l : List Sg} {K : List (List Int)} {S : List Int} (h : rightT l K S = true) : (K.Nodup ∧ S = layM K) ∧ 2 ≤ K.length ∧ ∀ i, i < K.length → keyOk l i (K.getD i default) = true := by
  unfold rightT at h
  rw [Bool.and_eq_true, Bool.and_eq_true, decide_eq_true_eq, decide_eq_true_eq] at h
  obtain ⟨⟨h1, h2⟩, h3⟩ := h
  refine ⟨h1, h2, fun i hi => ?_⟩
  cases hb : keyOk l i (K.getD i default) with
  | true => rfl
  | false => rw [allB_f hi hb] at h3; cases h3
theorem ofM_st {l : List Sg} {K : List (List Int)} {S : List Int} (h : ofM l K S = true) : St3 l K S := by
  unfold ofM at h
  rw [Bool.and_eq_true, Bool.and_eq_true, Bool.and_eq_true, decide_eq_true_eq] at h
  obtain ⟨⟨h1, _⟩, h3, h4⟩ := h
  obtain ⟨b1, b2, b3⟩ := few_bounds h3
  obtain ⟨⟨c1, c2⟩, c3, c4⟩ := rightT_st h4
  exact ⟨h1, b1, b2, b3, c1, c2, c3, c4⟩
theorem keyOk_ex {l : List Sg} {i : Nat} {q : List Int} (h : keyOk l i q = true) : ∃ k s p a, q = keyT k s p a ∧ mayM l i k s p a = true ∧ (2 ≤ i ∨ k = i) := by
  have h3 : 3 ≤ q.length := by
    unfold keyOk at h
    rw [Bool.and_eq_true, Bool.and_eq_true, decide_eq_true_eq] at h
    exact h.1.1
  obtain ⟨k, s, p, a, rfl⟩ := key_ex h3
  rw [keyOk_T, Bool.and_eq_true, Bool.or_eq_true, decide_eq_true_eq, decide_eq_true_eq] at h
  exact ⟨k, s, p, a, rfl, h.1, h.2⟩
theorem St3.down {l : List Sg} {K : List (List Int)} {S : List Int} (h : St3 l K S) : Down K := fun n hn => by
  obtain ⟨k, s, p, a, hq, hm, _⟩ := keyOk_ex (h.ok n hn)
  refine ⟨by rw [hq]; simp [keyT], fun x hx => ?_⟩
  have : x ∈ a := by
    unfold argsK at hx
    rw [hq] at hx
    exact hx
  exact mayM_args hm x this
variable {A : Ar} (hA : A = real)
include hA
set_option maxHeartbeats 4000000 in
theorem of3_c (l : List Sg) (K : List (List Int)) (S : List Int) (hsz : FitG l) (hf : FitsK K S) : PureCalls Try.prog 27 [slP A 2 (encG A) l, keyedPV A K S] (BP (hid A (ofM l K S))) := by
  have hg := sigRight_c hA l hsz
  have hfew := refFew_c hA K S hf.1 hf.2.1 hf.2.2
  by_cases h1 : l.length ≤ 64
  · cases h2 : rightG l with
    | false =>
      have he : ofM l K S = false := by unfold ofM; rw [h2]; simp
      rw [h2, hid_eq hA (α := Bool)] at hg
      refine PureCalls.of Try.func27 rfl (by kernel_rfl) rfl ?_
      try first | refine AOLg.of [] ?_ | refine QSg.of [] ?_
      repeat' (first
        | (refine AWp.pass ?_; first
            | refine AWp.seq ?_
            | refine AWp.block ?_
            | refine AWp.skip ?_
            | refine AWp.regG [] (by conv => lhs; cbv) ?_
            | refine AWp.cond_t rfl ?_
            | refine AWp.cond_f rfl ?_
            | (refine AWp.cond rfl ?_ ?_ <;> intro hc <;> (try rw [hc]) <;> ((try simp only [zn] at hc) <;> (try simp (disch := omega) only [zz hA, zb, zy, reduceCtorEq, Bool.false_eq_true, Int.reduceLT, Int.reduceLE, Int.reduceNeg] at hc) <;> (try simp only [zw] at hc)) <;> (try (exfalso; omega)))
            | refine AWp.exit ?_
            | refine AWp.ret ⟨.inr rfl, _, RetOk.ev tabOk (by conv => lhs; cbv), ?_⟩)
        | (refine AOLg.pass ?_; refine AOLg.nx hA tabOk (by conv => lhs; cbv) ?_; first
            | refine NX.done ?_
            | refine NX.gt ?_
            | refine NX.gf ?_
            | (refine NX.gs ?_ ?_ <;> intro hc <;> rw [hc] <;> ((try simp only [zn] at hc) <;> (try simp (disch := omega) only [zz hA, zb, zy, reduceCtorEq, Bool.false_eq_true, Int.reduceLT, Int.reduceLE, Int.reduceNeg] at hc) <;> (try simp only [zw] at hc)) <;> (try (exfalso; omega)))
            | (refine NX.kC ?_; first | (with_reducible refine NX.call (hg) ?_) | ((first | refine NX.call (hg) ?_)) | fail)
            | (refine NX.kO ?_; (first | refine NX.callO (hg) (by simp [allEq]) rfl ?_))
            | ((first | (refine NX.k 10 ?_; first | refine NX.one (One.lenOwnM hA tabOk rfl rfl rfl rfl) ?_) | (refine NX.k 14 ?_; first | refine NX.one (One.loadRatM hA tabOk rfl rfl rfl rfl rfl rfl ?_) ?_)) <;> (first | refine AOLg.pass ?_ | (((try simp only [zn]) <;> (try simp (disch := omega) only [zz hA, zb, zy, reduceCtorEq, Bool.false_eq_true, Int.reduceLT, Int.reduceLE, Int.reduceNeg]) <;> (try simp only [zw])) <;> omega)))
            | refine NX.raw ?_)
        | refine Thn.exit ?_
        | refine Blk.here ?_
        | refine Blk.other (by decide) ?_
        | refine ⟨.inl rfl, _, RetOk.ev tabOk (by conv => lhs; cbv), ?_⟩
        | fail)
      refine rPV_then (by conv => lhs; cbv) ?_
      rw [he, hid_eq hA]
    | true =>
      rw [h2, hid_eq hA (α := Bool)] at hg
      cases h3 : fewM K S with
      | false =>
        have he : ofM l K S = false := by unfold ofM; rw [h3]; simp
        rw [h3, hid_eq hA (α := Bool)] at hfew
        refine PureCalls.of Try.func27 rfl (by kernel_rfl) rfl ?_
        try first | refine AOLg.of [] ?_ | refine QSg.of [] ?_
        repeat' (first
          | (refine AWp.pass ?_; first
              | refine AWp.seq ?_
              | refine AWp.block ?_
              | refine AWp.skip ?_
              | refine AWp.regG [] (by conv => lhs; cbv) ?_
              | refine AWp.cond_t rfl ?_
              | refine AWp.cond_f rfl ?_
              | (refine AWp.cond rfl ?_ ?_ <;> intro hc <;> (try rw [hc]) <;> ((try simp only [zn] at hc) <;> (try simp (disch := omega) only [zz hA, zb, zy, reduceCtorEq, Bool.false_eq_true, Int.reduceLT, Int.reduceLE, Int.reduceNeg] at hc) <;> (try simp only [zw] at hc)) <;> (try (exfalso; omega)))
              | refine AWp.exit ?_
              | refine AWp.ret ⟨.inr rfl, _, RetOk.ev tabOk (by conv => lhs; cbv), ?_⟩)
          | (refine AOLg.pass ?_; refine AOLg.nx hA tabOk (by conv => lhs; cbv) ?_; first
              | refine NX.done ?_
              | refine NX.gt ?_
              | refine NX.gf ?_
              | (refine NX.gs ?_ ?_ <;> intro hc <;> rw [hc] <;> ((try simp only [zn] at hc) <;> (try simp (disch := omega) only [zz hA, zb, zy, reduceCtorEq, Bool.false_eq_true, Int.reduceLT, Int.reduceLE, Int.reduceNeg] at hc) <;> (try simp only [zw] at hc)) <;> (try (exfalso; omega)))
              | (refine NX.kC ?_; first | (with_reducible refine NX.call (hg) ?_) | (with_reducible refine NX.call (hfew) ?_) | ((first | refine NX.call (hg) ?_ | refine NX.call (hfew) ?_)) | fail)
              | (refine NX.kO ?_; (first | refine NX.callO (hg) (by simp [allEq]) rfl ?_ | refine NX.callO (hfew) (by simp [allEq]) rfl ?_))
              | ((first | (refine NX.k 10 ?_; first | refine NX.one (One.lenOwnM hA tabOk rfl rfl rfl rfl) ?_) | (refine NX.k 14 ?_; first | refine NX.one (One.loadRatM hA tabOk rfl rfl rfl rfl rfl rfl ?_) ?_)) <;> (first | refine AOLg.pass ?_ | (((try simp only [zn]) <;> (try simp (disch := omega) only [zz hA, zb, zy, reduceCtorEq, Bool.false_eq_true, Int.reduceLT, Int.reduceLE, Int.reduceNeg]) <;> (try simp only [zw])) <;> omega)))
              | refine NX.raw ?_)
          | refine Thn.exit ?_
          | refine Blk.here ?_
          | refine Blk.other (by decide) ?_
          | refine ⟨.inl rfl, _, RetOk.ev tabOk (by conv => lhs; cbv), ?_⟩
          | fail)
        refine rPV_then (by conv => lhs; cbv) ?_
        rw [he, hid_eq hA]
      | true =>
        rw [h3, hid_eq hA (α := Bool)] at hfew
        obtain ⟨b1, b2, b3⟩ := few_bounds h3
        have hr := refTRight_c hA l K S (by omega) hsz (by omega) fun x hx => by have := b3 x hx; omega
        have he : ofM l K S = rightT l K S := by unfold ofM; rw [h2, h3, decide_eq_true h1]; simp
        refine PureCalls.of Try.func27 rfl (by kernel_rfl) rfl ?_
        try first | refine AOLg.of [] ?_ | refine QSg.of [] ?_
        repeat' (first
          | (refine AWp.pass ?_; first
              | refine AWp.seq ?_
              | refine AWp.block ?_
              | refine AWp.skip ?_
              | refine AWp.regG [] (by conv => lhs; cbv) ?_
              | refine AWp.cond_t rfl ?_
              | refine AWp.cond_f rfl ?_
              | (refine AWp.cond rfl ?_ ?_ <;> intro hc <;> (try rw [hc]) <;> ((try simp only [zn] at hc) <;> (try simp (disch := omega) only [zz hA, zb, zy, reduceCtorEq, Bool.false_eq_true, Int.reduceLT, Int.reduceLE, Int.reduceNeg] at hc) <;> (try simp only [zw] at hc)) <;> (try (exfalso; omega)))
              | refine AWp.exit ?_
              | refine AWp.ret ⟨.inr rfl, _, RetOk.ev tabOk (by conv => lhs; cbv), ?_⟩)
          | (refine AOLg.pass ?_; refine AOLg.nx hA tabOk (by conv => lhs; cbv) ?_; first
              | refine NX.done ?_
              | refine NX.gt ?_
              | refine NX.gf ?_
              | (refine NX.gs ?_ ?_ <;> intro hc <;> rw [hc] <;> ((try simp only [zn] at hc) <;> (try simp (disch := omega) only [zz hA, zb, zy, reduceCtorEq, Bool.false_eq_true, Int.reduceLT, Int.reduceLE, Int.reduceNeg] at hc) <;> (try simp only [zw] at hc)) <;> (try (exfalso; omega)))
              | (refine NX.kC ?_; first | (with_reducible refine NX.call (hg) ?_) | (with_reducible refine NX.call (hfew) ?_) | (with_reducible refine NX.call (hr) ?_) | ((first | refine NX.call (hg) ?_ | refine NX.call (hfew) ?_ | refine NX.call (hr) ?_)) | fail)
              | (refine NX.kO ?_; (first | refine NX.callO (hg) (by simp [allEq]) rfl ?_ | refine NX.callO (hfew) (by simp [allEq]) rfl ?_ | refine NX.callO (hr) (by simp [allEq]) rfl ?_))
              | ((first | (refine NX.k 10 ?_; first | refine NX.one (One.lenOwnM hA tabOk rfl rfl rfl rfl) ?_) | (refine NX.k 14 ?_; first | refine NX.one (One.loadRatM hA tabOk rfl rfl rfl rfl rfl rfl ?_) ?_)) <;> (first | refine AOLg.pass ?_ | (((try simp only [zn]) <;> (try simp (disch := omega) only [zz hA, zb, zy, reduceCtorEq, Bool.false_eq_true, Int.reduceLT, Int.reduceLE, Int.reduceNeg]) <;> (try simp only [zw])) <;> omega)))
              | refine NX.raw ?_)
          | refine Thn.exit ?_
          | refine Blk.here ?_
          | refine Blk.other (by decide) ?_
          | refine ⟨.inl rfl, _, RetOk.ev tabOk (by conv => lhs; cbv), ?_⟩
          | fail)
        refine rPV_then (by conv => lhs; cbv) ?_
        rw [he]
  · have he : ofM l K S = false := by unfold ofM; rw [decide_eq_false h1]; simp
    refine PureCalls.of Try.func27 rfl (by kernel_rfl) rfl ?_
    try first | refine AOLg.of [] ?_ | refine QSg.of [] ?_
    repeat' (first
      | (refine AWp.pass ?_; first
          | refine AWp.seq ?_
          | refine AWp.block ?_
          | refine AWp.skip ?_
          | refine AWp.regG [] (by conv => lhs; cbv) ?_
          | refine AWp.cond_t rfl ?_
          | refine AWp.cond_f rfl ?_
          | (refine AWp.cond rfl ?_ ?_ <;> intro hc <;> (try rw [hc]) <;> ((try simp only [zn] at hc) <;> (try simp (disch := omega) only [zz hA, zb, zy, reduceCtorEq, Bool.false_eq_true, Int.reduceLT, Int.reduceLE, Int.reduceNeg] at hc) <;> (try simp only [zw] at hc)) <;> (try (exfalso; omega)))
          | refine AWp.exit ?_
          | refine AWp.ret ⟨.inr rfl, _, RetOk.ev tabOk (by conv => lhs; cbv), ?_⟩)
      | (refine AOLg.pass ?_; refine AOLg.nx hA tabOk (by conv => lhs; cbv) ?_; first
          | refine NX.done ?_
          | refine NX.gt ?_
          | refine NX.gf ?_
          | (refine NX.gs ?_ ?_ <;> intro hc <;> rw [hc] <;> ((try simp only [zn] at hc) <;> (try simp (disch := omega) only [zz hA, zb, zy, reduceCtorEq, Bool.false_eq_true, Int.reduceLT, Int.reduceLE, Int.reduceNeg] at hc) <;> (try simp only [zw] at hc)) <;> (try (exfalso; omega)))
          | ((first | (refine NX.k 10 ?_; first | refine NX.one (One.lenOwnM hA tabOk rfl rfl rfl rfl) ?_) | (refine NX.k 14 ?_; first | refine NX.one (One.loadRatM hA tabOk rfl rfl rfl rfl rfl rfl ?_) ?_)) <;> (first | refine AOLg.pass ?_ | (((try simp only [zn]) <;> (try simp (disch := omega) only [zz hA, zb, zy, reduceCtorEq, Bool.false_eq_true, Int.reduceLT, Int.reduceLE, Int.reduceNeg]) <;> (try simp only [zw])) <;> omega)))
          | refine NX.raw ?_)
      | refine Thn.exit ?_
      | refine Blk.here ?_
      | refine Blk.other (by decide) ?_
      | refine ⟨.inl rfl, _, RetOk.ev tabOk (by conv => lhs; cbv), ?_⟩
      | fail)
    refine rPV_then (by conv => lhs; cbv) ?_
    rw [he, hid_eq hA]
end Go.Proofs.Ytpphdaphbkepfaa.Aw

/- Law TermFull. -/
set_option linter.unusedVariables false
set_option linter.unusedSimpArgs false
set_option linter.unusedSectionVars false
namespace Go.Proofs.Ytpphdaphbkepfaa.Aw
open Go Go.RowKit
set_option maxRecDepth 10000
attribute [local irreducible] AWp AOL QS One AOLg QSg NX QX TRg TX AllO Fin3
variable {A : Ar} (hA : A = real)
include hA
end Go.Proofs.Ytpphdaphbkepfaa.Aw

/- The arguments of the statements of term out of the row's data, part 2: rows of constructors. -/
set_option linter.unusedVariables false
set_option linter.unusedSectionVars false
namespace Go.Proofs.Ytpphdaphbkepfaa.Aw
open Go Go.RowKit
theorem decSg {rows : List (List IC)} (h : ∀ r ∈ rows, Dec (.st [.str, .str]) r) : ∃ l : List Sg, rows = hid real (List.map (encG real) l) ∧ FitG l := by
  induction rows with
  | nil => exact ⟨[], rfl, by simp [FitG]⟩
  | cons r rs ih =>
    obtain ⟨l, hl, hb⟩ := ih fun x hx => h x (List.mem_cons_of_mem _ hx)
    obtain ⟨a1, b1, rfl, ⟨n, rfl, hn⟩, a2, b2, rfl, ⟨g, rfl, hg⟩, rfl⟩ := h r List.mem_cons_self
    refine ⟨(n, g) :: l, by rw [hl]; rfl, fun x hx => ?_⟩
    rcases List.mem_cons.1 hx with rfl | hx
    · exact ⟨by show n.size ≤ _; omega, by show g.size ≤ _; omega⟩
    · exact hb x hx
variable {A : Ar} (hA : A = real)
include hA
end Go.Proofs.Ytpphdaphbkepfaa.Aw

/- Plain law of Below, part 2: the marks of the parts; the places in the row. -/
set_option linter.unusedVariables false
namespace Go.Proofs.Ytpphdaphbkepfaa.Aw
open Go Go.RowKit
def inA (K : List (List Int)) (r : List Bool) (a : List Int) : List Bool := a.foldl (fun r x => markA r (belowM K x.toNat)) r
noncomputable def cntR (K : List (List Int)) (id i : Nat) : Nat := ((List.range i).filter (rcB K id)).length
end Go.Proofs.Ytpphdaphbkepfaa.Aw

/- Plain law of the reference's Below: a list that grows till it is closed. -/
set_option linter.unusedVariables false
set_option linter.unusedSimpArgs false
namespace Go.Proofs.Ytpphdaphbkepfaa.Aw
open Go Go.RowKit
def addA (L a : List Int) : List Int := a.foldl (fun L x => if x ∈ L then L else L ++ [x]) L
theorem addA_succ (L a : List Int) (j : Nat) (h : j < a.length) : addA L (a.take (j + 1)) = if a.getD j default ∈ addA L (a.take j) then addA L (a.take j) else addA L (a.take j) ++ [a.getD j default] := by
  rw [List.take_succ_eq_append_getElem h]
  simp only [addA, List.foldl_append, List.foldl_cons, List.foldl_nil, List.getD_eq_getElem?_getD, List.getElem?_eq_getElem h, Option.getD_some]
theorem addA_mem (L a : List Int) (y : Int) : y ∈ addA L a ↔ y ∈ L ∨ y ∈ a := by
  induction a generalizing L with
  | nil => simp [addA]
  | cons x a ih =>
    show y ∈ addA (if x ∈ L then L else L ++ [x]) a ↔ _
    rw [ih]
    split
    · rename_i hx
      simp only [List.mem_cons]
      constructor
      · rintro (h | h)
        · exact .inl h
        · exact .inr (.inr h)
      · rintro (h | rfl | h)
        · exact .inl h
        · exact .inl hx
        · exact .inr h
    · simp only [List.mem_append, List.mem_singleton, List.mem_cons, or_assoc, List.not_mem_nil, or_false]
theorem addA_nodup {L : List Int} (a : List Int) (h : L.Nodup) : (addA L a).Nodup := by
  induction a generalizing L with
  | nil => exact h
  | cons x a ih =>
    show (addA (if x ∈ L then L else L ++ [x]) a).Nodup
    split
    · exact ih h
    · rename_i hx
      refine ih ?_
      rw [List.nodup_append]
      refine ⟨h, by simp, fun y hy z hz e => ?_⟩
      rw [List.mem_singleton] at hz
      subst hz e
      exact hx hy
theorem addA_pre (L a : List Int) : ∃ R, addA L a = L ++ R := by
  induction a generalizing L with
  | nil => exact ⟨[], by simp [addA]⟩
  | cons x a ih =>
    show ∃ R, addA (if x ∈ L then L else L ++ [x]) a = L ++ R
    split
    · exact ih L
    · obtain ⟨R, hR⟩ := ih (L ++ [x])
      exact ⟨[x] ++ R, by rw [hR, List.append_assoc]⟩
/-- Different numbers below m are at most m. -/
theorem nodup_len {m : Nat} : ∀ {L : List Int}, L.Nodup → (∀ y ∈ L, 0 ≤ y ∧ y < m) → L.length ≤ m := by
  induction m with
  | zero =>
    intro L _ h
    match L, h with
    | [], _ => simp
    | x :: _, h => have := h x List.mem_cons_self; omega
  | succ m ih =>
    intro L hn h
    have h2 := ih (hn.erase (m : Int)) fun y hy => by
      have := (hn.mem_erase_iff).1 hy
      have := h y this.2
      omega
    have := List.length_erase (a := (m : Int)) (l := L)
    split at this <;> omega
structure InvB (K : List (List Int)) (id : Nat) (i : Nat) (L : List Int) : Prop where
  nd : L.Nodup
  rc : ∀ y ∈ L, 0 ≤ y ∧ Rc K id y.toNat
  me : (id : Int) ∈ L
  le : i ≤ L.length
  cl : ∀ j, j < i → ∀ x ∈ argsK K (L.getD j default).toNat, x ∈ L
theorem InvB.start (K : List (List Int)) (id : Nat) : InvB K id 0 [(id : Int)] := ⟨by simp, fun y hy => by
  rw [List.mem_singleton] at hy
  subst hy
  exact ⟨by omega, by rw [Int.toNat_natCast]; exact .refl⟩, by simp, by simp, fun j hj => by omega⟩
theorem InvB.len {K : List (List Int)} {id i : Nat} {L : List Int} (h : InvB K id i L) (hd : Down K) (hi : id < K.length) : L.length ≤ id + 1 := nodup_len h.nd fun y hy => by
  have h1 := h.rc y hy
  have := Rc_le hd hi h1.2
  omega
theorem InvB.step {K : List (List Int)} {id i : Nat} {L : List Int} (h : InvB K id i L) (hd : Down K) (hi : id < K.length) (hl : i < L.length) : InvB K id (i + 1) (addA L (argsK K (L.getD i default).toNat)) := by
  have hy : L.getD i default ∈ L := by rw [List.getD_eq_getElem?_getD, List.getElem?_eq_getElem hl]; exact List.getElem_mem _
  have hr := h.rc _ hy
  have hle := Rc_le hd hi hr.2
  obtain ⟨R, hR⟩ := addA_pre L (argsK K (L.getD i default).toNat)
  refine ⟨addA_nodup _ h.nd, fun y hy2 => ?_, (addA_mem _ _ _).2 (.inl h.me), by rw [hR, List.length_append]; omega, fun j hj x hx => (addA_mem _ _ _).2 ?_⟩
  · rcases (addA_mem _ _ _).1 hy2 with h2 | h2
    · exact h.rc y h2
    · exact ⟨((hd _ (by omega)).2 y h2).1, hr.2.step h2⟩
  · have e : (addA L (argsK K (L.getD i default).toNat)).getD j default = L.getD j default := by
      rw [hR]
      simp only [List.getD_eq_getElem?_getD, List.getElem?_append_left (show j < L.length by omega)]
    rw [e] at hx
    by_cases hji : j = i
    · subst hji; exact .inr hx
    · exact .inl (h.cl j (by omega) x hx)
theorem InvB.all {K : List (List Int)} {id : Nat} {L : List Int} (h : InvB K id L.length L) (n : Nat) : (n : Int) ∈ L ↔ Rc K id n := by
  constructor
  · intro hn
    have := (h.rc _ hn).2
    rwa [Int.toNat_natCast] at this
  · intro hr
    have : ∀ m, Rc K id m → ∃ y ∈ L, y.toNat = m ∧ 0 ≤ y := by
      intro m hm
      induction hm with
      | refl => exact ⟨id, h.me, by omega, by omega⟩
      | @step m x _ hx ih =>
        obtain ⟨y, hy, rfl, _⟩ := ih
        obtain ⟨j, hj, rfl⟩ := List.getElem_of_mem hy
        have h2 := h.cl j hj x (by rw [List.getD_eq_getElem?_getD, List.getElem?_eq_getElem hj]; exact hx)
        exact ⟨x, h2, rfl, (h.rc x h2).1⟩
    obtain ⟨y, hy, e, h0⟩ := this n hr
    rwa [show (n : Int) = y by omega]
end Go.Proofs.Ytpphdaphbkepfaa.Aw

/- Contract of the reference's Below. -/
set_option linter.unusedVariables false
set_option linter.unusedSimpArgs false
set_option linter.unusedSectionVars false
namespace Go.Proofs.Ytpphdaphbkepfaa.Aw
open Go Go.RowKit
set_option maxRecDepth 10000
attribute [local irreducible] AWp AOL QS One AOLg QSg NX QX TRg TX AllO Fin3
variable {A : Ar} (hA : A = real)
include hA
theorem in_c (l : List Int) (n : Int) (hl : l.length ≤ 1000000) : PureCalls Try.prog 53 [intsP A l, IP n] (BP (hid A (decide (n ∈ l)))) := by
  refine PureCalls.of Try.func53 rfl (by kernel_rfl) rfl ?_
  try first | refine AOLg.of [] ?_ | refine QSg.of [] ?_
  repeat' (first
    | (refine AWp.pass ?_; first
        | refine AWp.seq ?_
        | refine AWp.block ?_
        | refine AWp.skip ?_
        | refine AWp.regG [] (by conv => lhs; cbv) ?_
        | refine AWp.cond_t rfl ?_
        | refine AWp.cond_f rfl ?_
        | (refine AWp.cond rfl ?_ ?_ <;> intro hc <;> (try rw [hc]) <;> ((try simp only [zn] at hc) <;> (try simp (disch := omega) only [zz hA, zb, zy, reduceCtorEq, Bool.false_eq_true, Int.reduceLT, Int.reduceLE, Int.reduceNeg] at hc) <;> (try simp only [zw] at hc)) <;> (try (exfalso; omega)))
        | refine AWp.exit ?_
        | refine AWp.ret ⟨.inr rfl, _, RetOk.ev tabOk (by conv => lhs; cbv), ?_⟩)
    | (refine AOLg.pass ?_; refine AOLg.nx hA tabOk (by conv => lhs; cbv) ?_; first
        | refine NX.done ?_
        | refine NX.gt ?_
        | refine NX.gf ?_
        | (refine NX.gs ?_ ?_ <;> intro hc <;> rw [hc] <;> ((try simp only [zn] at hc) <;> (try simp (disch := omega) only [zz hA, zb, zy, reduceCtorEq, Bool.false_eq_true, Int.reduceLT, Int.reduceLE, Int.reduceNeg] at hc) <;> (try simp only [zw] at hc)) <;> (try (exfalso; omega)))
        | ((first | (refine NX.k 1 ?_; first | refine NX.one (One.elemM hA tabOk rfl rfl rfl rfl ?_ ?_) ?_ | refine NX.one (One.elemOwnM hA tabOk rfl rfl rfl rfl rfl ?_ ?_) ?_) | (refine NX.k 7 ?_; first | refine NX.one (One.concatM hA rfl rfl rfl ?_) ?_) | (refine NX.k 8 ?_; first | refine NX.one (One.eqBoolM hA tabOk rfl rfl rfl rfl rfl) ?_) | (refine NX.k 10 ?_; first | refine NX.one (One.lenOwnM hA tabOk rfl rfl rfl rfl) ?_) | (refine NX.k 14 ?_; first | refine NX.one (One.loadRatM hA tabOk rfl rfl rfl rfl rfl rfl ?_) ?_)) <;> (first | refine AOLg.pass ?_ | (((try simp only [zn]) <;> (try simp (disch := omega) only [zz hA, zb, zy, reduceCtorEq, Bool.false_eq_true, Int.reduceLT, Int.reduceLE, Int.reduceNeg]) <;> (try simp only [zw])) <;> omega)))
        | refine NX.raw ?_)
    | refine Thn.exit ?_
    | refine Blk.here ?_
    | refine Blk.other (by decide) ?_
    | refine ⟨.inl rfl, _, RetOk.ev tabOk (by conv => lhs; cbv), ?_⟩
    | fail)
  refine AWp.loopU (fun i : Nat => [(5, .ic (.lit (.int .i64 (hid A (cN i)))))]) (fun _ => []) (fun i => l.length - i) (fun i => i ≤ l.length ∧ ∀ j, j < i → l.getD j default ≠ n) 0 (by conv => lhs; cbv) ⟨Nat.zero_le _, by simp⟩ (by (repeat' (first | exact subE.nil | refine subE.cons rfl ?_ | refine subE.int rfl ?_ ?_ | refine subE.bool rfl ?_ ?_ | refine subE.str rfl ?_ ?_ | refine subE.sl rfl ?_ ?_)) <;> simp [hA, real, hid, cN]) rfl ?_
  rintro i ⟨hi0, hno⟩
  by_cases hi : i < l.length
  · have hyes : l.getD i default = n → n ∈ l := fun h => by
      rw [← h, List.getD_eq_getElem?_getD, List.getElem?_eq_getElem hi]; exact List.getElem_mem _
    try first | refine AOLg.of [] ?_ | refine QSg.of [] ?_
    repeat' (first
      | (refine AWp.pass ?_; first
          | refine AWp.seq ?_
          | refine AWp.block ?_
          | refine AWp.skip ?_
          | refine AWp.regG [] (by conv => lhs; cbv) ?_
          | refine AWp.cond_t rfl ?_
          | refine AWp.cond_f rfl ?_
          | (refine AWp.cond rfl ?_ ?_ <;> intro hc <;> (try rw [hc]) <;> ((try simp only [zn] at hc) <;> (try simp (disch := omega) only [zz hA, zb, zy, reduceCtorEq, Bool.false_eq_true, Int.reduceLT, Int.reduceLE, Int.reduceNeg] at hc) <;> (try simp only [zw] at hc)) <;> (try (exfalso; omega)))
          | refine AWp.exit ?_
          | refine AWp.ret ⟨.inr rfl, _, RetOk.ev tabOk (by conv => lhs; cbv), ?_⟩)
      | (refine AOLg.pass ?_; refine AOLg.nx hA tabOk (by conv => lhs; cbv) ?_; first
          | refine NX.done ?_
          | refine NX.gt ?_
          | refine NX.gf ?_
          | (refine NX.gs ?_ ?_ <;> intro hc <;> rw [hc] <;> ((try simp only [zn] at hc) <;> (try simp (disch := omega) only [zz hA, zb, zy, reduceCtorEq, Bool.false_eq_true, Int.reduceLT, Int.reduceLE, Int.reduceNeg] at hc) <;> (try simp only [zw] at hc)) <;> (try (exfalso; omega)))
          | ((first | (refine NX.k 1 ?_; first | refine NX.one (One.elemM hA tabOk rfl rfl rfl rfl ?_ ?_) ?_ | refine NX.one (One.elemOwnM hA tabOk rfl rfl rfl rfl rfl ?_ ?_) ?_) | (refine NX.k 7 ?_; first | refine NX.one (One.concatM hA rfl rfl rfl ?_) ?_) | (refine NX.k 8 ?_; first | refine NX.one (One.eqBoolM hA tabOk rfl rfl rfl rfl rfl) ?_) | (refine NX.k 10 ?_; first | refine NX.one (One.lenOwnM hA tabOk rfl rfl rfl rfl) ?_) | (refine NX.k 14 ?_; first | refine NX.one (One.loadRatM hA tabOk rfl rfl rfl rfl rfl rfl ?_) ?_)) <;> (first | refine AOLg.pass ?_ | (((try simp only [zn]) <;> (try simp (disch := omega) only [zz hA, zb, zy, reduceCtorEq, Bool.false_eq_true, Int.reduceLT, Int.reduceLE, Int.reduceNeg]) <;> (try simp only [zw])) <;> omega)))
          | refine NX.raw ?_)
      | refine Thn.exit ?_
      | refine Blk.here ?_
      | refine Blk.other (by decide) ?_
      | refine ⟨.inl rfl, _, RetOk.ev tabOk (by conv => lhs; cbv), ?_⟩
      | fail)
    · have : decide (n ∈ l) = true := by simpa using hyes ‹_›
      refine rPV_then (by conv => lhs; cbv) ?_
      rw [this, hid_eq hA]
    · refine ⟨i + 1, ?_, ?_, rfl, rfl, ?_, (by repeat' (first | exact subE.nil | refine subE.cons rfl ?_))⟩ <;> (try omega)
      repeat' (first | exact subE.nil | refine subE.cons rfl ?_ | refine subE.int rfl ?_ ?_ | refine subE.bool rfl ?_ ?_ | refine subE.str rfl ?_ ?_ | refine subE.sl rfl ?_ ?_)
      · refine ⟨by omega, fun j hj => ?_⟩
        by_cases h : j = i
        · subst h; assumption
        · exact hno j (by omega)
      · (((try simp only [zn]) <;> (try simp (disch := omega) only [zz hA, zb, zy, reduceCtorEq, Bool.false_eq_true, Int.reduceLT, Int.reduceLE, Int.reduceNeg]) <;> (try simp only [zw])) <;> omega)
  · have : decide (n ∈ l) = false := by
      rw [decide_eq_false_iff_not]
      intro h
      obtain ⟨j, hj, e⟩ := List.getElem_of_mem h
      exact hno j (by omega) (by rw [List.getD_eq_getElem?_getD, List.getElem?_eq_getElem hj]; exact e)
    try first | refine AOLg.of [] ?_ | refine QSg.of [] ?_
    repeat' (first
      | (refine AWp.pass ?_; first
          | refine AWp.seq ?_
          | refine AWp.block ?_
          | refine AWp.skip ?_
          | refine AWp.regG [] (by conv => lhs; cbv) ?_
          | refine AWp.cond_t rfl ?_
          | refine AWp.cond_f rfl ?_
          | (refine AWp.cond rfl ?_ ?_ <;> intro hc <;> (try rw [hc]) <;> ((try simp only [zn] at hc) <;> (try simp (disch := omega) only [zz hA, zb, zy, reduceCtorEq, Bool.false_eq_true, Int.reduceLT, Int.reduceLE, Int.reduceNeg] at hc) <;> (try simp only [zw] at hc)) <;> (try (exfalso; omega)))
          | refine AWp.exit ?_
          | refine AWp.ret ⟨.inr rfl, _, RetOk.ev tabOk (by conv => lhs; cbv), ?_⟩)
      | (refine AOLg.pass ?_; refine AOLg.nx hA tabOk (by conv => lhs; cbv) ?_; first
          | refine NX.done ?_
          | refine NX.gt ?_
          | refine NX.gf ?_
          | (refine NX.gs ?_ ?_ <;> intro hc <;> rw [hc] <;> ((try simp only [zn] at hc) <;> (try simp (disch := omega) only [zz hA, zb, zy, reduceCtorEq, Bool.false_eq_true, Int.reduceLT, Int.reduceLE, Int.reduceNeg] at hc) <;> (try simp only [zw] at hc)) <;> (try (exfalso; omega)))
          | ((first | (refine NX.k 1 ?_; first | refine NX.one (One.elemM hA tabOk rfl rfl rfl rfl ?_ ?_) ?_ | refine NX.one (One.elemOwnM hA tabOk rfl rfl rfl rfl rfl ?_ ?_) ?_) | (refine NX.k 7 ?_; first | refine NX.one (One.concatM hA rfl rfl rfl ?_) ?_) | (refine NX.k 8 ?_; first | refine NX.one (One.eqBoolM hA tabOk rfl rfl rfl rfl rfl) ?_) | (refine NX.k 10 ?_; first | refine NX.one (One.lenOwnM hA tabOk rfl rfl rfl rfl) ?_) | (refine NX.k 14 ?_; first | refine NX.one (One.loadRatM hA tabOk rfl rfl rfl rfl rfl rfl ?_) ?_)) <;> (first | refine AOLg.pass ?_ | (((try simp only [zn]) <;> (try simp (disch := omega) only [zz hA, zb, zy, reduceCtorEq, Bool.false_eq_true, Int.reduceLT, Int.reduceLE, Int.reduceNeg]) <;> (try simp only [zw])) <;> omega)))
          | refine NX.raw ?_)
      | refine Thn.exit ?_
      | refine Blk.here ?_
      | refine Blk.other (by decide) ?_
      | refine ⟨.inl rfl, _, RetOk.ev tabOk (by conv => lhs; cbv), ?_⟩
      | fail)
    refine rPV_then (by conv => lhs; cbv) ?_
    rw [this, hid_eq hA]
end Go.Proofs.Ytpphdaphbkepfaa.Aw

/- The builtin min of two numbers. -/
set_option linter.unusedVariables false
namespace Go.Proofs.Ytpphdaphbkepfaa.Aw
open Go Go.RowKit
end Go.Proofs.Ytpphdaphbkepfaa.Aw

/- A literal slice of one number as a row of the call's own. -/
set_option linter.unusedVariables false
set_option linter.unusedSimpArgs false
namespace Go.Proofs.Ytpphdaphbkepfaa.Aw
open Go Go.RowKit
theorem set_one (f : Nat → Value) (v : Value) : ((Array.range 1).map f).setIfInBounds 0 v = #[v] := by
  apply Array.ext
  · simp
  · intro i h1 h2
    have : i = 0 := by simp at h2; exact h2
    subst this
    simp
theorem does_build1 {P : Program} {s : St} (t e : TypeId) (x : Operand) (k : IntKind) (n : Int) (z : Value) (ht : (tyi P t).there = true) (hk : (tyi P t).k = .slice e) (hsz : (tyi P e).size = 1) (hz : (tyi P e).zero = some [z]) (hx : s.ev x = .ic (.lit (.int k n))) :
    Does P s (fun ρ => do pure (.value (← Instr.buildSlice t 1 ((#[(0, x)] : Array (Nat × Operand)).map fun (i, x) => (i, ρ x))))) (.own s.st.length 0) (s.st ++ [.row true 0 e 1 [[.lit (.int k n)]]]) := fun G g w a hrel => by
  have hu := tk_slice hk
  have h1 := hrel.ev x
  rw [hx] at h1
  have h1 := h1.lit_inv
  obtain ⟨zv, hzr, hzc⟩ := run_zero hz w
  have hss := run_size (P := P) (there_elem ht hu) w
  have hz2 : P.cellsOf e = 1 := hsz
  rw [hz2] at hss
  have hrun : (Instr.buildSlice t 1 ((#[(0, x)] : Array (Nat × Operand)).map fun (i, x) => (i, a.eval x))).run P w = .ok (.slice (some ⟨w.heap.size, 0, none⟩) 1 1) (w.alloc (.cells #[.int k n] e)) := by
    simp [Instr.buildSlice, run_underlying hu, hss, hzr, Instr.fill, newRow, h1, Value.cells, run_newObj]
    refine congrArg (fun c => w.alloc (Obj.cells c e)) ?_
    exact set_one _ _
  have hg : w.grownBy (w.alloc (.cells #[.int k n] e)) none := ⟨rfl, rfl, rfl, by simp, fun b hb _ => Below.heap_alloc _ _ _ hb⟩
  obtain ⟨g', hev, hsr, har⟩ := SR.newRow hrel e 1 [[.lit (.int k n)]] (.slice (some ⟨w.heap.size, 0, none⟩) 1 1) [.int k n] hg (fun b hb => by simp [gb] at hb; omega)
    ⟨by simp, .inr ⟨w.heap.size, 1, #[.int k n], rfl, Nat.zero_le _, heap_alloc_new _ _, Nat.le_refl _, by simp [maxLen], by simp, by simp⟩⟩ (fun ok => ⟨by simp, fun j r hj => by
      match j, hj with
      | 0, hj => obtain rfl := Option.some.inj hj; rfl, fun j r q y hj hq => by
      match j, hj with
      | 0, hj =>
        obtain rfl := Option.some.inj hj
        match q, hq with
        | 0, hq =>
          obtain rfl := Option.some.inj hq
          exact ⟨_, rfl, .lit _ rfl⟩, by simp [Value.oneCell']⟩)
  exact ⟨_, _, g', _, by simp only [Sem.run_bind, hrun, Result.andThen_ok, Sem.run_pure], .inl rfl, hev, hsr, har⟩
theorem One.build1 {r : Option Nat} {P : Program} {ops : Array Oper} {i : Nat} {s : St} {tab : List TI} (hT : TabOk P tab) {t e : TypeId} {j : TI} {x : Operand} {k : IntKind} {n : Int} {z : Value} (h : opAt ops i s = some (.buildSlice t 1 #[(0, x)])) (ht : slT tab t = some (e, j)) (hz : j.zero = some [z]) (hs : j.size = 1) (hx : s.ev x = .ic (.lit (.int k n))) : One r P ops i s (.own s.st.length 0) (s.st ++ [.row true 0 e 1 [[.lit (.int k n)]]]) := by
  obtain ⟨g1, g2, rfl⟩ := slT_ok hT ht
  exact .does h rfl fun o hop => (does_build1 t e x k n z g1 g2 hs hz hx).congr fun ρ => by simp only [execOp, hop]
end Go.Proofs.Ytpphdaphbkepfaa.Aw
