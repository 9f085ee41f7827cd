/- Texts of the proof, put together: the abstract walk, contracts of the functions that the statement reaches, plain laws, part 6 of 6. -/
import Derived.Test.YtgemcogfpkolfaaSAe
import Derived.Test.YtgemcogfpkolfaaSAc
import Derived.ChangeShapes
import Derived.WideShapes
/- Contracts of package side and of the reference, part 6: what may not be. -/
set_option linter.unusedVariables false
set_option linter.unusedSimpArgs false
set_option linter.unusedSectionVars false
namespace Go.Proofs.Ytgemcogfpkolfaa.Aw
open Go Go.RowKit
set_option maxRecDepth 10000
attribute [local irreducible] AWp AOL QS One AOLg QSg NX QX TRg TX AllO Fin3
def wrongD (l : List Sg) (k : Int) (s : ByteArray) (n sd : Int) : Int :=
  if (k = 3 ∨ k = 6) ∧ findG l s < 0 then 3
  else if (k = 3 ∨ k = 6) ∧ knownD l k s n = false then 5
  else if (k = 4 ∧ sd ≠ 76) ∨ ((k = 5 ∨ k = 6) ∧ sd ≠ 82) then 6
  else 0
def wAt (l : List Sg) (E : List Nd) (L : List Int) (i : Nat) : Int := wrongD l (ndK (E.getD i default)) (ndS (E.getD i default)) (ndN (E.getD i default)) (L.getD i default)
def firstW (l : List Sg) (E : List Nd) (L : List Int) : Int := idxB E.length fun i => decide (wAt l E L i ≠ 0)
def checkA (l : List Sg) (E : List Nd) (L : List Int) : Int := if firstW l E L < 0 then 0 else firstW l E L
def checkW (l : List Sg) (E : List Nd) (L : List Int) : Int := if firstW l E L < 0 then 0 else wAt l E L (firstW l E L).toNat
theorem check_at {l : List Sg} {E : List Nd} {L : List Int} {i : Nat} (hi : i < E.length) (h : ∀ j, j < i → wAt l E L j = 0) (hw : wAt l E L i ≠ 0) : checkA l E L = i ∧ checkW l E L = wAt l E L i := by
  have e : firstW l E L = i := idxB_at hi (decide_eq_true hw) fun j hj => decide_eq_false (by rw [h j hj]; simp)
  unfold checkA checkW
  rw [e, if_neg (by omega), if_neg (by omega)]
  exact ⟨rfl, by rw [Int.toNat_natCast]⟩
theorem check_ok {l : List Sg} {E : List Nd} {L : List Int} (h : ∀ j, j < E.length → wAt l E L j = 0) : checkA l E L = 0 ∧ checkW l E L = 0 := by
  have e : firstW l E L = -1 := idxB_none fun j hj => decide_eq_false (by rw [h j hj]; simp)
  unfold checkA checkW
  rw [e]
  exact ⟨rfl, rfl⟩
variable {A : Ar} (hA : A = real)
include hA
set_option maxHeartbeats 4000000 in
theorem wrong_c (l : List Sg) (k : Int) (s : ByteArray) (n sd : Int) (hl : l.length ≤ 1000000) (hsz : FitG l) (hk : 0 ≤ k ∧ k ≤ 6) (h6 : k = 6 → 1 ≤ n) : PureCalls Try.prog 23 [slP A 2 (encG A) l, ndP k s n, UP sd] (IP (hid A (wrongD l k s n sd))) := by
  have hfd := sFind_c hA l s hl
  have hpt := fun h => sParts_c hA l k s n hl hsz h
  have hkn := partsS_known l k s n
  have hwd : wrongD l k s n sd = if (k = 3 ∨ k = 6) ∧ findG l s < 0 then 3 else if (k = 3 ∨ k = 6) ∧ knownD l k s n = false then 5 else if (k = 4 ∧ sd ≠ 76) ∨ ((k = 5 ∨ k = 6) ∧ sd ≠ 82) then 6 else 0 := rfl
  generalize wrongD l k s n sd = w at *
  generalize (partsS l k s n).1 = pp at *
  generalize (partsS l k s n).2 = pb at *
  subst hkn
  generalize findG l s = i at *
  generalize knownD l k s n = b at *
  refine PureCalls.of Try.func23 rfl (by kernel_rfl) rfl ?_
  have hk7 : k = 0 ∨ k = 1 ∨ k = 2 ∨ k = 3 ∨ k = 4 ∨ k = 5 ∨ k = 6 := by omega
  rcases hk7 with rfl | rfl | rfl | rfl | rfl | rfl | rfl
  iterate 3
    · clear hpt hfd
      try first | refine AOLg.of [] ?_ | refine QSg.of [] ?_
      repeat' (first
        | (refine AWp.pass ?_; first
            | refine AWp.seq ?_
            | refine AWp.block ?_
            | refine AWp.skip ?_
            | refine AWp.regG [] (by conv => lhs; cbv) ?_
            | refine AWp.cond_t rfl ?_
            | refine AWp.cond_f rfl ?_
            | (refine AWp.cond rfl ?_ ?_ <;> intro hc <;> (try rw [hc]) <;> ((try simp only [zn] at hc) <;> (try simp (disch := omega) only [zz hA, zb, zy, reduceCtorEq, Bool.false_eq_true, Int.reduceLT, Int.reduceLE, Int.reduceNeg] at hc) <;> (try simp only [zw] at hc)) <;> (try (exfalso; omega)))
            | refine AWp.exit ?_
            | refine AWp.ret ⟨.inr rfl, _, RetOk.ev tabOk (by conv => lhs; cbv), ?_⟩)
        | (refine AOLg.pass ?_; refine AOLg.nx hA tabOk (by conv => lhs; cbv) ?_; first
            | refine NX.done ?_
            | refine NX.gt ?_
            | refine NX.gf ?_
            | (refine NX.gs ?_ ?_ <;> intro hc <;> rw [hc] <;> ((try simp only [zn] at hc) <;> (try simp (disch := omega) only [zz hA, zb, zy, reduceCtorEq, Bool.false_eq_true, Int.reduceLT, Int.reduceLE, Int.reduceNeg] at hc) <;> (try simp only [zw] at hc)) <;> (try (exfalso; omega)))
            | ((first | (refine NX.k 8 ?_; first | refine NX.one (One.eqBoolM hA tabOk rfl rfl rfl rfl rfl) ?_) | (refine NX.k 9 ?_; first | refine NX.one (One.neBoolM hA tabOk rfl rfl rfl rfl rfl) ?_) | (refine NX.k 14 ?_; first | refine NX.one (One.loadRatM hA tabOk rfl rfl rfl rfl rfl rfl ?_) ?_) | (refine NX.k 18 ?_; first | refine NX.one (One.fieldRat tabOk rfl rfl rfl rfl (by decide) rfl rfl) ?_)) <;> (first | refine AOLg.pass ?_ | (((try simp only [zn]) <;> (try simp (disch := omega) only [zz hA, zb, zy, reduceCtorEq, Bool.false_eq_true, Int.reduceLT, Int.reduceLE, Int.reduceNeg]) <;> (try simp only [zw])) <;> omega)))
            | refine NX.raw ?_)
        | refine Thn.exit ?_
        | refine Blk.here ?_
        | refine Blk.other (by decide) ?_
        | refine ⟨.inl rfl, _, RetOk.ev tabOk (by conv => lhs; cbv), ?_⟩
        | fail)
      refine rPV_then (by conv => lhs; cbv) ?_
      rw [hwd]
      simp [hid_eq hA]
  · replace hpt := hpt fun h => (h rfl).elim
    cases b <;> (
      rw [hid_eq hA (α := Bool)] at hpt
      try first | refine AOLg.of [] ?_ | refine QSg.of [] ?_
      repeat' (first
        | (refine AWp.pass ?_; first
            | refine AWp.seq ?_
            | refine AWp.block ?_
            | refine AWp.skip ?_
            | refine AWp.regG [] (by conv => lhs; cbv) ?_
            | refine AWp.cond_t rfl ?_
            | refine AWp.cond_f rfl ?_
            | (refine AWp.cond rfl ?_ ?_ <;> intro hc <;> (try rw [hc]) <;> ((try simp only [zn] at hc) <;> (try simp (disch := omega) only [zz hA, zb, zy, reduceCtorEq, Bool.false_eq_true, Int.reduceLT, Int.reduceLE, Int.reduceNeg] at hc) <;> (try simp only [zw] at hc)) <;> (try (exfalso; omega)))
            | refine AWp.exit ?_
            | refine AWp.ret ⟨.inr rfl, _, RetOk.ev tabOk (by conv => lhs; cbv), ?_⟩)
        | (refine AOLg.pass ?_; refine AOLg.nx hA tabOk (by conv => lhs; cbv) ?_; first
            | refine NX.done ?_
            | refine NX.gt ?_
            | refine NX.gf ?_
            | (refine NX.gs ?_ ?_ <;> intro hc <;> rw [hc] <;> ((try simp only [zn] at hc) <;> (try simp (disch := omega) only [zz hA, zb, zy, reduceCtorEq, Bool.false_eq_true, Int.reduceLT, Int.reduceLE, Int.reduceNeg] at hc) <;> (try simp only [zw] at hc)) <;> (try (exfalso; omega)))
            | (refine NX.kC ?_; first | (with_reducible refine NX.call (hfd) ?_) | (with_reducible refine NX.call (hpt) ?_) | ((first | refine NX.call (hfd) ?_ | refine NX.call (hpt) ?_)) | fail)
            | (refine NX.kO ?_; (first | refine NX.callO (hfd) (by simp [allEq]) rfl ?_ | refine NX.callO (hpt) (by simp [allEq]) rfl ?_))
            | ((first | (refine NX.k 8 ?_; first | refine NX.one (One.eqBoolM hA tabOk rfl rfl rfl rfl rfl) ?_) | (refine NX.k 9 ?_; first | refine NX.one (One.neBoolM hA tabOk rfl rfl rfl rfl rfl) ?_) | (refine NX.k 14 ?_; first | refine NX.one (One.loadRatM hA tabOk rfl rfl rfl rfl rfl rfl ?_) ?_) | (refine NX.k 18 ?_; first | refine NX.one (One.fieldRat tabOk rfl rfl rfl rfl (by decide) rfl rfl) ?_)) <;> (first | refine AOLg.pass ?_ | (((try simp only [zn]) <;> (try simp (disch := omega) only [zz hA, zb, zy, reduceCtorEq, Bool.false_eq_true, Int.reduceLT, Int.reduceLE, Int.reduceNeg]) <;> (try simp only [zw])) <;> omega)))
            | refine NX.raw ?_)
        | refine Thn.exit ?_
        | refine Blk.here ?_
        | refine Blk.other (by decide) ?_
        | refine ⟨.inl rfl, _, RetOk.ev tabOk (by conv => lhs; cbv), ?_⟩
        | fail)
      all_goals
        refine rPV_then (by conv => lhs; cbv) ?_
        rw [hwd]
        simp_all [real, hid])
  iterate 2
    · clear hpt hfd
      try first | refine AOLg.of [] ?_ | refine QSg.of [] ?_
      repeat' (first
        | (refine AWp.pass ?_; first
            | refine AWp.seq ?_
            | refine AWp.block ?_
            | refine AWp.skip ?_
            | refine AWp.regG [] (by conv => lhs; cbv) ?_
            | refine AWp.cond_t rfl ?_
            | refine AWp.cond_f rfl ?_
            | (refine AWp.cond rfl ?_ ?_ <;> intro hc <;> (try rw [hc]) <;> ((try simp only [zn] at hc) <;> (try simp (disch := omega) only [zz hA, zb, zy, reduceCtorEq, Bool.false_eq_true, Int.reduceLT, Int.reduceLE, Int.reduceNeg] at hc) <;> (try simp only [zw] at hc)) <;> (try (exfalso; omega)))
            | refine AWp.exit ?_
            | refine AWp.ret ⟨.inr rfl, _, RetOk.ev tabOk (by conv => lhs; cbv), ?_⟩)
        | (refine AOLg.pass ?_; refine AOLg.nx hA tabOk (by conv => lhs; cbv) ?_; first
            | refine NX.done ?_
            | refine NX.gt ?_
            | refine NX.gf ?_
            | (refine NX.gs ?_ ?_ <;> intro hc <;> rw [hc] <;> ((try simp only [zn] at hc) <;> (try simp (disch := omega) only [zz hA, zb, zy, reduceCtorEq, Bool.false_eq_true, Int.reduceLT, Int.reduceLE, Int.reduceNeg] at hc) <;> (try simp only [zw] at hc)) <;> (try (exfalso; omega)))
            | ((first | (refine NX.k 8 ?_; first | refine NX.one (One.eqBoolM hA tabOk rfl rfl rfl rfl rfl) ?_) | (refine NX.k 9 ?_; first | refine NX.one (One.neBoolM hA tabOk rfl rfl rfl rfl rfl) ?_) | (refine NX.k 14 ?_; first | refine NX.one (One.loadRatM hA tabOk rfl rfl rfl rfl rfl rfl ?_) ?_) | (refine NX.k 18 ?_; first | refine NX.one (One.fieldRat tabOk rfl rfl rfl rfl (by decide) rfl rfl) ?_)) <;> (first | refine AOLg.pass ?_ | (((try simp only [zn]) <;> (try simp (disch := omega) only [zz hA, zb, zy, reduceCtorEq, Bool.false_eq_true, Int.reduceLT, Int.reduceLE, Int.reduceNeg]) <;> (try simp only [zw])) <;> omega)))
            | refine NX.raw ?_)
        | refine Thn.exit ?_
        | refine Blk.here ?_
        | refine Blk.other (by decide) ?_
        | refine ⟨.inl rfl, _, RetOk.ev tabOk (by conv => lhs; cbv), ?_⟩
        | fail)
      all_goals
        refine rPV_then (by conv => lhs; cbv) ?_
        rw [hwd]
        simp_all [real, hid]
  · replace hpt := hpt (by omega)
    cases b <;> (
      rw [hid_eq hA (α := Bool)] at hpt
      try first | refine AOLg.of [] ?_ | refine QSg.of [] ?_
      repeat' (first
        | (refine AWp.pass ?_; first
            | refine AWp.seq ?_
            | refine AWp.block ?_
            | refine AWp.skip ?_
            | refine AWp.regG [] (by conv => lhs; cbv) ?_
            | refine AWp.cond_t rfl ?_
            | refine AWp.cond_f rfl ?_
            | (refine AWp.cond rfl ?_ ?_ <;> intro hc <;> (try rw [hc]) <;> ((try simp only [zn] at hc) <;> (try simp (disch := omega) only [zz hA, zb, zy, reduceCtorEq, Bool.false_eq_true, Int.reduceLT, Int.reduceLE, Int.reduceNeg] at hc) <;> (try simp only [zw] at hc)) <;> (try (exfalso; omega)))
            | refine AWp.exit ?_
            | refine AWp.ret ⟨.inr rfl, _, RetOk.ev tabOk (by conv => lhs; cbv), ?_⟩)
        | (refine AOLg.pass ?_; refine AOLg.nx hA tabOk (by conv => lhs; cbv) ?_; first
            | refine NX.done ?_
            | refine NX.gt ?_
            | refine NX.gf ?_
            | (refine NX.gs ?_ ?_ <;> intro hc <;> rw [hc] <;> ((try simp only [zn] at hc) <;> (try simp (disch := omega) only [zz hA, zb, zy, reduceCtorEq, Bool.false_eq_true, Int.reduceLT, Int.reduceLE, Int.reduceNeg] at hc) <;> (try simp only [zw] at hc)) <;> (try (exfalso; omega)))
            | (refine NX.kC ?_; first | (with_reducible refine NX.call (hfd) ?_) | (with_reducible refine NX.call (hpt) ?_) | ((first | refine NX.call (hfd) ?_ | refine NX.call (hpt) ?_)) | fail)
            | (refine NX.kO ?_; (first | refine NX.callO (hfd) (by simp [allEq]) rfl ?_ | refine NX.callO (hpt) (by simp [allEq]) rfl ?_))
            | ((first | (refine NX.k 8 ?_; first | refine NX.one (One.eqBoolM hA tabOk rfl rfl rfl rfl rfl) ?_) | (refine NX.k 9 ?_; first | refine NX.one (One.neBoolM hA tabOk rfl rfl rfl rfl rfl) ?_) | (refine NX.k 14 ?_; first | refine NX.one (One.loadRatM hA tabOk rfl rfl rfl rfl rfl rfl ?_) ?_) | (refine NX.k 18 ?_; first | refine NX.one (One.fieldRat tabOk rfl rfl rfl rfl (by decide) rfl rfl) ?_)) <;> (first | refine AOLg.pass ?_ | (((try simp only [zn]) <;> (try simp (disch := omega) only [zz hA, zb, zy, reduceCtorEq, Bool.false_eq_true, Int.reduceLT, Int.reduceLE, Int.reduceNeg]) <;> (try simp only [zw])) <;> omega)))
            | refine NX.raw ?_)
        | refine Thn.exit ?_
        | refine Blk.here ?_
        | refine Blk.other (by decide) ?_
        | refine ⟨.inl rfl, _, RetOk.ev tabOk (by conv => lhs; cbv), ?_⟩
        | fail)
      all_goals
        refine rPV_then (by conv => lhs; cbv) ?_
        rw [hwd]
        simp_all [real, hid])
theorem wrong_at (l : List Sg) (E : List Nd) (L : List Int) (hl : l.length ≤ 1000000) (hsz : FitG l) (hg : goodD E) (i : Nat) (hi : i < E.length) : ∀ k s n d, k = ndK (E.getD i default) → s = ndS (E.getD i default) → n = ndN (E.getD i default) → d = L.getD i default → PureCalls Try.prog 23 [slP A 2 (encG A) l, ndP k s n, UP d] (IP (hid A (wAt l E L i))) := by
  rintro k s n d rfl rfl rfl rfl
  have h := mayD_parts (hg.may hi)
  exact wrong_c hA l _ _ _ _ hl hsz h.1 fun h6 => (h.2.2.2.2.2 h6).1
set_option maxHeartbeats 4000000 in
theorem sCheck_c (l : List Sg) (E : List Nd) (s : Int) (hl : l.length ≤ 1000000) (hsz : FitG l) (hg : goodD E) (h1 : manyD E E.length = 1) (hE : E.length ≤ 1000000) :
    PureCalls Try.prog 12 [slP A 2 (encG A) l, slP A 3 (encD A) E, UP s] (.tup [IP (hid A (checkA l E (sidesD l E s))), IP (hid A (checkW l E (sidesD l E s)))]) := by
  have hof := sOf_c hA l E s hl hsz hg h1 hE
  have hLl : (sidesD l E s).length = E.length := sdM_len _ _ _ _ _
  generalize sidesD l E s = L at *
  refine PureCalls.of Try.func12 rfl (by kernel_rfl) rfl ?_
  try first | refine AOLg.of [] ?_ | refine QSg.of [] ?_
  repeat' (first
    | (refine AWp.pass ?_; first
        | refine AWp.seq ?_
        | refine AWp.block ?_
        | refine AWp.skip ?_
        | refine AWp.regG [] (by conv => lhs; cbv) ?_
        | refine AWp.cond_t rfl ?_
        | refine AWp.cond_f rfl ?_
        | (refine AWp.cond rfl ?_ ?_ <;> intro hc <;> (try rw [hc]) <;> ((try simp only [zn] at hc) <;> (try simp (disch := omega) only [zz hA, zb, zy, reduceCtorEq, Bool.false_eq_true, Int.reduceLT, Int.reduceLE, Int.reduceNeg] at hc) <;> (try simp only [zw] at hc)) <;> (try (exfalso; omega)))
        | refine AWp.exit ?_
        | refine AWp.ret ⟨.inr rfl, _, RetOk.ev tabOk (by conv => lhs; cbv), ?_⟩)
    | (refine AOLg.pass ?_; refine AOLg.nx hA tabOk (by conv => lhs; cbv) ?_; first
        | refine NX.done ?_
        | refine NX.gt ?_
        | refine NX.gf ?_
        | (refine NX.gs ?_ ?_ <;> intro hc <;> rw [hc] <;> ((try simp only [zn] at hc) <;> (try simp (disch := omega) only [zz hA, zb, zy, reduceCtorEq, Bool.false_eq_true, Int.reduceLT, Int.reduceLE, Int.reduceNeg] at hc) <;> (try simp only [zw] at hc)) <;> (try (exfalso; omega)))
        | (refine NX.kC ?_; first | (with_reducible refine NX.call (hof) ?_) | ((first | refine NX.call (hof) ?_)) | fail)
        | (refine NX.kO ?_; (first | refine NX.callO (hof) (by simp [allEq]) rfl ?_))
        | ((first | (refine NX.k 1 ?_; first | refine NX.one (One.elemM hA tabOk rfl rfl rfl rfl ?_ ?_) ?_ | refine NX.one (One.elemOwnM hA tabOk rfl rfl rfl rfl rfl ?_ ?_) ?_) | (refine NX.k 7 ?_; first | refine NX.one (One.concatM hA rfl rfl rfl ?_) ?_) | (refine NX.k 9 ?_; first | refine NX.one (One.neBoolM hA tabOk rfl rfl rfl rfl rfl) ?_) | (refine NX.k 10 ?_; first | refine NX.one (One.lenOwnM hA tabOk rfl rfl rfl rfl) ?_) | (refine NX.k 14 ?_; first | refine NX.one (One.loadRatM hA tabOk rfl rfl rfl rfl rfl rfl ?_) ?_)) <;> (first | refine AOLg.pass ?_ | (((try simp only [zn]) <;> (try simp (disch := omega) only [zz hA, zb, zy, reduceCtorEq, Bool.false_eq_true, Int.reduceLT, Int.reduceLE, Int.reduceNeg]) <;> (try simp only [zw])) <;> omega)))
        | refine NX.raw ?_)
    | refine Thn.exit ?_
    | refine Blk.here ?_
    | refine Blk.other (by decide) ?_
    | refine ⟨.inl rfl, _, RetOk.ev tabOk (by conv => lhs; cbv), ?_⟩
    | fail)
  refine AWp.loopU (fun i : Nat => [(16, .ic (.lit (.int .i64 (hid A (cN i)))))]) (fun _ => []) (fun i => E.length - i) (fun i => i ≤ E.length ∧ ∀ j, j < i → wAt l E L j = 0) 0 (by conv => lhs; cbv) ⟨Nat.zero_le _, by simp⟩ (.int rfl (by simp [hA, real, hid, cN]) .nil) rfl ?_
  rintro i ⟨hi0, hok⟩
  by_cases hi : i < E.length
  · have hwr := wrong_at hA l E L hl hsz hg i hi
    have hat := check_at hi hok
    generalize hW : wAt l E L i = W at *
    try first | refine AOLg.of [] ?_ | refine QSg.of [] ?_
    repeat' (first
      | (refine AWp.pass ?_; first
          | refine AWp.seq ?_
          | refine AWp.block ?_
          | refine AWp.skip ?_
          | refine AWp.regG [] (by conv => lhs; cbv) ?_
          | refine AWp.cond_t rfl ?_
          | refine AWp.cond_f rfl ?_
          | (refine AWp.cond rfl ?_ ?_ <;> intro hc <;> (try rw [hc]) <;> ((try simp only [zn] at hc) <;> (try simp (disch := omega) only [zz hA, zb, zy, reduceCtorEq, Bool.false_eq_true, Int.reduceLT, Int.reduceLE, Int.reduceNeg] at hc) <;> (try simp only [zw] at hc)) <;> (try (exfalso; omega)))
          | refine AWp.exit ?_
          | refine AWp.ret ⟨.inr rfl, _, RetOk.ev tabOk (by conv => lhs; cbv), ?_⟩)
      | (refine AOLg.pass ?_; refine AOLg.nx hA tabOk (by conv => lhs; cbv) ?_; first
          | refine NX.done ?_
          | refine NX.gt ?_
          | refine NX.gf ?_
          | (refine NX.gs ?_ ?_ <;> intro hc <;> rw [hc] <;> ((try simp only [zn] at hc) <;> (try simp (disch := omega) only [zz hA, zb, zy, reduceCtorEq, Bool.false_eq_true, Int.reduceLT, Int.reduceLE, Int.reduceNeg] at hc) <;> (try simp only [zw] at hc)) <;> (try (exfalso; omega)))
          | (refine NX.kC ?_; first | (with_reducible refine NX.call (hwr _ _ _ _ (by simp [hA, real, hid, cN]) (by simp [hA, real, hid, cN]) (by simp [hA, real, hid, cN]) (by simp [hA, real, hid, cN])) ?_) | ((first | refine NX.call (hwr _ _ _ _ (by simp [hA, real, hid, cN]) (by simp [hA, real, hid, cN]) (by simp [hA, real, hid, cN]) (by simp [hA, real, hid, cN])) ?_)) | fail)
          | (refine NX.kO ?_; (first | refine NX.callO (hwr _ _ _ _ (by simp [hA, real, hid, cN]) (by simp [hA, real, hid, cN]) (by simp [hA, real, hid, cN]) (by simp [hA, real, hid, cN])) (by simp [allEq]) rfl ?_))
          | ((first | (refine NX.k 1 ?_; first | refine NX.one (One.elemM hA tabOk rfl rfl rfl rfl ?_ ?_) ?_ | refine NX.one (One.elemOwnM hA tabOk rfl rfl rfl rfl rfl ?_ ?_) ?_) | (refine NX.k 7 ?_; first | refine NX.one (One.concatM hA rfl rfl rfl ?_) ?_) | (refine NX.k 9 ?_; first | refine NX.one (One.neBoolM hA tabOk rfl rfl rfl rfl rfl) ?_) | (refine NX.k 10 ?_; first | refine NX.one (One.lenOwnM hA tabOk rfl rfl rfl rfl) ?_) | (refine NX.k 14 ?_; first | refine NX.one (One.loadRatM hA tabOk rfl rfl rfl rfl rfl rfl ?_) ?_)) <;> (first | refine AOLg.pass ?_ | (((try simp only [zn]) <;> (try simp (disch := omega) only [zz hA, zb, zy, reduceCtorEq, Bool.false_eq_true, Int.reduceLT, Int.reduceLE, Int.reduceNeg]) <;> (try simp only [zw])) <;> omega)))
          | refine NX.raw ?_)
      | refine Thn.exit ?_
      | refine Blk.here ?_
      | refine Blk.other (by decide) ?_
      | refine ⟨.inl rfl, _, RetOk.ev tabOk (by conv => lhs; cbv), ?_⟩
      | fail)
    · obtain ⟨e1, e2⟩ := hat (by simpa using hc)
      refine rPV_then (by conv => lhs; cbv) ?_
      rw [e1, e2]
      rfl
    · refine ⟨i + 1, ⟨by omega, fun j hj => ?_⟩, by omega, rfl, rfl, ?_, (by repeat' (first | exact subE.nil | refine subE.cons rfl ?_))⟩
      · rcases Nat.lt_or_ge j i with h | h
        · exact hok j h
        · obtain rfl : j = i := by omega
          rw [hW]; omega
      · exact .int rfl (by (((try simp only [zn]) <;> (try simp (disch := omega) only [zz hA, zb, zy, reduceCtorEq, Bool.false_eq_true, Int.reduceLT, Int.reduceLE, Int.reduceNeg]) <;> (try simp only [zw])) <;> omega)) .nil
  · obtain ⟨e1, e2⟩ := check_ok (l := l) (E := E) (L := L) fun j hj => hok j (by omega)
    try first | refine AOLg.of [] ?_ | refine QSg.of [] ?_
    repeat' (first
      | (refine AWp.pass ?_; first
          | refine AWp.seq ?_
          | refine AWp.block ?_
          | refine AWp.skip ?_
          | refine AWp.regG [] (by conv => lhs; cbv) ?_
          | refine AWp.cond_t rfl ?_
          | refine AWp.cond_f rfl ?_
          | (refine AWp.cond rfl ?_ ?_ <;> intro hc <;> (try rw [hc]) <;> ((try simp only [zn] at hc) <;> (try simp (disch := omega) only [zz hA, zb, zy, reduceCtorEq, Bool.false_eq_true, Int.reduceLT, Int.reduceLE, Int.reduceNeg] at hc) <;> (try simp only [zw] at hc)) <;> (try (exfalso; omega)))
          | refine AWp.exit ?_
          | refine AWp.ret ⟨.inr rfl, _, RetOk.ev tabOk (by conv => lhs; cbv), ?_⟩)
      | (refine AOLg.pass ?_; refine AOLg.nx hA tabOk (by conv => lhs; cbv) ?_; first
          | refine NX.done ?_
          | refine NX.gt ?_
          | refine NX.gf ?_
          | (refine NX.gs ?_ ?_ <;> intro hc <;> rw [hc] <;> ((try simp only [zn] at hc) <;> (try simp (disch := omega) only [zz hA, zb, zy, reduceCtorEq, Bool.false_eq_true, Int.reduceLT, Int.reduceLE, Int.reduceNeg] at hc) <;> (try simp only [zw] at hc)) <;> (try (exfalso; omega)))
          | ((first | (refine NX.k 1 ?_; first | refine NX.one (One.elemM hA tabOk rfl rfl rfl rfl ?_ ?_) ?_ | refine NX.one (One.elemOwnM hA tabOk rfl rfl rfl rfl rfl ?_ ?_) ?_) | (refine NX.k 7 ?_; first | refine NX.one (One.concatM hA rfl rfl rfl ?_) ?_) | (refine NX.k 9 ?_; first | refine NX.one (One.neBoolM hA tabOk rfl rfl rfl rfl rfl) ?_) | (refine NX.k 10 ?_; first | refine NX.one (One.lenOwnM hA tabOk rfl rfl rfl rfl) ?_) | (refine NX.k 14 ?_; first | refine NX.one (One.loadRatM hA tabOk rfl rfl rfl rfl rfl rfl ?_) ?_)) <;> (first | refine AOLg.pass ?_ | (((try simp only [zn]) <;> (try simp (disch := omega) only [zz hA, zb, zy, reduceCtorEq, Bool.false_eq_true, Int.reduceLT, Int.reduceLE, Int.reduceNeg]) <;> (try simp only [zw])) <;> omega)))
          | refine NX.raw ?_)
      | refine Thn.exit ?_
      | refine Blk.here ?_
      | refine Blk.other (by decide) ?_
      | refine ⟨.inl rfl, _, RetOk.ev tabOk (by conv => lhs; cbv), ?_⟩
      | fail)
    refine rPV_then (by conv => lhs; cbv) ?_
    rw [e1, e2, hid_eq hA]
end Go.Proofs.Ytgemcogfpkolfaa.Aw

/- Contracts of the reference, part 7: what may not be. -/
set_option linter.unusedVariables false
set_option linter.unusedSimpArgs false
set_option linter.unusedSectionVars false
namespace Go.Proofs.Ytgemcogfpkolfaa.Aw
open Go Go.RowKit
set_option maxRecDepth 10000
attribute [local irreducible] AWp AOL QS One AOLg QSg NX QX TRg TX AllO Fin3
variable {A : Ar} (hA : A = real)
include hA
set_option maxHeartbeats 8000000 in
theorem rCheck_c (l : List Sg) (E : List Nd) (s : Int) (hl : l.length ≤ 1000000) (hsz : FitG l) (hg : goodD E) (h1 : manyD E E.length = 1) (hE : E.length ≤ 1000000) :
    PureCalls Try.prog 13 [slP A 2 (encG A) l, slP A 3 (encD A) E, UP s] (.tup [IP (hid A (checkA l E (sidesD l E s))), IP (hid A (checkW l E (sidesD l E s)))]) := by
  have hof := rOf_c hA l E s hl hsz hg h1 hE
  have hLl : (sidesD l E s).length = E.length := sdM_len _ _ _ _ _
  generalize sidesD l E s = L at *
  refine PureCalls.of Try.func13 rfl (by kernel_rfl) rfl ?_
  try first | refine AOLg.of [] ?_ | refine QSg.of [] ?_
  repeat' (first
    | (refine AWp.pass ?_; first
        | refine AWp.seq ?_
        | refine AWp.block ?_
        | refine AWp.skip ?_
        | refine AWp.regG [] (by conv => lhs; cbv) ?_
        | refine AWp.cond_t rfl ?_
        | refine AWp.cond_f rfl ?_
        | (refine AWp.cond rfl ?_ ?_ <;> intro hc <;> (try rw [hc]) <;> ((try simp only [zn] at hc) <;> (try simp (disch := omega) only [zz hA, zb, zy, reduceCtorEq, Bool.false_eq_true, Int.reduceLT, Int.reduceLE, Int.reduceNeg] at hc) <;> (try simp only [zw] at hc)) <;> (try (exfalso; omega)))
        | refine AWp.exit ?_
        | refine AWp.ret ⟨.inr rfl, _, RetOk.ev tabOk (by conv => lhs; cbv), ?_⟩)
    | (refine AOLg.pass ?_; refine AOLg.nx hA tabOk (by conv => lhs; cbv) ?_; first
        | refine NX.done ?_
        | refine NX.gt ?_
        | refine NX.gf ?_
        | (refine NX.gs ?_ ?_ <;> intro hc <;> rw [hc] <;> ((try simp only [zn] at hc) <;> (try simp (disch := omega) only [zz hA, zb, zy, reduceCtorEq, Bool.false_eq_true, Int.reduceLT, Int.reduceLE, Int.reduceNeg] at hc) <;> (try simp only [zw] at hc)) <;> (try (exfalso; omega)))
        | (refine NX.kC ?_; first | (with_reducible refine NX.call (hof) ?_) | ((first | refine NX.call (hof) ?_)) | fail)
        | (refine NX.kO ?_; (first | refine NX.callO (hof) (by simp [allEq]) rfl ?_))
        | ((first | (refine NX.k 1 ?_; first | refine NX.one (One.elemM hA tabOk rfl rfl rfl rfl ?_ ?_) ?_ | refine NX.one (One.elemOwnM hA tabOk rfl rfl rfl rfl rfl ?_ ?_) ?_) | (refine NX.k 7 ?_; first | refine NX.one (One.concatM hA rfl rfl rfl ?_) ?_) | (refine NX.k 8 ?_; first | refine NX.one (One.eqBoolM hA tabOk rfl rfl rfl rfl rfl) ?_) | (refine NX.k 9 ?_; first | refine NX.one (One.neBoolM hA tabOk rfl rfl rfl rfl rfl) ?_) | (refine NX.k 10 ?_; first | refine NX.one (One.lenOwnM hA tabOk rfl rfl rfl rfl) ?_) | (refine NX.k 14 ?_; first | refine NX.one (One.loadRatM hA tabOk rfl rfl rfl rfl rfl rfl ?_) ?_) | (refine NX.k 15 ?_; first | refine NX.one (One.storeRatM hA tabOk _ rfl rfl rfl rfl rfl rfl rfl rfl (fun _ => rfl) ?_) ?_) | (refine NX.k 18 ?_; first | refine NX.one (One.fieldRat tabOk rfl rfl rfl rfl (by decide) rfl rfl) ?_)) <;> (first | refine AOLg.pass ?_ | (((try simp only [zn]) <;> (try simp (disch := omega) only [zz hA, zb, zy, reduceCtorEq, Bool.false_eq_true, Int.reduceLT, Int.reduceLE, Int.reduceNeg]) <;> (try simp only [zw])) <;> omega)))
        | refine NX.raw ?_)
    | refine Thn.exit ?_
    | refine Blk.here ?_
    | refine Blk.other (by decide) ?_
    | refine ⟨.inl rfl, _, RetOk.ev tabOk (by conv => lhs; cbv), ?_⟩
    | fail)
  refine AWp.loopT 0 (fun i : Nat => [(9, .ic (.lit (.int .i64 (hid A (cN i)))))]) (fun _ => []) (fun i => E.length - i) (fun i => i ≤ E.length ∧ ∀ j, j < i → wAt l E L j = 0) 0 (by conv => lhs; cbv) ⟨Nat.zero_le _, by simp⟩ (.int rfl (by simp [hA, real, hid, cN]) .nil) rfl (fun _ => rfl) (fun _ => rfl) ?_
  rintro i ⟨hi0, hok⟩
  by_cases hi : i < E.length
  · have hat := check_at hi hok
    have hwd : wAt l E L i = wrongD l (ndK (E.getD i default)) (ndS (E.getD i default)) (ndN (E.getD i default)) (L.getD i default) := rfl
    have hq := mayD_parts (hg.may hi)
    have ek : ∀ q : Int, q = i → ndK (E.getD q.toNat default) = ndK (E.getD i default) := by rintro q rfl; rfl
    have es : ∀ q : Int, q = i → ndS (E.getD q.toNat default) = ndS (E.getD i default) := by rintro q rfl; rfl
    have en : ∀ q : Int, q = i → ndN (E.getD q.toNat default) = ndN (E.getD i default) := by rintro q rfl; rfl
    have ed : ∀ q : Nat, q = i → L.getD q default = L.getD i default := by rintro q rfl; rfl
    have hdz : L.getD (hid A (cN i)).toNat default = L.getD i default := by simp [hA, real, hid, cN]
    generalize ndK (E.getD i default) = k at *
    generalize ndS (E.getD i default) = sa at *
    generalize ndN (E.getD i default) = n at *
    have hfd := find_G hA l sa
    have hkn := known_c hA l k sa n hl hsz
    unfold wrongD at hwd
    generalize hW : wAt l E L i = W at *
    generalize findG l sa = f at *
    generalize knownD l k sa n = b at *
    try first | refine AOLg.of [26] ?_ | refine QSg.of [26] ?_
    repeat' (first
      | (refine AWp.pass ?_; first
          | refine AWp.seq ?_
          | refine AWp.block ?_
          | refine AWp.skip ?_
          | refine AWp.regG [26] (by conv => lhs; cbv) ?_
          | refine AWp.cond_t rfl ?_
          | refine AWp.cond_f rfl ?_
          | (refine AWp.cond rfl ?_ ?_ <;> intro hc <;> (try rw [hc]) <;> ((try simp only [zn] at hc) <;> (try simp (disch := omega) only [zz hA, zb, zy, reduceCtorEq, Bool.false_eq_true, Int.reduceLT, Int.reduceLE, Int.reduceNeg] at hc) <;> (try simp only [zw] at hc)) <;> (try (exfalso; omega)))
          | refine AWp.exit ?_
          | refine AWp.ret ⟨.inr rfl, _, RetOk.ev tabOk (by conv => lhs; cbv), ?_⟩)
      | (refine AOLg.pass ?_; refine AOLg.nx hA tabOk (by conv => lhs; cbv) ?_; first
          | refine NX.done ?_
          | refine NX.gt ?_
          | refine NX.gf ?_
          | (refine NX.gs ?_ ?_ <;> intro hc <;> rw [hc] <;> ((try simp only [zn] at hc) <;> (try simp (disch := omega) only [zz hA, zb, zy, reduceCtorEq, Bool.false_eq_true, Int.reduceLT, Int.reduceLE, Int.reduceNeg] at hc) <;> (try simp only [zw] at hc)) <;> (try (exfalso; omega)))
          | ((first | (refine NX.k 1 ?_; first | refine NX.one (One.elemM hA tabOk rfl rfl rfl rfl ?_ ?_) ?_ | refine NX.one (One.elemOwnM hA tabOk rfl rfl rfl rfl rfl ?_ ?_) ?_) | (refine NX.k 7 ?_; first | refine NX.one (One.concatM hA rfl rfl rfl ?_) ?_) | (refine NX.k 8 ?_; first | refine NX.one (One.eqBoolM hA tabOk rfl rfl rfl rfl rfl) ?_) | (refine NX.k 9 ?_; first | refine NX.one (One.neBoolM hA tabOk rfl rfl rfl rfl rfl) ?_) | (refine NX.k 10 ?_; first | refine NX.one (One.lenOwnM hA tabOk rfl rfl rfl rfl) ?_) | (refine NX.k 14 ?_; first | refine NX.one (One.loadRatM hA tabOk rfl rfl rfl rfl rfl rfl ?_) ?_) | (refine NX.k 15 ?_; first | refine NX.one (One.storeRatM hA tabOk _ rfl rfl rfl rfl rfl rfl rfl rfl (fun _ => rfl) ?_) ?_) | (refine NX.k 18 ?_; first | refine NX.one (One.fieldRat tabOk rfl rfl rfl rfl (by decide) rfl rfl) ?_)) <;> (first | refine AOLg.pass ?_ | (((try simp only [zn]) <;> (try simp (disch := omega) only [zz hA, zb, zy, reduceCtorEq, Bool.false_eq_true, Int.reduceLT, Int.reduceLE, Int.reduceNeg]) <;> (try simp only [zw])) <;> omega)))
          | (refine NX.one (One.build1 tabOk rfl rfl rfl rfl rfl) ?_)
          | refine NX.raw ?_)
      | refine Thn.exit ?_
      | refine Blk.here ?_
      | refine Blk.other (by decide) ?_
      | refine ⟨.inl rfl, _, RetOk.ev tabOk (by conv => lhs; cbv), ?_⟩
      | fail)
    refine AOL.recell 0 [.ic (.lit (.int .i64 k)), .ic (.lit (.string sa)), .ic (.lit (.int .i64 n))] rfl (.cons (.int (by simp only [hid_eq hA]; exact ek _ (by simp [hA, real, hid, cN]))) (.cons (.str (by simp only [hid_eq hA]; exact es _ (by simp [hA, real, hid, cN]))) (.cons (.int (by simp only [hid_eq hA]; exact en _ (by simp [hA, real, hid, cN]))) .nil))) ?_
    refine AOL.norm (by conv => lhs; cbv) ?_
    have hdz2 : L.getD ((i : Int)).toNat default = L.getD i default := rfl
    generalize hdd : L.getD i default = d at *
    have hk7 : k = 0 ∨ k = 1 ∨ k = 2 ∨ k = 3 ∨ k = 4 ∨ k = 5 ∨ k = 6 := by omega
    have hret : W ≠ 0 → ∀ z w, z = (i : Int) → w = W → PV.tup [IP z, IP w] = PV.tup [IP (hid A (checkA l E L)), IP (hid A (checkW l E L))] := fun h z w hz hw => by
      obtain ⟨e1, e2⟩ := hat h
      rw [hid_eq hA, hid_eq hA, e1, e2, hz, hw]
    have hnext : W = 0 → ∀ j, j < i + 1 → wAt l E L j = 0 := fun h j hj => by
      rcases Nat.lt_or_ge j i with h2 | h2
      · exact hok j h2
      · obtain rfl : j = i := by omega
        rw [hW]; exact h
    clear hat
    cases b <;> (
      rw [hid_eq hA (α := Bool)] at hkn
      rcases hk7 with rfl | rfl | rfl | rfl | rfl | rfl | rfl <;> (
        simp at hwd
        try first | refine AOLg.of [] ?_ | refine QSg.of [] ?_
        repeat' (first
          | (refine AWp.pass ?_; first
              | refine AWp.seq ?_
              | refine AWp.block ?_
              | refine AWp.skip ?_
              | refine AWp.regG [] (by conv => lhs; cbv) ?_
              | refine AWp.cond_t rfl ?_
              | refine AWp.cond_f rfl ?_
              | (refine AWp.cond rfl ?_ ?_ <;> intro hc <;> (try rw [hc]) <;> ((try simp only [zn] at hc) <;> (try simp (disch := omega) only [zz hA, zb, zy, reduceCtorEq, Bool.false_eq_true, Int.reduceLT, Int.reduceLE, Int.reduceNeg] at hc) <;> (try simp only [zw] at hc)) <;> (try (exfalso; omega)))
              | refine AWp.exit ?_
              | refine AWp.ret ⟨.inr rfl, _, RetOk.ev tabOk (by conv => lhs; cbv), ?_⟩)
          | (refine AOLg.pass ?_; refine AOLg.nx hA tabOk (by conv => lhs; cbv) ?_; first
              | refine NX.done ?_
              | refine NX.gt ?_
              | refine NX.gf ?_
              | (refine NX.gs ?_ ?_ <;> intro hc <;> rw [hc] <;> ((try simp only [zn] at hc) <;> (try simp (disch := omega) only [zz hA, zb, zy, reduceCtorEq, Bool.false_eq_true, Int.reduceLT, Int.reduceLE, Int.reduceNeg] at hc) <;> (try simp only [zw] at hc)) <;> (try (exfalso; omega)))
              | (refine NX.kC ?_; first | (with_reducible refine NX.call (hfd) ?_) | (with_reducible refine NX.call (hkn) ?_) | ((first | refine NX.call (hfd) ?_ | refine NX.call (hkn) ?_)) | fail)
              | (refine NX.kO ?_; (first | refine NX.callO (hfd) (by simp [allEq]) rfl ?_ | refine NX.callO (hkn) (by simp [allEq]) rfl ?_))
              | ((first | (refine NX.k 1 ?_; first | refine NX.one (One.elemM hA tabOk rfl rfl rfl rfl ?_ ?_) ?_ | refine NX.one (One.elemOwnM hA tabOk rfl rfl rfl rfl rfl ?_ ?_) ?_) | (refine NX.k 7 ?_; first | refine NX.one (One.concatM hA rfl rfl rfl ?_) ?_) | (refine NX.k 8 ?_; first | refine NX.one (One.eqBoolM hA tabOk rfl rfl rfl rfl rfl) ?_) | (refine NX.k 9 ?_; first | refine NX.one (One.neBoolM hA tabOk rfl rfl rfl rfl rfl) ?_) | (refine NX.k 10 ?_; first | refine NX.one (One.lenOwnM hA tabOk rfl rfl rfl rfl) ?_) | (refine NX.k 14 ?_; first | refine NX.one (One.loadRatM hA tabOk rfl rfl rfl rfl rfl rfl ?_) ?_) | (refine NX.k 15 ?_; first | refine NX.one (One.storeRatM hA tabOk _ rfl rfl rfl rfl rfl rfl rfl rfl (fun _ => rfl) ?_) ?_) | (refine NX.k 18 ?_; first | refine NX.one (One.fieldRat tabOk rfl rfl rfl rfl (by decide) rfl rfl) ?_)) <;> (first | refine AOLg.pass ?_ | (((try simp only [zn]) <;> (try simp (disch := omega) only [zz hA, zb, zy, reduceCtorEq, Bool.false_eq_true, Int.reduceLT, Int.reduceLE, Int.reduceNeg]) <;> (try simp only [zw])) <;> omega)))
              | refine NX.raw ?_)
          | refine Thn.exit ?_
          | refine Blk.here ?_
          | refine Blk.other (by decide) ?_
          | refine ⟨.inl rfl, _, RetOk.ev tabOk (by conv => lhs; cbv), ?_⟩
          | fail)
        all_goals first
          | (refine rPV_then (by conv => lhs; cbv) ?_
             refine hret ?_ _ _ (by simp [hA, real, hid, cN]) ?_ <;> (rw [hwd]; (repeat' split) <;> first | omega | (simp_all; done))
             done)
          | (refine ⟨i + 1, ⟨by omega, hnext ?_⟩, by omega, rfl, rfl, rfl, rfl, rfl, ?_, (by repeat' (first | exact subE.nil | refine subE.cons rfl ?_))⟩
             · first | exact hwd | (rw [hwd]; (repeat' split) <;> first | omega | (simp_all; done))
             · exact .int rfl (by (((try simp only [zn]) <;> (try simp (disch := omega) only [zz hA, zb, zy, reduceCtorEq, Bool.false_eq_true, Int.reduceLT, Int.reduceLE, Int.reduceNeg]) <;> (try simp only [zw])) <;> omega)) .nil)
          | skip))
  · obtain ⟨e1, e2⟩ := check_ok (l := l) (E := E) (L := L) fun j hj => hok j (by omega)
    try first | refine AOLg.of [] ?_ | refine QSg.of [] ?_
    repeat' (first
      | (refine AWp.pass ?_; first
          | refine AWp.seq ?_
          | refine AWp.block ?_
          | refine AWp.skip ?_
          | refine AWp.regG [] (by conv => lhs; cbv) ?_
          | refine AWp.cond_t rfl ?_
          | refine AWp.cond_f rfl ?_
          | (refine AWp.cond rfl ?_ ?_ <;> intro hc <;> (try rw [hc]) <;> ((try simp only [zn] at hc) <;> (try simp (disch := omega) only [zz hA, zb, zy, reduceCtorEq, Bool.false_eq_true, Int.reduceLT, Int.reduceLE, Int.reduceNeg] at hc) <;> (try simp only [zw] at hc)) <;> (try (exfalso; omega)))
          | refine AWp.exit ?_
          | refine AWp.ret ⟨.inr rfl, _, RetOk.ev tabOk (by conv => lhs; cbv), ?_⟩)
      | (refine AOLg.pass ?_; refine AOLg.nx hA tabOk (by conv => lhs; cbv) ?_; first
          | refine NX.done ?_
          | refine NX.gt ?_
          | refine NX.gf ?_
          | (refine NX.gs ?_ ?_ <;> intro hc <;> rw [hc] <;> ((try simp only [zn] at hc) <;> (try simp (disch := omega) only [zz hA, zb, zy, reduceCtorEq, Bool.false_eq_true, Int.reduceLT, Int.reduceLE, Int.reduceNeg] at hc) <;> (try simp only [zw] at hc)) <;> (try (exfalso; omega)))
          | ((first | (refine NX.k 1 ?_; first | refine NX.one (One.elemM hA tabOk rfl rfl rfl rfl ?_ ?_) ?_ | refine NX.one (One.elemOwnM hA tabOk rfl rfl rfl rfl rfl ?_ ?_) ?_) | (refine NX.k 7 ?_; first | refine NX.one (One.concatM hA rfl rfl rfl ?_) ?_) | (refine NX.k 8 ?_; first | refine NX.one (One.eqBoolM hA tabOk rfl rfl rfl rfl rfl) ?_) | (refine NX.k 9 ?_; first | refine NX.one (One.neBoolM hA tabOk rfl rfl rfl rfl rfl) ?_) | (refine NX.k 10 ?_; first | refine NX.one (One.lenOwnM hA tabOk rfl rfl rfl rfl) ?_) | (refine NX.k 14 ?_; first | refine NX.one (One.loadRatM hA tabOk rfl rfl rfl rfl rfl rfl ?_) ?_) | (refine NX.k 15 ?_; first | refine NX.one (One.storeRatM hA tabOk _ rfl rfl rfl rfl rfl rfl rfl rfl (fun _ => rfl) ?_) ?_) | (refine NX.k 18 ?_; first | refine NX.one (One.fieldRat tabOk rfl rfl rfl rfl (by decide) rfl rfl) ?_)) <;> (first | refine AOLg.pass ?_ | (((try simp only [zn]) <;> (try simp (disch := omega) only [zz hA, zb, zy, reduceCtorEq, Bool.false_eq_true, Int.reduceLT, Int.reduceLE, Int.reduceNeg]) <;> (try simp only [zw])) <;> omega)))
          | refine NX.raw ?_)
      | refine Thn.exit ?_
      | refine Blk.here ?_
      | refine Blk.other (by decide) ?_
      | refine ⟨.inl rfl, _, RetOk.ev tabOk (by conv => lhs; cbv), ?_⟩
      | fail)
    refine rPV_then (by conv => lhs; cbv) ?_
    rw [e1, e2, hid_eq hA]
end Go.Proofs.Ytgemcogfpkolfaa.Aw

/- Contracts of package side and of the reference, part 8: variables. -/
set_option linter.unusedVariables false
set_option linter.unusedSimpArgs false
set_option linter.unusedSectionVars false
namespace Go.Proofs.Ytgemcogfpkolfaa.Aw
open Go Go.RowKit
set_option maxRecDepth 10000
attribute [local irreducible] AWp AOL QS One AOLg QSg NX QX TRg TX AllO Fin3
theorem eqS_comm (a b : ByteArray) : eqS a b = eqS b a := by unfold eqS; rw [Bool.eq_iff_iff, decide_eq_true_eq, decide_eq_true_eq]; exact ⟨Eq.symm, Eq.symm⟩
def idxS (T : List ByteArray) (s : ByteArray) : Int := idxB T.length fun j => eqS (T.getD j default) s
def varsN (E : List Nd) : Nat → List ByteArray
  | 0 => []
  | i + 1 => if ndK (E.getD i default) = 2 ∧ idxS (varsN E i) (ndS (E.getD i default)) < 0 then varsN E i ++ [ndS (E.getD i default)] else varsN E i
def varsD (E : List Nd) : List ByteArray := varsN E E.length
theorem varsN_len (E : List Nd) : ∀ i, (varsN E i).length ≤ i
  | 0 => by simp [varsN]
  | i + 1 => by
    have := varsN_len E i
    unfold varsN
    split
    · rw [List.length_append]; simp; omega
    · omega
variable {A : Ar} (hA : A = real)
include hA
theorem atT_c (T : List ByteArray) (s : ByteArray) (hl : T.length ≤ 1000000) : PureCalls Try.prog 36 [slP A 1 encS T, SP s] (IP (hid A (idxS T s))) := by
  refine PureCalls.of Try.func36 rfl (by kernel_rfl) rfl ?_
  try first | refine AOLg.of [] ?_ | refine QSg.of [] ?_
  repeat' (first
    | (refine AWp.pass ?_; first
        | refine AWp.seq ?_
        | refine AWp.block ?_
        | refine AWp.skip ?_
        | refine AWp.regG [] (by conv => lhs; cbv) ?_
        | refine AWp.cond_t rfl ?_
        | refine AWp.cond_f rfl ?_
        | (refine AWp.cond rfl ?_ ?_ <;> intro hc <;> (try rw [hc]) <;> ((try simp only [zn] at hc) <;> (try simp (disch := omega) only [zz hA, zb, zy, reduceCtorEq, Bool.false_eq_true, Int.reduceLT, Int.reduceLE, Int.reduceNeg] at hc) <;> (try simp only [zw] at hc)) <;> (try (exfalso; omega)))
        | refine AWp.exit ?_
        | refine AWp.ret ⟨.inr rfl, _, RetOk.ev tabOk (by conv => lhs; cbv), ?_⟩)
    | (refine AOLg.pass ?_; refine AOLg.nx hA tabOk (by conv => lhs; cbv) ?_; first
        | refine NX.done ?_
        | refine NX.gt ?_
        | refine NX.gf ?_
        | (refine NX.gs ?_ ?_ <;> intro hc <;> rw [hc] <;> ((try simp only [zn] at hc) <;> (try simp (disch := omega) only [zz hA, zb, zy, reduceCtorEq, Bool.false_eq_true, Int.reduceLT, Int.reduceLE, Int.reduceNeg] at hc) <;> (try simp only [zw] at hc)) <;> (try (exfalso; omega)))
        | ((first | (refine NX.k 1 ?_; first | refine NX.one (One.elemM hA tabOk rfl rfl rfl rfl ?_ ?_) ?_ | refine NX.one (One.elemOwnM hA tabOk rfl rfl rfl rfl rfl ?_ ?_) ?_) | (refine NX.k 7 ?_; first | refine NX.one (One.concatM hA rfl rfl rfl ?_) ?_) | (refine NX.k 8 ?_; first | refine NX.one (One.eqBoolM hA tabOk rfl rfl rfl rfl rfl) ?_) | (refine NX.k 10 ?_; first | refine NX.one (One.lenOwnM hA tabOk rfl rfl rfl rfl) ?_) | (refine NX.k 14 ?_; first | refine NX.one (One.loadRatM hA tabOk rfl rfl rfl rfl rfl rfl ?_) ?_)) <;> (first | refine AOLg.pass ?_ | (((try simp only [zn]) <;> (try simp (disch := omega) only [zz hA, zb, zy, reduceCtorEq, Bool.false_eq_true, Int.reduceLT, Int.reduceLE, Int.reduceNeg]) <;> (try simp only [zw])) <;> omega)))
        | refine NX.raw ?_)
    | refine Thn.exit ?_
    | refine Blk.here ?_
    | refine Blk.other (by decide) ?_
    | refine ⟨.inl rfl, _, RetOk.ev tabOk (by conv => lhs; cbv), ?_⟩
    | fail)
  refine AWp.loopU (fun k : Nat => [(5, .ic (.lit (.int .i64 (hid A (cN k)))))]) (fun _ => []) (fun k => T.length - k) (fun k => k ≤ T.length ∧ ∀ j, j < k → eqS (T.getD j default) s = false) 0 (by conv => lhs; cbv) ⟨Nat.zero_le _, by simp⟩ (by (repeat' (first | exact subE.nil | refine subE.cons rfl ?_ | refine subE.int rfl ?_ ?_ | refine subE.bool rfl ?_ ?_ | refine subE.str rfl ?_ ?_ | refine subE.sl rfl ?_ ?_)) <;> simp [hA, real, hid, cN]) rfl ?_
  rintro k ⟨hk, hok⟩
  by_cases hlt : k < T.length
  · try first | refine AOLg.of [] ?_ | refine QSg.of [] ?_
    repeat' (first
      | (refine AWp.pass ?_; first
          | refine AWp.seq ?_
          | refine AWp.block ?_
          | refine AWp.skip ?_
          | refine AWp.regG [] (by conv => lhs; cbv) ?_
          | refine AWp.cond_t rfl ?_
          | refine AWp.cond_f rfl ?_
          | (refine AWp.cond rfl ?_ ?_ <;> intro hc <;> (try rw [hc]) <;> ((try simp only [zn] at hc) <;> (try simp (disch := omega) only [zz hA, zb, zy, reduceCtorEq, Bool.false_eq_true, Int.reduceLT, Int.reduceLE, Int.reduceNeg] at hc) <;> (try simp only [zw] at hc)) <;> (try (exfalso; omega)))
          | refine AWp.exit ?_
          | refine AWp.ret ⟨.inr rfl, _, RetOk.ev tabOk (by conv => lhs; cbv), ?_⟩)
      | (refine AOLg.pass ?_; refine AOLg.nx hA tabOk (by conv => lhs; cbv) ?_; first
          | refine NX.done ?_
          | refine NX.gt ?_
          | refine NX.gf ?_
          | (refine NX.gs ?_ ?_ <;> intro hc <;> rw [hc] <;> ((try simp only [zn] at hc) <;> (try simp (disch := omega) only [zz hA, zb, zy, reduceCtorEq, Bool.false_eq_true, Int.reduceLT, Int.reduceLE, Int.reduceNeg] at hc) <;> (try simp only [zw] at hc)) <;> (try (exfalso; omega)))
          | ((first | (refine NX.k 1 ?_; first | refine NX.one (One.elemM hA tabOk rfl rfl rfl rfl ?_ ?_) ?_ | refine NX.one (One.elemOwnM hA tabOk rfl rfl rfl rfl rfl ?_ ?_) ?_) | (refine NX.k 7 ?_; first | refine NX.one (One.concatM hA rfl rfl rfl ?_) ?_) | (refine NX.k 8 ?_; first | refine NX.one (One.eqBoolM hA tabOk rfl rfl rfl rfl rfl) ?_) | (refine NX.k 10 ?_; first | refine NX.one (One.lenOwnM hA tabOk rfl rfl rfl rfl) ?_) | (refine NX.k 14 ?_; first | refine NX.one (One.loadRatM hA tabOk rfl rfl rfl rfl rfl rfl ?_) ?_)) <;> (first | refine AOLg.pass ?_ | (((try simp only [zn]) <;> (try simp (disch := omega) only [zz hA, zb, zy, reduceCtorEq, Bool.false_eq_true, Int.reduceLT, Int.reduceLE, Int.reduceNeg]) <;> (try simp only [zw])) <;> omega)))
          | refine NX.raw ?_)
      | refine Thn.exit ?_
      | refine Blk.here ?_
      | refine Blk.other (by decide) ?_
      | refine ⟨.inl rfl, _, RetOk.ev tabOk (by conv => lhs; cbv), ?_⟩
      | fail)
    · refine rPV_then (by conv => lhs; cbv) ?_
      rw [show idxS T s = k from idxB_at hlt (by unfold eqS; simpa using hc) hok]
      rfl
    · refine ⟨k + 1, ?_, ?_, rfl, rfl, ?_, (by repeat' (first | exact subE.nil | refine subE.cons rfl ?_))⟩ <;> (try omega)
      repeat' (first | exact subE.nil | refine subE.cons rfl ?_ | refine subE.int rfl ?_ ?_ | refine subE.bool rfl ?_ ?_ | refine subE.str rfl ?_ ?_ | refine subE.sl rfl ?_ ?_)
      · refine ⟨by omega, fun j hj => ?_⟩
        rcases Nat.lt_or_ge j k with h | h
        · exact hok j h
        · obtain rfl : j = k := by omega
          unfold eqS; simpa using hc
      · (((try simp only [zn]) <;> (try simp (disch := omega) only [zz hA, zb, zy, reduceCtorEq, Bool.false_eq_true, Int.reduceLT, Int.reduceLE, Int.reduceNeg]) <;> (try simp only [zw])) <;> omega)
  · try first | refine AOLg.of [] ?_ | refine QSg.of [] ?_
    repeat' (first
      | (refine AWp.pass ?_; first
          | refine AWp.seq ?_
          | refine AWp.block ?_
          | refine AWp.skip ?_
          | refine AWp.regG [] (by conv => lhs; cbv) ?_
          | refine AWp.cond_t rfl ?_
          | refine AWp.cond_f rfl ?_
          | (refine AWp.cond rfl ?_ ?_ <;> intro hc <;> (try rw [hc]) <;> ((try simp only [zn] at hc) <;> (try simp (disch := omega) only [zz hA, zb, zy, reduceCtorEq, Bool.false_eq_true, Int.reduceLT, Int.reduceLE, Int.reduceNeg] at hc) <;> (try simp only [zw] at hc)) <;> (try (exfalso; omega)))
          | refine AWp.exit ?_
          | refine AWp.ret ⟨.inr rfl, _, RetOk.ev tabOk (by conv => lhs; cbv), ?_⟩)
      | (refine AOLg.pass ?_; refine AOLg.nx hA tabOk (by conv => lhs; cbv) ?_; first
          | refine NX.done ?_
          | refine NX.gt ?_
          | refine NX.gf ?_
          | (refine NX.gs ?_ ?_ <;> intro hc <;> rw [hc] <;> ((try simp only [zn] at hc) <;> (try simp (disch := omega) only [zz hA, zb, zy, reduceCtorEq, Bool.false_eq_true, Int.reduceLT, Int.reduceLE, Int.reduceNeg] at hc) <;> (try simp only [zw] at hc)) <;> (try (exfalso; omega)))
          | ((first | (refine NX.k 1 ?_; first | refine NX.one (One.elemM hA tabOk rfl rfl rfl rfl ?_ ?_) ?_ | refine NX.one (One.elemOwnM hA tabOk rfl rfl rfl rfl rfl ?_ ?_) ?_) | (refine NX.k 7 ?_; first | refine NX.one (One.concatM hA rfl rfl rfl ?_) ?_) | (refine NX.k 8 ?_; first | refine NX.one (One.eqBoolM hA tabOk rfl rfl rfl rfl rfl) ?_) | (refine NX.k 10 ?_; first | refine NX.one (One.lenOwnM hA tabOk rfl rfl rfl rfl) ?_) | (refine NX.k 14 ?_; first | refine NX.one (One.loadRatM hA tabOk rfl rfl rfl rfl rfl rfl ?_) ?_)) <;> (first | refine AOLg.pass ?_ | (((try simp only [zn]) <;> (try simp (disch := omega) only [zz hA, zb, zy, reduceCtorEq, Bool.false_eq_true, Int.reduceLT, Int.reduceLE, Int.reduceNeg]) <;> (try simp only [zw])) <;> omega)))
          | refine NX.raw ?_)
      | refine Thn.exit ?_
      | refine Blk.here ?_
      | refine Blk.other (by decide) ?_
      | refine ⟨.inl rfl, _, RetOk.ev tabOk (by conv => lhs; cbv), ?_⟩
      | fail)
    refine rPV_then (by conv => lhs; cbv) ?_
    rw [show idxS T s = -1 from idxB_none fun i hi => hok i (by omega), hid_eq hA]
theorem indexT_c (T : List ByteArray) (s : ByteArray) (hl : T.length ≤ 1000000) : PureCalls Try.prog 45 [slP A 1 encS T, SP s] (IP (hid A (idxS T s))) := by
  refine PureCalls.of Try.func45 rfl (by kernel_rfl) rfl ?_
  try first | refine AOLg.of [] ?_ | refine QSg.of [] ?_
  repeat' (first
    | (refine AWp.pass ?_; first
        | refine AWp.seq ?_
        | refine AWp.block ?_
        | refine AWp.skip ?_
        | refine AWp.regG [] (by conv => lhs; cbv) ?_
        | refine AWp.cond_t rfl ?_
        | refine AWp.cond_f rfl ?_
        | (refine AWp.cond rfl ?_ ?_ <;> intro hc <;> (try rw [hc]) <;> ((try simp only [zn] at hc) <;> (try simp (disch := omega) only [zz hA, zb, zy, reduceCtorEq, Bool.false_eq_true, Int.reduceLT, Int.reduceLE, Int.reduceNeg] at hc) <;> (try simp only [zw] at hc)) <;> (try (exfalso; omega)))
        | refine AWp.exit ?_
        | refine AWp.ret ⟨.inr rfl, _, RetOk.ev tabOk (by conv => lhs; cbv), ?_⟩)
    | (refine AOLg.pass ?_; refine AOLg.nx hA tabOk (by conv => lhs; cbv) ?_; first
        | refine NX.done ?_
        | refine NX.gt ?_
        | refine NX.gf ?_
        | (refine NX.gs ?_ ?_ <;> intro hc <;> rw [hc] <;> ((try simp only [zn] at hc) <;> (try simp (disch := omega) only [zz hA, zb, zy, reduceCtorEq, Bool.false_eq_true, Int.reduceLT, Int.reduceLE, Int.reduceNeg] at hc) <;> (try simp only [zw] at hc)) <;> (try (exfalso; omega)))
        | ((first | (refine NX.k 1 ?_; first | refine NX.one (One.elemM hA tabOk rfl rfl rfl rfl ?_ ?_) ?_ | refine NX.one (One.elemOwnM hA tabOk rfl rfl rfl rfl rfl ?_ ?_) ?_) | (refine NX.k 7 ?_; first | refine NX.one (One.concatM hA rfl rfl rfl ?_) ?_) | (refine NX.k 8 ?_; first | refine NX.one (One.eqBoolM hA tabOk rfl rfl rfl rfl rfl) ?_) | (refine NX.k 10 ?_; first | refine NX.one (One.lenOwnM hA tabOk rfl rfl rfl rfl) ?_) | (refine NX.k 14 ?_; first | refine NX.one (One.loadRatM hA tabOk rfl rfl rfl rfl rfl rfl ?_) ?_)) <;> (first | refine AOLg.pass ?_ | (((try simp only [zn]) <;> (try simp (disch := omega) only [zz hA, zb, zy, reduceCtorEq, Bool.false_eq_true, Int.reduceLT, Int.reduceLE, Int.reduceNeg]) <;> (try simp only [zw])) <;> omega)))
        | refine NX.raw ?_)
    | refine Thn.exit ?_
    | refine Blk.here ?_
    | refine Blk.other (by decide) ?_
    | refine ⟨.inl rfl, _, RetOk.ev tabOk (by conv => lhs; cbv), ?_⟩
    | fail)
  refine AWp.loopU (fun k : Nat => [(8, .ic (.lit (.int .i64 (hid A (cN k)))))]) (fun _ => []) (fun k => T.length - k) (fun k => k ≤ T.length ∧ ∀ j, j < k → eqS (T.getD j default) s = false) 0 (by conv => lhs; cbv) ⟨Nat.zero_le _, by simp⟩ (by (repeat' (first | exact subE.nil | refine subE.cons rfl ?_ | refine subE.int rfl ?_ ?_ | refine subE.bool rfl ?_ ?_ | refine subE.str rfl ?_ ?_ | refine subE.sl rfl ?_ ?_)) <;> simp [hA, real, hid, cN]) rfl ?_
  rintro k ⟨hk, hok⟩
  by_cases hlt : k < T.length
  · try first | refine AOLg.of [] ?_ | refine QSg.of [] ?_
    repeat' (first
      | (refine AWp.pass ?_; first
          | refine AWp.seq ?_
          | refine AWp.block ?_
          | refine AWp.skip ?_
          | refine AWp.regG [] (by conv => lhs; cbv) ?_
          | refine AWp.cond_t rfl ?_
          | refine AWp.cond_f rfl ?_
          | (refine AWp.cond rfl ?_ ?_ <;> intro hc <;> (try rw [hc]) <;> ((try simp only [zn] at hc) <;> (try simp (disch := omega) only [zz hA, zb, zy, reduceCtorEq, Bool.false_eq_true, Int.reduceLT, Int.reduceLE, Int.reduceNeg] at hc) <;> (try simp only [zw] at hc)) <;> (try (exfalso; omega)))
          | refine AWp.exit ?_
          | refine AWp.ret ⟨.inr rfl, _, RetOk.ev tabOk (by conv => lhs; cbv), ?_⟩)
      | (refine AOLg.pass ?_; refine AOLg.nx hA tabOk (by conv => lhs; cbv) ?_; first
          | refine NX.done ?_
          | refine NX.gt ?_
          | refine NX.gf ?_
          | (refine NX.gs ?_ ?_ <;> intro hc <;> rw [hc] <;> ((try simp only [zn] at hc) <;> (try simp (disch := omega) only [zz hA, zb, zy, reduceCtorEq, Bool.false_eq_true, Int.reduceLT, Int.reduceLE, Int.reduceNeg] at hc) <;> (try simp only [zw] at hc)) <;> (try (exfalso; omega)))
          | ((first | (refine NX.k 1 ?_; first | refine NX.one (One.elemM hA tabOk rfl rfl rfl rfl ?_ ?_) ?_ | refine NX.one (One.elemOwnM hA tabOk rfl rfl rfl rfl rfl ?_ ?_) ?_) | (refine NX.k 7 ?_; first | refine NX.one (One.concatM hA rfl rfl rfl ?_) ?_) | (refine NX.k 8 ?_; first | refine NX.one (One.eqBoolM hA tabOk rfl rfl rfl rfl rfl) ?_) | (refine NX.k 10 ?_; first | refine NX.one (One.lenOwnM hA tabOk rfl rfl rfl rfl) ?_) | (refine NX.k 14 ?_; first | refine NX.one (One.loadRatM hA tabOk rfl rfl rfl rfl rfl rfl ?_) ?_)) <;> (first | refine AOLg.pass ?_ | (((try simp only [zn]) <;> (try simp (disch := omega) only [zz hA, zb, zy, reduceCtorEq, Bool.false_eq_true, Int.reduceLT, Int.reduceLE, Int.reduceNeg]) <;> (try simp only [zw])) <;> omega)))
          | refine NX.raw ?_)
      | refine Thn.exit ?_
      | refine Blk.here ?_
      | refine Blk.other (by decide) ?_
      | refine ⟨.inl rfl, _, RetOk.ev tabOk (by conv => lhs; cbv), ?_⟩
      | fail)
    · refine rPV_then (by conv => lhs; cbv) ?_
      rw [show idxS T s = k from idxB_at hlt (by rw [eqS_comm]; unfold eqS; simpa using hc) hok]
      rfl
    · refine ⟨k + 1, ?_, ?_, rfl, rfl, ?_, (by repeat' (first | exact subE.nil | refine subE.cons rfl ?_))⟩ <;> (try omega)
      repeat' (first | exact subE.nil | refine subE.cons rfl ?_ | refine subE.int rfl ?_ ?_ | refine subE.bool rfl ?_ ?_ | refine subE.str rfl ?_ ?_ | refine subE.sl rfl ?_ ?_)
      · refine ⟨by omega, fun j hj => ?_⟩
        rcases Nat.lt_or_ge j k with h | h
        · exact hok j h
        · obtain rfl : j = k := by omega
          rw [eqS_comm]; unfold eqS; simpa using hc
      · (((try simp only [zn]) <;> (try simp (disch := omega) only [zz hA, zb, zy, reduceCtorEq, Bool.false_eq_true, Int.reduceLT, Int.reduceLE, Int.reduceNeg]) <;> (try simp only [zw])) <;> omega)
  · try first | refine AOLg.of [] ?_ | refine QSg.of [] ?_
    repeat' (first
      | (refine AWp.pass ?_; first
          | refine AWp.seq ?_
          | refine AWp.block ?_
          | refine AWp.skip ?_
          | refine AWp.regG [] (by conv => lhs; cbv) ?_
          | refine AWp.cond_t rfl ?_
          | refine AWp.cond_f rfl ?_
          | (refine AWp.cond rfl ?_ ?_ <;> intro hc <;> (try rw [hc]) <;> ((try simp only [zn] at hc) <;> (try simp (disch := omega) only [zz hA, zb, zy, reduceCtorEq, Bool.false_eq_true, Int.reduceLT, Int.reduceLE, Int.reduceNeg] at hc) <;> (try simp only [zw] at hc)) <;> (try (exfalso; omega)))
          | refine AWp.exit ?_
          | refine AWp.ret ⟨.inr rfl, _, RetOk.ev tabOk (by conv => lhs; cbv), ?_⟩)
      | (refine AOLg.pass ?_; refine AOLg.nx hA tabOk (by conv => lhs; cbv) ?_; first
          | refine NX.done ?_
          | refine NX.gt ?_
          | refine NX.gf ?_
          | (refine NX.gs ?_ ?_ <;> intro hc <;> rw [hc] <;> ((try simp only [zn] at hc) <;> (try simp (disch := omega) only [zz hA, zb, zy, reduceCtorEq, Bool.false_eq_true, Int.reduceLT, Int.reduceLE, Int.reduceNeg] at hc) <;> (try simp only [zw] at hc)) <;> (try (exfalso; omega)))
          | ((first | (refine NX.k 1 ?_; first | refine NX.one (One.elemM hA tabOk rfl rfl rfl rfl ?_ ?_) ?_ | refine NX.one (One.elemOwnM hA tabOk rfl rfl rfl rfl rfl ?_ ?_) ?_) | (refine NX.k 7 ?_; first | refine NX.one (One.concatM hA rfl rfl rfl ?_) ?_) | (refine NX.k 8 ?_; first | refine NX.one (One.eqBoolM hA tabOk rfl rfl rfl rfl rfl) ?_) | (refine NX.k 10 ?_; first | refine NX.one (One.lenOwnM hA tabOk rfl rfl rfl rfl) ?_) | (refine NX.k 14 ?_; first | refine NX.one (One.loadRatM hA tabOk rfl rfl rfl rfl rfl rfl ?_) ?_)) <;> (first | refine AOLg.pass ?_ | (((try simp only [zn]) <;> (try simp (disch := omega) only [zz hA, zb, zy, reduceCtorEq, Bool.false_eq_true, Int.reduceLT, Int.reduceLE, Int.reduceNeg]) <;> (try simp only [zw])) <;> omega)))
          | refine NX.raw ?_)
      | refine Thn.exit ?_
      | refine Blk.here ?_
      | refine Blk.other (by decide) ?_
      | refine ⟨.inl rfl, _, RetOk.ev tabOk (by conv => lhs; cbv), ?_⟩
      | fail)
    refine rPV_then (by conv => lhs; cbv) ?_
    rw [show idxS T s = -1 from idxB_none fun i hi => hok i (by omega), hid_eq hA]
theorem containsT_c (T : List ByteArray) (s : ByteArray) (hl : T.length ≤ 1000000) : PureCalls Try.prog 35 [slP A 1 encS T, SP s] (BP (hid A (decide (0 ≤ idxS T s)))) := by
  refine PureCalls.of Try.func35 rfl (by kernel_rfl) rfl ?_
  try first | refine AOLg.of [] ?_ | refine QSg.of [] ?_
  repeat' (first
    | (refine AWp.pass ?_; first
        | refine AWp.seq ?_
        | refine AWp.block ?_
        | refine AWp.skip ?_
        | refine AWp.regG [] (by conv => lhs; cbv) ?_
        | refine AWp.cond_t rfl ?_
        | refine AWp.cond_f rfl ?_
        | (refine AWp.cond rfl ?_ ?_ <;> intro hc <;> (try rw [hc]) <;> ((try simp only [zn] at hc) <;> (try simp (disch := omega) only [zz hA, zb, zy, reduceCtorEq, Bool.false_eq_true, Int.reduceLT, Int.reduceLE, Int.reduceNeg] at hc) <;> (try simp only [zw] at hc)) <;> (try (exfalso; omega)))
        | refine AWp.exit ?_
        | refine AWp.ret ⟨.inr rfl, _, RetOk.ev tabOk (by conv => lhs; cbv), ?_⟩)
    | (refine AOLg.pass ?_; refine AOLg.nx hA tabOk (by conv => lhs; cbv) ?_; first
        | refine NX.done ?_
        | refine NX.gt ?_
        | refine NX.gf ?_
        | (refine NX.gs ?_ ?_ <;> intro hc <;> rw [hc] <;> ((try simp only [zn] at hc) <;> (try simp (disch := omega) only [zz hA, zb, zy, reduceCtorEq, Bool.false_eq_true, Int.reduceLT, Int.reduceLE, Int.reduceNeg] at hc) <;> (try simp only [zw] at hc)) <;> (try (exfalso; omega)))
        | (refine NX.kC ?_; first | (with_reducible refine NX.call (indexT_c hA T s hl) ?_) | ((first | refine NX.call (indexT_c hA T s hl) ?_)) | fail)
        | (refine NX.kO ?_; (first | refine NX.callO (indexT_c hA T s hl) (by simp [allEq]) rfl ?_))
        | refine NX.raw ?_)
    | refine Thn.exit ?_
    | refine Blk.here ?_
    | refine Blk.other (by decide) ?_
    | refine ⟨.inl rfl, _, RetOk.ev tabOk (by conv => lhs; cbv), ?_⟩
    | fail)
  refine rPV_then (by conv => lhs; cbv) ?_
  simp [hA, real, hid]
theorem texts_c (T : List ByteArray) (hl : T.length ≤ 1000000) : PureCalls Try.prog 16 [slP A 1 encS T, slP A 1 encS T] (BP true) := by
  refine PureCalls.of Try.func16 rfl (by kernel_rfl) rfl ?_
  try first | refine AOLg.of [] ?_ | refine QSg.of [] ?_
  repeat' (first
    | (refine AWp.pass ?_; first
        | refine AWp.seq ?_
        | refine AWp.block ?_
        | refine AWp.skip ?_
        | refine AWp.regG [] (by conv => lhs; cbv) ?_
        | refine AWp.cond_t rfl ?_
        | refine AWp.cond_f rfl ?_
        | (refine AWp.cond rfl ?_ ?_ <;> intro hc <;> (try rw [hc]) <;> ((try simp only [zn] at hc) <;> (try simp (disch := omega) only [zz hA, zb, zy, reduceCtorEq, Bool.false_eq_true, Int.reduceLT, Int.reduceLE, Int.reduceNeg] at hc) <;> (try simp only [zw] at hc)) <;> (try (exfalso; omega)))
        | refine AWp.exit ?_
        | refine AWp.ret ⟨.inr rfl, _, RetOk.ev tabOk (by conv => lhs; cbv), ?_⟩
        | refine AWp.drawVG [] rfl (by decide +kernel) (by conv => lhs; cbv) ?_)
    | (refine AOLg.pass ?_; refine AOLg.nx hA tabOk (by conv => lhs; cbv) ?_; first
        | refine NX.done ?_
        | refine NX.gt ?_
        | refine NX.gf ?_
        | (refine NX.gs ?_ ?_ <;> intro hc <;> rw [hc] <;> ((try simp only [zn] at hc) <;> (try simp (disch := omega) only [zz hA, zb, zy, reduceCtorEq, Bool.false_eq_true, Int.reduceLT, Int.reduceLE, Int.reduceNeg] at hc) <;> (try simp only [zw] at hc)) <;> (try (exfalso; omega)))
        | ((first | (refine NX.k 1 ?_; first | refine NX.one (One.elemM hA tabOk rfl rfl rfl rfl ?_ ?_) ?_ | refine NX.one (One.elemOwnM hA tabOk rfl rfl rfl rfl rfl ?_ ?_) ?_) | (refine NX.k 7 ?_; first | refine NX.one (One.concatM hA rfl rfl rfl ?_) ?_) | (refine NX.k 9 ?_; first | refine NX.one (One.neBoolM hA tabOk rfl rfl rfl rfl rfl) ?_) | (refine NX.k 10 ?_; first | refine NX.one (One.lenOwnM hA tabOk rfl rfl rfl rfl) ?_) | (refine NX.k 14 ?_; first | refine NX.one (One.loadRatM hA tabOk rfl rfl rfl rfl rfl rfl ?_) ?_)) <;> (first | refine AOLg.pass ?_ | (((try simp only [zn]) <;> (try simp (disch := omega) only [zz hA, zb, zy, reduceCtorEq, Bool.false_eq_true, Int.reduceLT, Int.reduceLE, Int.reduceNeg]) <;> (try simp only [zw])) <;> omega)))
        | refine NX.raw ?_)
    | (refine TRg.pass ?_; refine TRg.nx hA tabOk (by conv => lhs; cbv) ?_; first
        | refine TX.done ?_
        | refine TX.gt ?_
        | refine TX.gf ?_
        | (refine TX.gs ?_ ?_ <;> intro hc <;> rw [hc] <;> ((try simp only [zn] at hc) <;> (try simp (disch := omega) only [zz hA, zb, zy, reduceCtorEq, Bool.false_eq_true, Int.reduceLT, Int.reduceLE, Int.reduceNeg] at hc) <;> (try simp only [zw] at hc)) <;> (try (exfalso; omega)))
        | ((first | (refine TX.k 1 ?_; first | refine TX.one (One.elemM hA tabOk rfl rfl rfl rfl ?_ ?_) ?_ | refine TX.one (One.elemOwnM hA tabOk rfl rfl rfl rfl rfl ?_ ?_) ?_) | (refine TX.k 7 ?_; first | refine TX.one (One.concatM hA rfl rfl rfl ?_) ?_) | (refine TX.k 9 ?_; first | refine TX.one (One.neBoolM hA tabOk rfl rfl rfl rfl rfl) ?_) | (refine TX.k 10 ?_; first | refine TX.one (One.lenOwnM hA tabOk rfl rfl rfl rfl) ?_) | (refine TX.k 14 ?_; first | refine TX.one (One.loadRatM hA tabOk rfl rfl rfl rfl rfl rfl ?_) ?_)) <;> (first | refine TRg.pass ?_ | (((try simp only [zn]) <;> (try simp (disch := omega) only [zz hA, zb, zy, reduceCtorEq, Bool.false_eq_true, Int.reduceLT, Int.reduceLE, Int.reduceNeg]) <;> (try simp only [zw])) <;> omega)))
        | refine TX.raw ?_)
    | refine Fin3.of (by conv => lhs; cbv) (by repeat' (first | exact True.intro | exact rfl | refine And.intro ?_ ?_)) ?_ ?_
    | (refine AllO.pass ?_; first
        | exact AllO.nil
        | (refine AllO.cons (One.ev hA tabOk ?_) ?_ <;> (first | refine AllO.pass ?_ | ((conv => lhs; cbv); done)))
        | (refine AllO.cons (One.skipB ?_) ?_ <;> (first | refine AllO.pass ?_ | ((conv => lhs; cbv); done)))
        | ((first | refine AllO.consX (One.elemM hA tabOk rfl rfl rfl rfl ?_ ?_) rfl rfl ?_ | refine AllO.consX (One.concatM hA rfl rfl rfl ?_) rfl rfl ?_ | refine AllO.consX (One.lenOwnM hA tabOk rfl rfl rfl rfl) rfl rfl ?_ | refine AllO.consX (One.elemOwnM hA tabOk rfl rfl rfl rfl rfl ?_ ?_) rfl rfl ?_ | refine AllO.consX (One.loadRatM hA tabOk rfl rfl rfl rfl rfl rfl ?_) rfl rfl ?_) <;> (first | refine AllO.pass ?_ | (((try simp only [zn]) <;> (try simp (disch := omega) only [zz hA, zb, zy, reduceCtorEq, Bool.false_eq_true, Int.reduceLT, Int.reduceLE, Int.reduceNeg]) <;> (try simp only [zw])) <;> omega))))
    | refine Thn.exit ?_
    | refine Blk.here ?_
    | refine Blk.other (by decide) ?_
    | refine ⟨.inl rfl, _, RetOk.ev tabOk (by conv => lhs; cbv), ?_⟩
    | fail)
  refine AWp.loopU (fun k : Nat => [(5, .ic (.lit (.int .i64 (hid A (cN k)))))]) (fun _ => []) (fun k => T.length - k) (fun k => k ≤ T.length) 0 (by conv => lhs; cbv) (Nat.zero_le _) (by (repeat' (first | exact subE.nil | refine subE.cons rfl ?_ | refine subE.int rfl ?_ ?_ | refine subE.bool rfl ?_ ?_ | refine subE.str rfl ?_ ?_ | refine subE.sl rfl ?_ ?_)) <;> simp [hA, real, hid, cN]) rfl ?_
  rintro k hk
  by_cases hlt : k < T.length
  · try first | refine AOLg.of [] ?_ | refine QSg.of [] ?_
    repeat' (first
      | (refine AWp.pass ?_; first
          | refine AWp.seq ?_
          | refine AWp.block ?_
          | refine AWp.skip ?_
          | refine AWp.regG [] (by conv => lhs; cbv) ?_
          | refine AWp.cond_t rfl ?_
          | refine AWp.cond_f rfl ?_
          | (refine AWp.cond rfl ?_ ?_ <;> intro hc <;> (try rw [hc]) <;> ((try simp only [zn] at hc) <;> (try simp (disch := omega) only [zz hA, zb, zy, reduceCtorEq, Bool.false_eq_true, Int.reduceLT, Int.reduceLE, Int.reduceNeg] at hc) <;> (try simp only [zw] at hc)) <;> (try (exfalso; omega)))
          | refine AWp.exit ?_
          | refine AWp.ret ⟨.inr rfl, _, RetOk.ev tabOk (by conv => lhs; cbv), ?_⟩
          | refine AWp.drawVG [] rfl (by decide +kernel) (by conv => lhs; cbv) ?_)
      | (refine AOLg.pass ?_; refine AOLg.nx hA tabOk (by conv => lhs; cbv) ?_; first
          | refine NX.done ?_
          | refine NX.gt ?_
          | refine NX.gf ?_
          | (refine NX.gs ?_ ?_ <;> intro hc <;> rw [hc] <;> ((try simp only [zn] at hc) <;> (try simp (disch := omega) only [zz hA, zb, zy, reduceCtorEq, Bool.false_eq_true, Int.reduceLT, Int.reduceLE, Int.reduceNeg] at hc) <;> (try simp only [zw] at hc)) <;> (try (exfalso; omega)))
          | ((first | (refine NX.k 1 ?_; first | refine NX.one (One.elemM hA tabOk rfl rfl rfl rfl ?_ ?_) ?_ | refine NX.one (One.elemOwnM hA tabOk rfl rfl rfl rfl rfl ?_ ?_) ?_) | (refine NX.k 7 ?_; first | refine NX.one (One.concatM hA rfl rfl rfl ?_) ?_) | (refine NX.k 9 ?_; first | refine NX.one (One.neBoolM hA tabOk rfl rfl rfl rfl rfl) ?_) | (refine NX.k 10 ?_; first | refine NX.one (One.lenOwnM hA tabOk rfl rfl rfl rfl) ?_) | (refine NX.k 14 ?_; first | refine NX.one (One.loadRatM hA tabOk rfl rfl rfl rfl rfl rfl ?_) ?_)) <;> (first | refine AOLg.pass ?_ | (((try simp only [zn]) <;> (try simp (disch := omega) only [zz hA, zb, zy, reduceCtorEq, Bool.false_eq_true, Int.reduceLT, Int.reduceLE, Int.reduceNeg]) <;> (try simp only [zw])) <;> omega)))
          | refine NX.raw ?_)
      | (refine TRg.pass ?_; refine TRg.nx hA tabOk (by conv => lhs; cbv) ?_; first
          | refine TX.done ?_
          | refine TX.gt ?_
          | refine TX.gf ?_
          | (refine TX.gs ?_ ?_ <;> intro hc <;> rw [hc] <;> ((try simp only [zn] at hc) <;> (try simp (disch := omega) only [zz hA, zb, zy, reduceCtorEq, Bool.false_eq_true, Int.reduceLT, Int.reduceLE, Int.reduceNeg] at hc) <;> (try simp only [zw] at hc)) <;> (try (exfalso; omega)))
          | ((first | (refine TX.k 1 ?_; first | refine TX.one (One.elemM hA tabOk rfl rfl rfl rfl ?_ ?_) ?_ | refine TX.one (One.elemOwnM hA tabOk rfl rfl rfl rfl rfl ?_ ?_) ?_) | (refine TX.k 7 ?_; first | refine TX.one (One.concatM hA rfl rfl rfl ?_) ?_) | (refine TX.k 9 ?_; first | refine TX.one (One.neBoolM hA tabOk rfl rfl rfl rfl rfl) ?_) | (refine TX.k 10 ?_; first | refine TX.one (One.lenOwnM hA tabOk rfl rfl rfl rfl) ?_) | (refine TX.k 14 ?_; first | refine TX.one (One.loadRatM hA tabOk rfl rfl rfl rfl rfl rfl ?_) ?_)) <;> (first | refine TRg.pass ?_ | (((try simp only [zn]) <;> (try simp (disch := omega) only [zz hA, zb, zy, reduceCtorEq, Bool.false_eq_true, Int.reduceLT, Int.reduceLE, Int.reduceNeg]) <;> (try simp only [zw])) <;> omega)))
          | refine TX.raw ?_)
      | refine Fin3.of (by conv => lhs; cbv) (by repeat' (first | exact True.intro | exact rfl | refine And.intro ?_ ?_)) ?_ ?_
      | (refine AllO.pass ?_; first
          | exact AllO.nil
          | (refine AllO.cons (One.ev hA tabOk ?_) ?_ <;> (first | refine AllO.pass ?_ | ((conv => lhs; cbv); done)))
          | (refine AllO.cons (One.skipB ?_) ?_ <;> (first | refine AllO.pass ?_ | ((conv => lhs; cbv); done)))
          | ((first | refine AllO.consX (One.elemM hA tabOk rfl rfl rfl rfl ?_ ?_) rfl rfl ?_ | refine AllO.consX (One.concatM hA rfl rfl rfl ?_) rfl rfl ?_ | refine AllO.consX (One.lenOwnM hA tabOk rfl rfl rfl rfl) rfl rfl ?_ | refine AllO.consX (One.elemOwnM hA tabOk rfl rfl rfl rfl rfl ?_ ?_) rfl rfl ?_ | refine AllO.consX (One.loadRatM hA tabOk rfl rfl rfl rfl rfl rfl ?_) rfl rfl ?_) <;> (first | refine AllO.pass ?_ | (((try simp only [zn]) <;> (try simp (disch := omega) only [zz hA, zb, zy, reduceCtorEq, Bool.false_eq_true, Int.reduceLT, Int.reduceLE, Int.reduceNeg]) <;> (try simp only [zw])) <;> omega))))
      | refine Thn.exit ?_
      | refine Blk.here ?_
      | refine Blk.other (by decide) ?_
      | refine ⟨.inl rfl, _, RetOk.ev tabOk (by conv => lhs; cbv), ?_⟩
      | fail)
    all_goals first
      | (exfalso; simp_all; done)
      | skip
    refine ⟨k + 1, by omega, by omega, rfl, rfl, ?_, (by repeat' (first | exact subE.nil | refine subE.cons rfl ?_))⟩
    exact .int rfl (by (((try simp only [zn]) <;> (try simp (disch := omega) only [zz hA, zb, zy, reduceCtorEq, Bool.false_eq_true, Int.reduceLT, Int.reduceLE, Int.reduceNeg]) <;> (try simp only [zw])) <;> omega)) .nil
  · try first | refine AOLg.of [] ?_ | refine QSg.of [] ?_
    repeat' (first
      | (refine AWp.pass ?_; first
          | refine AWp.seq ?_
          | refine AWp.block ?_
          | refine AWp.skip ?_
          | refine AWp.regG [] (by conv => lhs; cbv) ?_
          | refine AWp.cond_t rfl ?_
          | refine AWp.cond_f rfl ?_
          | (refine AWp.cond rfl ?_ ?_ <;> intro hc <;> (try rw [hc]) <;> ((try simp only [zn] at hc) <;> (try simp (disch := omega) only [zz hA, zb, zy, reduceCtorEq, Bool.false_eq_true, Int.reduceLT, Int.reduceLE, Int.reduceNeg] at hc) <;> (try simp only [zw] at hc)) <;> (try (exfalso; omega)))
          | refine AWp.exit ?_
          | refine AWp.ret ⟨.inr rfl, _, RetOk.ev tabOk (by conv => lhs; cbv), ?_⟩
          | refine AWp.drawVG [] rfl (by decide +kernel) (by conv => lhs; cbv) ?_)
      | (refine AOLg.pass ?_; refine AOLg.nx hA tabOk (by conv => lhs; cbv) ?_; first
          | refine NX.done ?_
          | refine NX.gt ?_
          | refine NX.gf ?_
          | (refine NX.gs ?_ ?_ <;> intro hc <;> rw [hc] <;> ((try simp only [zn] at hc) <;> (try simp (disch := omega) only [zz hA, zb, zy, reduceCtorEq, Bool.false_eq_true, Int.reduceLT, Int.reduceLE, Int.reduceNeg] at hc) <;> (try simp only [zw] at hc)) <;> (try (exfalso; omega)))
          | ((first | (refine NX.k 1 ?_; first | refine NX.one (One.elemM hA tabOk rfl rfl rfl rfl ?_ ?_) ?_ | refine NX.one (One.elemOwnM hA tabOk rfl rfl rfl rfl rfl ?_ ?_) ?_) | (refine NX.k 7 ?_; first | refine NX.one (One.concatM hA rfl rfl rfl ?_) ?_) | (refine NX.k 9 ?_; first | refine NX.one (One.neBoolM hA tabOk rfl rfl rfl rfl rfl) ?_) | (refine NX.k 10 ?_; first | refine NX.one (One.lenOwnM hA tabOk rfl rfl rfl rfl) ?_) | (refine NX.k 14 ?_; first | refine NX.one (One.loadRatM hA tabOk rfl rfl rfl rfl rfl rfl ?_) ?_)) <;> (first | refine AOLg.pass ?_ | (((try simp only [zn]) <;> (try simp (disch := omega) only [zz hA, zb, zy, reduceCtorEq, Bool.false_eq_true, Int.reduceLT, Int.reduceLE, Int.reduceNeg]) <;> (try simp only [zw])) <;> omega)))
          | refine NX.raw ?_)
      | (refine TRg.pass ?_; refine TRg.nx hA tabOk (by conv => lhs; cbv) ?_; first
          | refine TX.done ?_
          | refine TX.gt ?_
          | refine TX.gf ?_
          | (refine TX.gs ?_ ?_ <;> intro hc <;> rw [hc] <;> ((try simp only [zn] at hc) <;> (try simp (disch := omega) only [zz hA, zb, zy, reduceCtorEq, Bool.false_eq_true, Int.reduceLT, Int.reduceLE, Int.reduceNeg] at hc) <;> (try simp only [zw] at hc)) <;> (try (exfalso; omega)))
          | ((first | (refine TX.k 1 ?_; first | refine TX.one (One.elemM hA tabOk rfl rfl rfl rfl ?_ ?_) ?_ | refine TX.one (One.elemOwnM hA tabOk rfl rfl rfl rfl rfl ?_ ?_) ?_) | (refine TX.k 7 ?_; first | refine TX.one (One.concatM hA rfl rfl rfl ?_) ?_) | (refine TX.k 9 ?_; first | refine TX.one (One.neBoolM hA tabOk rfl rfl rfl rfl rfl) ?_) | (refine TX.k 10 ?_; first | refine TX.one (One.lenOwnM hA tabOk rfl rfl rfl rfl) ?_) | (refine TX.k 14 ?_; first | refine TX.one (One.loadRatM hA tabOk rfl rfl rfl rfl rfl rfl ?_) ?_)) <;> (first | refine TRg.pass ?_ | (((try simp only [zn]) <;> (try simp (disch := omega) only [zz hA, zb, zy, reduceCtorEq, Bool.false_eq_true, Int.reduceLT, Int.reduceLE, Int.reduceNeg]) <;> (try simp only [zw])) <;> omega)))
          | refine TX.raw ?_)
      | refine Fin3.of (by conv => lhs; cbv) (by repeat' (first | exact True.intro | exact rfl | refine And.intro ?_ ?_)) ?_ ?_
      | (refine AllO.pass ?_; first
          | exact AllO.nil
          | (refine AllO.cons (One.ev hA tabOk ?_) ?_ <;> (first | refine AllO.pass ?_ | ((conv => lhs; cbv); done)))
          | (refine AllO.cons (One.skipB ?_) ?_ <;> (first | refine AllO.pass ?_ | ((conv => lhs; cbv); done)))
          | ((first | refine AllO.consX (One.elemM hA tabOk rfl rfl rfl rfl ?_ ?_) rfl rfl ?_ | refine AllO.consX (One.concatM hA rfl rfl rfl ?_) rfl rfl ?_ | refine AllO.consX (One.lenOwnM hA tabOk rfl rfl rfl rfl) rfl rfl ?_ | refine AllO.consX (One.elemOwnM hA tabOk rfl rfl rfl rfl rfl ?_ ?_) rfl rfl ?_ | refine AllO.consX (One.loadRatM hA tabOk rfl rfl rfl rfl rfl rfl ?_) rfl rfl ?_) <;> (first | refine AllO.pass ?_ | (((try simp only [zn]) <;> (try simp (disch := omega) only [zz hA, zb, zy, reduceCtorEq, Bool.false_eq_true, Int.reduceLT, Int.reduceLE, Int.reduceNeg]) <;> (try simp only [zw])) <;> omega))))
      | refine Thn.exit ?_
      | refine Blk.here ?_
      | refine Blk.other (by decide) ?_
      | refine ⟨.inl rfl, _, RetOk.ev tabOk (by conv => lhs; cbv), ?_⟩
      | fail)
    refine rPV_then (by conv => lhs; cbv) ?_
    rfl
set_option maxHeartbeats 4000000 in
theorem rVars_c (E : List Nd) (hE : E.length ≤ 1000000) : PureCalls Try.prog 18 [slP A 3 (encD A) E] (slP A 1 encS (varsD E)) := by
  refine PureCalls.of Try.func18 rfl (by kernel_rfl) rfl ?_
  try first | refine AOLg.of [3] ?_ | refine QSg.of [3] ?_
  repeat' (first
    | (refine AWp.pass ?_; first
        | refine AWp.seq ?_
        | refine AWp.block ?_
        | refine AWp.skip ?_
        | refine AWp.regG [3] (by conv => lhs; cbv) ?_
        | refine AWp.cond_t rfl ?_
        | refine AWp.cond_f rfl ?_
        | (refine AWp.cond rfl ?_ ?_ <;> intro hc <;> (try rw [hc]) <;> ((try simp only [zn] at hc) <;> (try simp (disch := omega) only [zz hA, zb, zy, reduceCtorEq, Bool.false_eq_true, Int.reduceLT, Int.reduceLE, Int.reduceNeg] at hc) <;> (try simp only [zw] at hc)) <;> (try (exfalso; omega)))
        | refine AWp.exit ?_
        | refine AWp.ret ⟨.inr rfl, _, RetOk.ev tabOk (by conv => lhs; cbv), ?_⟩)
    | (refine AOLg.pass ?_; refine AOLg.nx hA tabOk (by conv => lhs; cbv) ?_; first
        | refine NX.done ?_
        | refine NX.gt ?_
        | refine NX.gf ?_
        | (refine NX.gs ?_ ?_ <;> intro hc <;> rw [hc] <;> ((try simp only [zn] at hc) <;> (try simp (disch := omega) only [zz hA, zb, zy, reduceCtorEq, Bool.false_eq_true, Int.reduceLT, Int.reduceLE, Int.reduceNeg] at hc) <;> (try simp only [zw] at hc)) <;> (try (exfalso; omega)))
        | ((first | (refine NX.k 1 ?_; first | refine NX.one (One.elemM hA tabOk rfl rfl rfl rfl ?_ ?_) ?_ | refine NX.one (One.elemOwnM hA tabOk rfl rfl rfl rfl rfl ?_ ?_) ?_) | (refine NX.k 7 ?_; first | refine NX.one (One.concatM hA rfl rfl rfl ?_) ?_) | (refine NX.k 8 ?_; first | refine NX.one (One.eqBoolM hA tabOk rfl rfl rfl rfl rfl) ?_) | (refine NX.k 10 ?_; first | refine NX.one (One.lenOwnM hA tabOk rfl rfl rfl rfl) ?_) | (refine NX.k 11 ?_; first | refine NX.one (One.appendM hA tabOk _ rfl rfl rfl rfl rfl rfl ?_ ?_) ?_ | refine NX.one (One.appendMM hA tabOk rfl rfl rfl rfl rfl ?_ ?_) ?_ | refine NX.one (One.appendOwnM hA tabOk _ rfl rfl rfl rfl rfl rfl rfl ?_ ?_) ?_ | refine NX.one (One.appendOwnMM hA tabOk rfl rfl rfl rfl rfl rfl ?_ ?_) ?_ | refine NX.one (One.appendOwn0 hA tabOk rfl rfl rfl rfl rfl rfl ?_ ?_) ?_) | (refine NX.k 14 ?_; first | refine NX.one (One.loadRatM hA tabOk rfl rfl rfl rfl rfl rfl ?_) ?_) | (refine NX.k 17 ?_; first | refine NX.one (One.build0 tabOk rfl rfl) ?_) | (refine NX.k 18 ?_; first | refine NX.one (One.fieldRat tabOk rfl rfl rfl rfl (by decide) rfl rfl) ?_)) <;> (first | refine AOLg.pass ?_ | (((try simp only [zn]) <;> (try simp (disch := omega) only [zz hA, zb, zy, reduceCtorEq, Bool.false_eq_true, Int.reduceLT, Int.reduceLE, Int.reduceNeg]) <;> (try simp only [zw])) <;> omega)))
        | (refine NX.one (One.nilOwn tabOk 3 34 rfl rfl rfl) ?_)
        | refine NX.raw ?_)
    | refine Thn.exit ?_
    | refine Blk.here ?_
    | refine Blk.other (by decide) ?_
    | refine ⟨.inl rfl, _, RetOk.ev tabOk (by conv => lhs; cbv), ?_⟩
    | fail)
  refine AWp.loopU (fun x : Nat × Nat => [(4, .ic (.lit (.int .i64 (hid A (cN x.1))))), (3, .own 0 x.2)]) (fun x => [.row true x.2 9 1 (hid A (List.map encS (varsN E x.1)))]) (fun x => E.length - x.1) (fun x => x.1 ≤ E.length) (0, 0) (by conv => lhs; cbv) (Nat.zero_le _) (.int rfl (by simp [hA, real, hid, cN]) (.cons rfl .nil)) (by
    ((try simp only [zn]) <;> (try simp (disch := omega) only [zz hA, zb, zy, reduceCtorEq, Bool.false_eq_true, Int.reduceLT, Int.reduceLE, Int.reduceNeg, hid_eq hA]) <;> (try simp only [zw]))
    rfl) ?_
  rintro ⟨i, v⟩ hi0
  simp only [] at hi0 ⊢
  have hvl := varsN_len E i
  by_cases hi : i < E.length
  · have hat : ∀ s', s' = ndS (E.getD i default) → PureCalls Try.prog 36 [slP A 1 encS (varsN E i), SP s'] (IP (hid A (idxS (varsN E i) (ndS (E.getD i default))))) := by
      rintro s' rfl; exact atT_c hA _ _ (by omega)
    have hn : varsN E (i + 1) = if ndK (E.getD i default) = 2 ∧ idxS (varsN E i) (ndS (E.getD i default)) < 0 then varsN E i ++ [ndS (E.getD i default)] else varsN E i := rfl
    have ek : ∀ q : Int, q = i → ndK (E.getD q.toNat default) = ndK (E.getD i default) := by rintro q rfl; rfl
    have es : hid A (ndS (hid A (E.getD (hid A (cN i)).toNat default))) = ndS (E.getD i default) := by simp only [hid_eq hA, cN_toNat]
    have ek2 : ndK (E.getD ((i : Int)).toNat default) = ndK (E.getD i default) := rfl
    generalize hs : ndS (E.getD i default) = s at *
    generalize hk : ndK (E.getD i default) = k at *
    generalize idxS (varsN E i) s = f at *
    generalize hV2 : varsN E (i + 1) = V2 at *
    generalize varsN E i = V at *
    try first | refine AOLg.of [] ?_ | refine QSg.of [] ?_
    repeat' (first
      | (refine AWp.pass ?_; first
          | refine AWp.seq ?_
          | refine AWp.block ?_
          | refine AWp.skip ?_
          | refine AWp.regG [] (by conv => lhs; cbv) ?_
          | refine AWp.cond_t rfl ?_
          | refine AWp.cond_f rfl ?_
          | (refine AWp.cond rfl ?_ ?_ <;> intro hc <;> (try rw [hc]) <;> ((try simp only [zn] at hc) <;> (try simp (disch := omega) only [zz hA, zb, zy, reduceCtorEq, Bool.false_eq_true, Int.reduceLT, Int.reduceLE, Int.reduceNeg] at hc) <;> (try simp only [zw] at hc)) <;> (try (exfalso; omega)))
          | refine AWp.exit ?_
          | refine AWp.ret ⟨.inr rfl, _, RetOk.ev tabOk (by conv => lhs; cbv), ?_⟩)
      | (refine AOLg.pass ?_; refine AOLg.nx hA tabOk (by conv => lhs; cbv) ?_; first
          | refine NX.done ?_
          | refine NX.gt ?_
          | refine NX.gf ?_
          | (refine NX.gs ?_ ?_ <;> intro hc <;> rw [hc] <;> ((try simp only [zn] at hc) <;> (try simp (disch := omega) only [zz hA, zb, zy, reduceCtorEq, Bool.false_eq_true, Int.reduceLT, Int.reduceLE, Int.reduceNeg] at hc) <;> (try simp only [zw] at hc)) <;> (try (exfalso; omega)))
          | (refine NX.kC ?_; first | (with_reducible refine NX.call (hat _ (by simp only [hid_eq hA, cN_toNat]; exact hs)) ?_) | ((first | refine NX.call (hat _ (by simp only [hid_eq hA, cN_toNat]; exact hs)) ?_)) | fail)
          | (refine NX.kO ?_; (first | refine NX.callO (hat _ (by simp only [hid_eq hA, cN_toNat]; exact hs)) (by simp [allEq]) rfl ?_))
          | ((first | (refine NX.k 1 ?_; first | refine NX.one (One.elemM hA tabOk rfl rfl rfl rfl ?_ ?_) ?_ | refine NX.one (One.elemOwnM hA tabOk rfl rfl rfl rfl rfl ?_ ?_) ?_) | (refine NX.k 7 ?_; first | refine NX.one (One.concatM hA rfl rfl rfl ?_) ?_) | (refine NX.k 8 ?_; first | refine NX.one (One.eqBoolM hA tabOk rfl rfl rfl rfl rfl) ?_) | (refine NX.k 10 ?_; first | refine NX.one (One.lenOwnM hA tabOk rfl rfl rfl rfl) ?_) | (refine NX.k 11 ?_; first | refine NX.one (One.appendM hA tabOk _ rfl rfl rfl rfl rfl rfl ?_ ?_) ?_ | refine NX.one (One.appendMM hA tabOk rfl rfl rfl rfl rfl ?_ ?_) ?_ | refine NX.one (One.appendOwnM hA tabOk _ rfl rfl rfl rfl rfl rfl rfl ?_ ?_) ?_ | refine NX.one (One.appendOwnMM hA tabOk rfl rfl rfl rfl rfl rfl ?_ ?_) ?_ | refine NX.one (One.appendOwn0 hA tabOk rfl rfl rfl rfl rfl rfl ?_ ?_) ?_) | (refine NX.k 14 ?_; first | refine NX.one (One.loadRatM hA tabOk rfl rfl rfl rfl rfl rfl ?_) ?_) | (refine NX.k 17 ?_; first | refine NX.one (One.build0 tabOk rfl rfl) ?_) | (refine NX.k 18 ?_; first | refine NX.one (One.fieldRat tabOk rfl rfl rfl rfl (by decide) rfl rfl) ?_)) <;> (first | refine AOLg.pass ?_ | (((try simp only [zn]) <;> (try simp (disch := omega) only [zz hA, zb, zy, reduceCtorEq, Bool.false_eq_true, Int.reduceLT, Int.reduceLE, Int.reduceNeg]) <;> (try simp only [zw])) <;> omega)))
          | refine NX.raw ?_)
      | refine Thn.exit ?_
      | refine Blk.here ?_
      | refine Blk.other (by decide) ?_
      | refine ⟨.inl rfl, _, RetOk.ev tabOk (by conv => lhs; cbv), ?_⟩
      | fail)
    · refine ⟨(i + 1, v + 1), by simp only; omega, by simp only; omega, rfl, ?_, ?_, (by repeat' (first | exact subE.nil | refine subE.cons rfl ?_))⟩
      · rw [if_pos ⟨by omega, by omega⟩] at hn
        simp only [hid_eq hA, hV2, hn, cN_toNat, hs]
      · exact .int rfl (by (((try simp only [zn]) <;> (try simp (disch := omega) only [zz hA, zb, zy, reduceCtorEq, Bool.false_eq_true, Int.reduceLT, Int.reduceLE, Int.reduceNeg]) <;> (try simp only [zw])) <;> omega)) (.cons rfl .nil)
    all_goals
      refine ⟨(i + 1, v), by simp only; omega, by simp only; omega, rfl, ?_, ?_, (by repeat' (first | exact subE.nil | refine subE.cons rfl ?_))⟩
      · rw [if_neg (by omega)] at hn
        simp only [hV2, hn]
      · exact .int rfl (by (((try simp only [zn]) <;> (try simp (disch := omega) only [zz hA, zb, zy, reduceCtorEq, Bool.false_eq_true, Int.reduceLT, Int.reduceLE, Int.reduceNeg]) <;> (try simp only [zw])) <;> omega)) (.cons rfl .nil)
  · obtain rfl : i = E.length := by omega
    try first | refine AOLg.of [] ?_ | refine QSg.of [] ?_
    repeat' (first
      | (refine AWp.pass ?_; first
          | refine AWp.seq ?_
          | refine AWp.block ?_
          | refine AWp.skip ?_
          | refine AWp.regG [] (by conv => lhs; cbv) ?_
          | refine AWp.cond_t rfl ?_
          | refine AWp.cond_f rfl ?_
          | (refine AWp.cond rfl ?_ ?_ <;> intro hc <;> (try rw [hc]) <;> ((try simp only [zn] at hc) <;> (try simp (disch := omega) only [zz hA, zb, zy, reduceCtorEq, Bool.false_eq_true, Int.reduceLT, Int.reduceLE, Int.reduceNeg] at hc) <;> (try simp only [zw] at hc)) <;> (try (exfalso; omega)))
          | refine AWp.exit ?_
          | refine AWp.ret ⟨.inr rfl, _, RetOk.ev tabOk (by conv => lhs; cbv), ?_⟩)
      | (refine AOLg.pass ?_; refine AOLg.nx hA tabOk (by conv => lhs; cbv) ?_; first
          | refine NX.done ?_
          | refine NX.gt ?_
          | refine NX.gf ?_
          | (refine NX.gs ?_ ?_ <;> intro hc <;> rw [hc] <;> ((try simp only [zn] at hc) <;> (try simp (disch := omega) only [zz hA, zb, zy, reduceCtorEq, Bool.false_eq_true, Int.reduceLT, Int.reduceLE, Int.reduceNeg] at hc) <;> (try simp only [zw] at hc)) <;> (try (exfalso; omega)))
          | ((first | (refine NX.k 1 ?_; first | refine NX.one (One.elemM hA tabOk rfl rfl rfl rfl ?_ ?_) ?_ | refine NX.one (One.elemOwnM hA tabOk rfl rfl rfl rfl rfl ?_ ?_) ?_) | (refine NX.k 7 ?_; first | refine NX.one (One.concatM hA rfl rfl rfl ?_) ?_) | (refine NX.k 8 ?_; first | refine NX.one (One.eqBoolM hA tabOk rfl rfl rfl rfl rfl) ?_) | (refine NX.k 10 ?_; first | refine NX.one (One.lenOwnM hA tabOk rfl rfl rfl rfl) ?_) | (refine NX.k 11 ?_; first | refine NX.one (One.appendM hA tabOk _ rfl rfl rfl rfl rfl rfl ?_ ?_) ?_ | refine NX.one (One.appendMM hA tabOk rfl rfl rfl rfl rfl ?_ ?_) ?_ | refine NX.one (One.appendOwnM hA tabOk _ rfl rfl rfl rfl rfl rfl rfl ?_ ?_) ?_ | refine NX.one (One.appendOwnMM hA tabOk rfl rfl rfl rfl rfl rfl ?_ ?_) ?_ | refine NX.one (One.appendOwn0 hA tabOk rfl rfl rfl rfl rfl rfl ?_ ?_) ?_) | (refine NX.k 14 ?_; first | refine NX.one (One.loadRatM hA tabOk rfl rfl rfl rfl rfl rfl ?_) ?_) | (refine NX.k 17 ?_; first | refine NX.one (One.build0 tabOk rfl rfl) ?_) | (refine NX.k 18 ?_; first | refine NX.one (One.fieldRat tabOk rfl rfl rfl rfl (by decide) rfl rfl) ?_)) <;> (first | refine AOLg.pass ?_ | (((try simp only [zn]) <;> (try simp (disch := omega) only [zz hA, zb, zy, reduceCtorEq, Bool.false_eq_true, Int.reduceLT, Int.reduceLE, Int.reduceNeg]) <;> (try simp only [zw])) <;> omega)))
          | refine NX.raw ?_)
      | refine Thn.exit ?_
      | refine Blk.here ?_
      | refine Blk.other (by decide) ?_
      | refine ⟨.inl rfl, _, RetOk.ev tabOk (by conv => lhs; cbv), ?_⟩
      | fail)
    exact (rPV_own rfl).trans rfl
set_option maxHeartbeats 4000000 in
theorem sVars_c (E : List Nd) (hE : E.length ≤ 1000000) : PureCalls Try.prog 17 [slP A 3 (encD A) E] (slP A 1 encS (varsD E)) := by
  refine PureCalls.of Try.func17 rfl (by kernel_rfl) rfl ?_
  try first | refine AOLg.of [3] ?_ | refine QSg.of [3] ?_
  repeat' (first
    | (refine AWp.pass ?_; first
        | refine AWp.seq ?_
        | refine AWp.block ?_
        | refine AWp.skip ?_
        | refine AWp.regG [3] (by conv => lhs; cbv) ?_
        | refine AWp.cond_t rfl ?_
        | refine AWp.cond_f rfl ?_
        | (refine AWp.cond rfl ?_ ?_ <;> intro hc <;> (try rw [hc]) <;> ((try simp only [zn] at hc) <;> (try simp (disch := omega) only [zz hA, zb, zy, reduceCtorEq, Bool.false_eq_true, Int.reduceLT, Int.reduceLE, Int.reduceNeg] at hc) <;> (try simp only [zw] at hc)) <;> (try (exfalso; omega)))
        | refine AWp.exit ?_
        | refine AWp.ret ⟨.inr rfl, _, RetOk.ev tabOk (by conv => lhs; cbv), ?_⟩)
    | (refine AOLg.pass ?_; refine AOLg.nx hA tabOk (by conv => lhs; cbv) ?_; first
        | refine NX.done ?_
        | refine NX.gt ?_
        | refine NX.gf ?_
        | (refine NX.gs ?_ ?_ <;> intro hc <;> rw [hc] <;> ((try simp only [zn] at hc) <;> (try simp (disch := omega) only [zz hA, zb, zy, reduceCtorEq, Bool.false_eq_true, Int.reduceLT, Int.reduceLE, Int.reduceNeg] at hc) <;> (try simp only [zw] at hc)) <;> (try (exfalso; omega)))
        | ((first | (refine NX.k 1 ?_; first | refine NX.one (One.elemM hA tabOk rfl rfl rfl rfl ?_ ?_) ?_ | refine NX.one (One.elemOwnM hA tabOk rfl rfl rfl rfl rfl ?_ ?_) ?_) | (refine NX.k 7 ?_; first | refine NX.one (One.concatM hA rfl rfl rfl ?_) ?_) | (refine NX.k 8 ?_; first | refine NX.one (One.eqBoolM hA tabOk rfl rfl rfl rfl rfl) ?_) | (refine NX.k 10 ?_; first | refine NX.one (One.lenOwnM hA tabOk rfl rfl rfl rfl) ?_) | (refine NX.k 11 ?_; first | refine NX.one (One.appendM hA tabOk _ rfl rfl rfl rfl rfl rfl ?_ ?_) ?_ | refine NX.one (One.appendMM hA tabOk rfl rfl rfl rfl rfl ?_ ?_) ?_ | refine NX.one (One.appendOwnM hA tabOk _ rfl rfl rfl rfl rfl rfl rfl ?_ ?_) ?_ | refine NX.one (One.appendOwnMM hA tabOk rfl rfl rfl rfl rfl rfl ?_ ?_) ?_ | refine NX.one (One.appendOwn0 hA tabOk rfl rfl rfl rfl rfl rfl ?_ ?_) ?_) | (refine NX.k 14 ?_; first | refine NX.one (One.loadRatM hA tabOk rfl rfl rfl rfl rfl rfl ?_) ?_) | (refine NX.k 15 ?_; first | refine NX.one (One.storeRatM hA tabOk _ rfl rfl rfl rfl rfl rfl rfl rfl (fun _ => rfl) ?_) ?_) | (refine NX.k 17 ?_; first | refine NX.one (One.build0 tabOk rfl rfl) ?_) | (refine NX.k 18 ?_; first | refine NX.one (One.fieldRat tabOk rfl rfl rfl rfl (by decide) rfl rfl) ?_)) <;> (first | refine AOLg.pass ?_ | (((try simp only [zn]) <;> (try simp (disch := omega) only [zz hA, zb, zy, reduceCtorEq, Bool.false_eq_true, Int.reduceLT, Int.reduceLE, Int.reduceNeg]) <;> (try simp only [zw])) <;> omega)))
        | (refine NX.one (One.nilOwn tabOk 3 34 rfl rfl rfl) ?_)
        | refine NX.raw ?_)
    | refine Thn.exit ?_
    | refine Blk.here ?_
    | refine Blk.other (by decide) ?_
    | refine ⟨.inl rfl, _, RetOk.ev tabOk (by conv => lhs; cbv), ?_⟩
    | fail)
  refine AWp.loopT 1 (fun x : Nat × Nat => [(8, .ic (.lit (.int .i64 (hid A (cN x.1))))), (3, .own 0 x.2)]) (fun x => [.row true x.2 9 1 (hid A (List.map encS (varsN E x.1)))]) (fun x => E.length - x.1) (fun x => x.1 ≤ E.length) (0, 0) (by conv => lhs; cbv) (Nat.zero_le _) (.int rfl (by simp [hA, real, hid, cN]) (.cons rfl .nil)) (by
    ((try simp only [zn]) <;> (try simp (disch := omega) only [zz hA, zb, zy, reduceCtorEq, Bool.false_eq_true, Int.reduceLT, Int.reduceLE, Int.reduceNeg, hid_eq hA]) <;> (try simp only [zw]))
    rfl) (fun _ => rfl) (fun _ => rfl) ?_
  rintro ⟨i, v⟩ hi0
  simp only [] at hi0 ⊢
  have hvl := varsN_len E i
  by_cases hi : i < E.length
  · have hat : ∀ s', s' = ndS (E.getD i default) → PureCalls Try.prog 35 [slP A 1 encS (varsN E i), SP s'] (BP (hid A (decide (0 ≤ idxS (varsN E i) (ndS (E.getD i default)))))) := by
      rintro s' rfl; exact containsT_c hA _ _ (by omega)
    have hn : varsN E (i + 1) = if ndK (E.getD i default) = 2 ∧ idxS (varsN E i) (ndS (E.getD i default)) < 0 then varsN E i ++ [ndS (E.getD i default)] else varsN E i := rfl
    generalize hs : ndS (E.getD i default) = s at *
    generalize hk : ndK (E.getD i default) = k at *
    generalize idxS (varsN E i) s = f at *
    generalize hV2 : varsN E (i + 1) = V2 at *
    generalize varsN E i = V at *
    by_cases hf : 0 ≤ f
    · rw [decide_eq_true hf] at hat
      rw [hid_eq hA (α := Bool)] at hat
      try first | refine AOLg.of [] ?_ | refine QSg.of [] ?_
      repeat' (first
        | (refine AWp.pass ?_; first
            | refine AWp.seq ?_
            | refine AWp.block ?_
            | refine AWp.skip ?_
            | refine AWp.regG [] (by conv => lhs; cbv) ?_
            | refine AWp.cond_t rfl ?_
            | refine AWp.cond_f rfl ?_
            | (refine AWp.cond rfl ?_ ?_ <;> intro hc <;> (try rw [hc]) <;> ((try simp only [zn] at hc) <;> (try simp (disch := omega) only [zz hA, zb, zy, reduceCtorEq, Bool.false_eq_true, Int.reduceLT, Int.reduceLE, Int.reduceNeg] at hc) <;> (try simp only [zw] at hc)) <;> (try (exfalso; omega)))
            | refine AWp.exit ?_
            | refine AWp.ret ⟨.inr rfl, _, RetOk.ev tabOk (by conv => lhs; cbv), ?_⟩)
        | (refine AOLg.pass ?_; refine AOLg.nx hA tabOk (by conv => lhs; cbv) ?_; first
            | refine NX.done ?_
            | refine NX.gt ?_
            | refine NX.gf ?_
            | (refine NX.gs ?_ ?_ <;> intro hc <;> rw [hc] <;> ((try simp only [zn] at hc) <;> (try simp (disch := omega) only [zz hA, zb, zy, reduceCtorEq, Bool.false_eq_true, Int.reduceLT, Int.reduceLE, Int.reduceNeg] at hc) <;> (try simp only [zw] at hc)) <;> (try (exfalso; omega)))
            | (refine NX.kC ?_; first | (with_reducible refine NX.call (hat _ (by simp only [hid_eq hA, cN_toNat]; exact hs)) ?_) | ((first | refine NX.call (hat _ (by simp only [hid_eq hA, cN_toNat]; exact hs)) ?_)) | fail)
            | (refine NX.kO ?_; (first | refine NX.callO (hat _ (by simp only [hid_eq hA, cN_toNat]; exact hs)) (by simp [allEq]) rfl ?_))
            | ((first | (refine NX.k 1 ?_; first | refine NX.one (One.elemM hA tabOk rfl rfl rfl rfl ?_ ?_) ?_ | refine NX.one (One.elemOwnM hA tabOk rfl rfl rfl rfl rfl ?_ ?_) ?_) | (refine NX.k 7 ?_; first | refine NX.one (One.concatM hA rfl rfl rfl ?_) ?_) | (refine NX.k 8 ?_; first | refine NX.one (One.eqBoolM hA tabOk rfl rfl rfl rfl rfl) ?_) | (refine NX.k 10 ?_; first | refine NX.one (One.lenOwnM hA tabOk rfl rfl rfl rfl) ?_) | (refine NX.k 11 ?_; first | refine NX.one (One.appendM hA tabOk _ rfl rfl rfl rfl rfl rfl ?_ ?_) ?_ | refine NX.one (One.appendMM hA tabOk rfl rfl rfl rfl rfl ?_ ?_) ?_ | refine NX.one (One.appendOwnM hA tabOk _ rfl rfl rfl rfl rfl rfl rfl ?_ ?_) ?_ | refine NX.one (One.appendOwnMM hA tabOk rfl rfl rfl rfl rfl rfl ?_ ?_) ?_ | refine NX.one (One.appendOwn0 hA tabOk rfl rfl rfl rfl rfl rfl ?_ ?_) ?_) | (refine NX.k 14 ?_; first | refine NX.one (One.loadRatM hA tabOk rfl rfl rfl rfl rfl rfl ?_) ?_) | (refine NX.k 15 ?_; first | refine NX.one (One.storeRatM hA tabOk _ rfl rfl rfl rfl rfl rfl rfl rfl (fun _ => rfl) ?_) ?_) | (refine NX.k 17 ?_; first | refine NX.one (One.build0 tabOk rfl rfl) ?_) | (refine NX.k 18 ?_; first | refine NX.one (One.fieldRat tabOk rfl rfl rfl rfl (by decide) rfl rfl) ?_)) <;> (first | refine AOLg.pass ?_ | (((try simp only [zn]) <;> (try simp (disch := omega) only [zz hA, zb, zy, reduceCtorEq, Bool.false_eq_true, Int.reduceLT, Int.reduceLE, Int.reduceNeg]) <;> (try simp only [zw])) <;> omega)))
            | refine NX.raw ?_)
        | refine Thn.exit ?_
        | refine Blk.here ?_
        | refine Blk.other (by decide) ?_
        | refine ⟨.inl rfl, _, RetOk.ev tabOk (by conv => lhs; cbv), ?_⟩
        | fail)
      all_goals
        refine ⟨(i + 1, v), by simp only; omega, by simp only; omega, rfl, rfl, (by repeat' (first | exact trimOk.nil | refine trimOk.same ?_ | refine trimOk.turn rfl ?_)), ?_, rfl, ?_, (by repeat' (first | exact subE.nil | refine subE.cons rfl ?_))⟩
        · rw [if_neg (by omega)] at hn
          simp only [hV2, hn]
          rfl
        · exact .int rfl (by (((try simp only [zn]) <;> (try simp (disch := omega) only [zz hA, zb, zy, reduceCtorEq, Bool.false_eq_true, Int.reduceLT, Int.reduceLE, Int.reduceNeg]) <;> (try simp only [zw])) <;> omega)) (.cons rfl .nil)
    · rw [decide_eq_false hf] at hat
      rw [hid_eq hA (α := Bool)] at hat
      try first | refine AOLg.of [] ?_ | refine QSg.of [] ?_
      repeat' (first
        | (refine AWp.pass ?_; first
            | refine AWp.seq ?_
            | refine AWp.block ?_
            | refine AWp.skip ?_
            | refine AWp.regG [] (by conv => lhs; cbv) ?_
            | refine AWp.cond_t rfl ?_
            | refine AWp.cond_f rfl ?_
            | (refine AWp.cond rfl ?_ ?_ <;> intro hc <;> (try rw [hc]) <;> ((try simp only [zn] at hc) <;> (try simp (disch := omega) only [zz hA, zb, zy, reduceCtorEq, Bool.false_eq_true, Int.reduceLT, Int.reduceLE, Int.reduceNeg] at hc) <;> (try simp only [zw] at hc)) <;> (try (exfalso; omega)))
            | refine AWp.exit ?_
            | refine AWp.ret ⟨.inr rfl, _, RetOk.ev tabOk (by conv => lhs; cbv), ?_⟩)
        | (refine AOLg.pass ?_; refine AOLg.nx hA tabOk (by conv => lhs; cbv) ?_; first
            | refine NX.done ?_
            | refine NX.gt ?_
            | refine NX.gf ?_
            | (refine NX.gs ?_ ?_ <;> intro hc <;> rw [hc] <;> ((try simp only [zn] at hc) <;> (try simp (disch := omega) only [zz hA, zb, zy, reduceCtorEq, Bool.false_eq_true, Int.reduceLT, Int.reduceLE, Int.reduceNeg] at hc) <;> (try simp only [zw] at hc)) <;> (try (exfalso; omega)))
            | (refine NX.kC ?_; first | (with_reducible refine NX.call (hat _ (by simp only [hid_eq hA, cN_toNat]; exact hs)) ?_) | ((first | refine NX.call (hat _ (by simp only [hid_eq hA, cN_toNat]; exact hs)) ?_)) | fail)
            | (refine NX.kO ?_; (first | refine NX.callO (hat _ (by simp only [hid_eq hA, cN_toNat]; exact hs)) (by simp [allEq]) rfl ?_))
            | ((first | (refine NX.k 1 ?_; first | refine NX.one (One.elemM hA tabOk rfl rfl rfl rfl ?_ ?_) ?_ | refine NX.one (One.elemOwnM hA tabOk rfl rfl rfl rfl rfl ?_ ?_) ?_) | (refine NX.k 7 ?_; first | refine NX.one (One.concatM hA rfl rfl rfl ?_) ?_) | (refine NX.k 8 ?_; first | refine NX.one (One.eqBoolM hA tabOk rfl rfl rfl rfl rfl) ?_) | (refine NX.k 10 ?_; first | refine NX.one (One.lenOwnM hA tabOk rfl rfl rfl rfl) ?_) | (refine NX.k 11 ?_; first | refine NX.one (One.appendM hA tabOk _ rfl rfl rfl rfl rfl rfl ?_ ?_) ?_ | refine NX.one (One.appendMM hA tabOk rfl rfl rfl rfl rfl ?_ ?_) ?_ | refine NX.one (One.appendOwnM hA tabOk _ rfl rfl rfl rfl rfl rfl rfl ?_ ?_) ?_ | refine NX.one (One.appendOwnMM hA tabOk rfl rfl rfl rfl rfl rfl ?_ ?_) ?_ | refine NX.one (One.appendOwn0 hA tabOk rfl rfl rfl rfl rfl rfl ?_ ?_) ?_) | (refine NX.k 14 ?_; first | refine NX.one (One.loadRatM hA tabOk rfl rfl rfl rfl rfl rfl ?_) ?_) | (refine NX.k 15 ?_; first | refine NX.one (One.storeRatM hA tabOk _ rfl rfl rfl rfl rfl rfl rfl rfl (fun _ => rfl) ?_) ?_) | (refine NX.k 17 ?_; first | refine NX.one (One.build0 tabOk rfl rfl) ?_) | (refine NX.k 18 ?_; first | refine NX.one (One.fieldRat tabOk rfl rfl rfl rfl (by decide) rfl rfl) ?_)) <;> (first | refine AOLg.pass ?_ | (((try simp only [zn]) <;> (try simp (disch := omega) only [zz hA, zb, zy, reduceCtorEq, Bool.false_eq_true, Int.reduceLT, Int.reduceLE, Int.reduceNeg]) <;> (try simp only [zw])) <;> omega)))
            | refine NX.raw ?_)
        | refine Thn.exit ?_
        | refine Blk.here ?_
        | refine Blk.other (by decide) ?_
        | refine ⟨.inl rfl, _, RetOk.ev tabOk (by conv => lhs; cbv), ?_⟩
        | fail)
      · refine ⟨(i + 1, v + 1), by simp only; omega, by simp only; omega, rfl, rfl, (by repeat' (first | exact trimOk.nil | refine trimOk.same ?_ | refine trimOk.turn rfl ?_)), ?_, rfl, ?_, (by repeat' (first | exact subE.nil | refine subE.cons rfl ?_))⟩
        · rw [if_pos ⟨by omega, by omega⟩] at hn
          simp only [hid_eq hA, hV2, hn, cN_toNat, hs]
          rfl
        · exact .int rfl (by (((try simp only [zn]) <;> (try simp (disch := omega) only [zz hA, zb, zy, reduceCtorEq, Bool.false_eq_true, Int.reduceLT, Int.reduceLE, Int.reduceNeg]) <;> (try simp only [zw])) <;> omega)) (.cons rfl .nil)
      · refine ⟨(i + 1, v), by simp only; omega, by simp only; omega, rfl, rfl, (by repeat' (first | exact trimOk.nil | refine trimOk.same ?_ | refine trimOk.turn rfl ?_)), ?_, rfl, ?_, (by repeat' (first | exact subE.nil | refine subE.cons rfl ?_))⟩
        · rw [if_neg (by omega)] at hn
          simp only [hV2, hn]
          rfl
        · exact .int rfl (by (((try simp only [zn]) <;> (try simp (disch := omega) only [zz hA, zb, zy, reduceCtorEq, Bool.false_eq_true, Int.reduceLT, Int.reduceLE, Int.reduceNeg]) <;> (try simp only [zw])) <;> omega)) (.cons rfl .nil)
  · obtain rfl : i = E.length := by omega
    try first | refine AOLg.of [] ?_ | refine QSg.of [] ?_
    repeat' (first
      | (refine AWp.pass ?_; first
          | refine AWp.seq ?_
          | refine AWp.block ?_
          | refine AWp.skip ?_
          | refine AWp.regG [] (by conv => lhs; cbv) ?_
          | refine AWp.cond_t rfl ?_
          | refine AWp.cond_f rfl ?_
          | (refine AWp.cond rfl ?_ ?_ <;> intro hc <;> (try rw [hc]) <;> ((try simp only [zn] at hc) <;> (try simp (disch := omega) only [zz hA, zb, zy, reduceCtorEq, Bool.false_eq_true, Int.reduceLT, Int.reduceLE, Int.reduceNeg] at hc) <;> (try simp only [zw] at hc)) <;> (try (exfalso; omega)))
          | refine AWp.exit ?_
          | refine AWp.ret ⟨.inr rfl, _, RetOk.ev tabOk (by conv => lhs; cbv), ?_⟩)
      | (refine AOLg.pass ?_; refine AOLg.nx hA tabOk (by conv => lhs; cbv) ?_; first
          | refine NX.done ?_
          | refine NX.gt ?_
          | refine NX.gf ?_
          | (refine NX.gs ?_ ?_ <;> intro hc <;> rw [hc] <;> ((try simp only [zn] at hc) <;> (try simp (disch := omega) only [zz hA, zb, zy, reduceCtorEq, Bool.false_eq_true, Int.reduceLT, Int.reduceLE, Int.reduceNeg] at hc) <;> (try simp only [zw] at hc)) <;> (try (exfalso; omega)))
          | ((first | (refine NX.k 1 ?_; first | refine NX.one (One.elemM hA tabOk rfl rfl rfl rfl ?_ ?_) ?_ | refine NX.one (One.elemOwnM hA tabOk rfl rfl rfl rfl rfl ?_ ?_) ?_) | (refine NX.k 7 ?_; first | refine NX.one (One.concatM hA rfl rfl rfl ?_) ?_) | (refine NX.k 8 ?_; first | refine NX.one (One.eqBoolM hA tabOk rfl rfl rfl rfl rfl) ?_) | (refine NX.k 10 ?_; first | refine NX.one (One.lenOwnM hA tabOk rfl rfl rfl rfl) ?_) | (refine NX.k 11 ?_; first | refine NX.one (One.appendM hA tabOk _ rfl rfl rfl rfl rfl rfl ?_ ?_) ?_ | refine NX.one (One.appendMM hA tabOk rfl rfl rfl rfl rfl ?_ ?_) ?_ | refine NX.one (One.appendOwnM hA tabOk _ rfl rfl rfl rfl rfl rfl rfl ?_ ?_) ?_ | refine NX.one (One.appendOwnMM hA tabOk rfl rfl rfl rfl rfl rfl ?_ ?_) ?_ | refine NX.one (One.appendOwn0 hA tabOk rfl rfl rfl rfl rfl rfl ?_ ?_) ?_) | (refine NX.k 14 ?_; first | refine NX.one (One.loadRatM hA tabOk rfl rfl rfl rfl rfl rfl ?_) ?_) | (refine NX.k 15 ?_; first | refine NX.one (One.storeRatM hA tabOk _ rfl rfl rfl rfl rfl rfl rfl rfl (fun _ => rfl) ?_) ?_) | (refine NX.k 17 ?_; first | refine NX.one (One.build0 tabOk rfl rfl) ?_) | (refine NX.k 18 ?_; first | refine NX.one (One.fieldRat tabOk rfl rfl rfl rfl (by decide) rfl rfl) ?_)) <;> (first | refine AOLg.pass ?_ | (((try simp only [zn]) <;> (try simp (disch := omega) only [zz hA, zb, zy, reduceCtorEq, Bool.false_eq_true, Int.reduceLT, Int.reduceLE, Int.reduceNeg]) <;> (try simp only [zw])) <;> omega)))
          | refine NX.raw ?_)
      | refine Thn.exit ?_
      | refine Blk.here ?_
      | refine Blk.other (by decide) ?_
      | refine ⟨.inl rfl, _, RetOk.ev tabOk (by conv => lhs; cbv), ?_⟩
      | fail)
    exact (rPV_own rfl).trans rfl
end Go.Proofs.Ytgemcogfpkolfaa.Aw

/- Contracts of the statements of side: the document's example, and what they are asked of. -/
set_option linter.unusedVariables false
set_option linter.unusedSimpArgs false
set_option linter.unusedSectionVars false
namespace Go.Proofs.Ytgemcogfpkolfaa.Aw
open Go Go.RowKit
set_option maxRecDepth 10000
attribute [local irreducible] AWp AOL QS One AOLg QSg NX QX TRg TX AllO Fin3
theorem One.bytesK {r : Option Nat} {P : Program} {ops : Array Oper} {i : Nat} {s : St} {tab : List TI} {A : Ar} (hA : A = real) (hT : TabOk P tab) {src dst e : TypeId} {j q : TI} {x : Operand} {ex : Bool} {l : List Int} {rows : List (List IC)} {b : ByteArray} (hb : mkS l = b) (h : opAt ops i s = some (.convert src dst x)) (hs : slT tab src = some (e, j)) (he : j.k = .int .u8) (hd : tiAt tab dst = some q) (hq : q.k = .string)
    (hx : s.ev x = .ic (.sl 1 ex rows)) (hr : rows = hid A (List.map encU l)) : One r P ops i s (.ic (.lit (.string b))) s.st := by
  have := One.bytesM (r := r) hA hT h hs he hd hq hx hr
  rwa [hid_eq hA, hb] at this
def shL : List Sg := [({ data := #[99] }, { data := #[45] })]
def shE : List Nd := [(2, { data := #[88] }, 0), (3, { data := #[99] }, 1)]
theorem shFind : findG shL { data := #[99] } = 0 := idxB_at (n := 1) (i := 0) (by decide) (by simp [eqS, shL, sgN]) (by simp)
theorem shGood : goodD shE ∧ manyD shE shE.length = 1 := by
  refine ⟨fun i hi => ?_, by decide⟩
  have hi : i < 2 := hi
  have : i = 0 ∨ i = 1 := by omega
  rcases this with rfl | rfl
  · decide
  · decide
theorem shSides : sidesD shL shE 76 = [82, 76] := by
  have hk : knownD shL 3 { data := #[99] } 1 = true := by unfold knownD; rw [shFind]; decide
  have hv : varyD shL 3 { data := #[99] } 1 0 = 45 := by unfold varyD; rw [hk, shFind]; decide
  have h1 : sdM shL shE (stD shE 2) 76 1 = [82, 76] := by
    show setsD [0, 76] [0] (fun k => turnD 76 (varyD shL 3 { data := #[99] } 1 k)) [0] = _
    simp only [setsD, List.foldl_cons, List.foldl_nil, hv]
    decide
  show sdStep shL shE (stD shE 2) (sdM shL shE (stD shE 2) 76 1) 0 = _
  rw [h1]
  rfl
theorem shCheck : checkW shL shE (sidesD shL shE 76) = 0 := by
  rw [shSides]
  have hk : knownD shL 3 { data := #[99] } 1 = true := by unfold knownD; rw [shFind]; decide
  refine (check_ok (l := shL) (E := shE) fun j hj => ?_).2
  have hj : j < 2 := hj
  have : j = 0 ∨ j = 1 := by omega
  rcases this with rfl | rfl
  · show wrongD shL 2 _ 0 82 = 0
    rfl
  · show wrongD shL 3 { data := #[99] } 1 76 = 0
    unfold wrongD
    rw [shFind, hk]
    decide
theorem shVars : (varsD shE).length = 1 := by
  have h0 : varsN shE 1 = [{ data := #[88] }] := rfl
  have h1 : varsN shE 2 = varsN shE 1 := by
    rw [varsN]
    exact if_neg fun h => absurd h.1 (by decide)
  show (varsN shE 2).length = 1
  rw [h1, h0]
  rfl
def of8M (l : List Sg) (E : List Nd) : Bool := ((decide (l.length ≤ 64) && rightG l) && fewD E) && rightD E
theorem of8M_st {l : List Sg} {E : List Nd} (h : of8M l E = true) : l.length ≤ 64 ∧ E.length ≤ 600 ∧ goodD E ∧ manyD E E.length = 1 ∧ 1 ≤ E.length := by
  unfold of8M fewD at h
  simp only [Bool.and_eq_true, decide_eq_true_eq] at h
  have := rightD_good h.2
  have := wtD_len E
  exact ⟨h.1.1.1, by omega, rightD_good h.2⟩
variable {A : Ar} (hA : A = real)
include hA
set_option maxHeartbeats 4000000 in
theorem shown8_c : PureCalls Try.prog 10 [] (BP true) := by
  have eL : slP A 2 (encG A) shL = .c (.sl 2 false [[.lit (.string { data := #[99] }), .lit (.string { data := #[45] })]]) := by simp [slP, hid_eq hA, encG, shL, sgN, sgA]
  have eE : slP A 3 (encD A) shE = .c (.sl 3 false [[.lit (.int .i64 2), .lit (.string { data := #[88] }), .lit (.int .i64 0)], [.lit (.int .i64 3), .lit (.string { data := #[99] }), .lit (.int .i64 1)]]) := by simp [slP, hid_eq hA, encD, shE, ndK, ndS, ndN]
  have hf : FitG shL := by unfold FitG shL; simp; decide
  have hc := sCheck_c hA shL shE 76 (by decide) hf shGood.1 shGood.2 (by decide)
  have ho := sOf_c hA shL shE 76 (by decide) hf shGood.1 shGood.2 (by decide)
  have hv := sVars_c hA shE (by decide)
  have hvl := shVars
  rw [shCheck, eL, eE, hid_eq hA (α := Int) (x := 0)] at hc
  rw [shSides, eL, eE] at ho
  rw [eE] at hv
  generalize varsD shE = V at *
  generalize checkA shL shE (sidesD shL shE 76) = ca at *
  refine PureCalls.of Try.func10 rfl (by kernel_rfl) rfl ?_
  try first | refine AOLg.of [] ?_ | refine QSg.of [] ?_
  repeat' (first
    | (refine AWp.pass ?_; first
        | refine AWp.seq ?_
        | refine AWp.block ?_
        | refine AWp.skip ?_
        | refine AWp.regG [] (by conv => lhs; cbv) ?_
        | refine AWp.cond_t rfl ?_
        | refine AWp.cond_f rfl ?_
        | (refine AWp.cond rfl ?_ ?_ <;> intro hc <;> (try rw [hc]) <;> ((try simp only [zn] at hc) <;> (try simp (disch := omega) only [zz hA, zb, zy, reduceCtorEq, Bool.false_eq_true, Int.reduceLT, Int.reduceLE, Int.reduceNeg] at hc) <;> (try simp only [zw] at hc)) <;> (try (exfalso; omega)))
        | refine AWp.exit ?_
        | refine AWp.ret ⟨.inr rfl, _, RetOk.ev tabOk (by conv => lhs; cbv), ?_⟩)
    | (refine AOLg.pass ?_; refine AOLg.nx hA tabOk (by conv => lhs; cbv) ?_; first
        | refine NX.done ?_
        | refine NX.gt ?_
        | refine NX.gf ?_
        | (refine NX.gs ?_ ?_ <;> intro hc <;> rw [hc] <;> ((try simp only [zn] at hc) <;> (try simp (disch := omega) only [zz hA, zb, zy, reduceCtorEq, Bool.false_eq_true, Int.reduceLT, Int.reduceLE, Int.reduceNeg] at hc) <;> (try simp only [zw] at hc)) <;> (try (exfalso; omega)))
        | (refine NX.kC ?_; first | (with_reducible refine NX.call (hc) ?_) | (with_reducible refine NX.call (ho) ?_) | (with_reducible refine NX.call (hv) ?_) | ((first | refine NX.call (hc) ?_ | refine NX.call (ho) ?_ | refine NX.call (hv) ?_)) | fail)
        | (refine NX.kO ?_; (first | refine NX.callO (hc) (by simp [allEq]) rfl ?_ | refine NX.callO (ho) (by simp [allEq]) rfl ?_ | refine NX.callO (hv) (by simp [allEq]) rfl ?_))
        | ((first | (refine NX.k 8 ?_; first | refine NX.one (One.eqBoolM hA tabOk rfl rfl rfl rfl rfl) ?_) | (refine NX.k 10 ?_; first | refine NX.one (One.lenOwnM hA tabOk rfl rfl rfl rfl) ?_) | (refine NX.k 17 ?_; first | refine NX.one (One.build0 tabOk rfl rfl) ?_)) <;> (first | refine AOLg.pass ?_ | (((try simp only [zn]) <;> (try simp (disch := omega) only [zz hA, zb, zy, reduceCtorEq, Bool.false_eq_true, Int.reduceLT, Int.reduceLE, Int.reduceNeg]) <;> (try simp only [zw])) <;> omega)))
        | (refine NX.one (One.bytesK (l := [82, 76]) (b := { data := #[82, 76] }) hA tabOk rfl rfl rfl rfl rfl rfl rfl rfl) ?_)
        | refine NX.raw ?_)
    | refine Thn.exit ?_
    | refine Blk.here ?_
    | refine Blk.other (by decide) ?_
    | refine ⟨.inl rfl, _, RetOk.ev tabOk (by conv => lhs; cbv), ?_⟩
    | fail)
  first | (exfalso; omega) | (refine rPV_then (by conv => lhs; cbv) ?_; rfl) | (refine rPV_then (by conv => lhs; cbv) ?_; refine congrArg (fun b => PV.c (IC.lit (Value.bool b))) ?_; ((try simp only [zn]) <;> (try simp (disch := omega) only [zz hA, zb, zy, reduceCtorEq, Bool.false_eq_true, Int.reduceLT, Int.reduceLE, Int.reduceNeg]) <;> (try simp only [zw])); done) | (refine rPV_then (by conv => lhs; cbv) ?_; refine congrArg (fun b => PV.c (IC.lit (Value.bool b))) ?_; ((try simp only [zn]) <;> (try simp (disch := omega) only [zz hA, zb, zy, reduceCtorEq, Bool.false_eq_true, Int.reduceLT, Int.reduceLE, Int.reduceNeg]) <;> (try simp only [zw])); omega) | fail
theorem of8_c (l : List Sg) (E : List Nd) (hsz : FitG l) (hsz2 : FitD E) : PureCalls Try.prog 11 [slP A 2 (encG A) l, slP A 3 (encD A) E] (BP (hid A (of8M l E))) := by
  have hr := sigRight_c hA l hsz
  have hw := few_c hA E hsz2
  have hd : wtD E ≤ 600 → _ := rRight_c hA E
  have ho : of8M l E = (((decide (l.length ≤ 64) && rightG l) && fewD E) && rightD E) := rfl
  have hfd : fewD E = true → wtD E ≤ 600 := fun h => of_decide_eq_true h
  generalize of8M l E = R at *
  generalize rightG l = b1 at *
  generalize fewD E = b2 at *
  generalize rightD E = b3 at *
  refine PureCalls.of Try.func11 rfl (by kernel_rfl) rfl ?_
  by_cases hl : l.length ≤ 64
  · rw [decide_eq_true hl] at ho
    cases b1 with
    | false =>
      rw [hid_eq hA (α := Bool)] at hr
      try first | refine AOLg.of [] ?_ | refine QSg.of [] ?_
      repeat' (first
        | (refine AWp.pass ?_; first
            | refine AWp.seq ?_
            | refine AWp.block ?_
            | refine AWp.skip ?_
            | refine AWp.regG [] (by conv => lhs; cbv) ?_
            | refine AWp.cond_t rfl ?_
            | refine AWp.cond_f rfl ?_
            | (refine AWp.cond rfl ?_ ?_ <;> intro hc <;> (try rw [hc]) <;> ((try simp only [zn] at hc) <;> (try simp (disch := omega) only [zz hA, zb, zy, reduceCtorEq, Bool.false_eq_true, Int.reduceLT, Int.reduceLE, Int.reduceNeg] at hc) <;> (try simp only [zw] at hc)) <;> (try (exfalso; omega)))
            | refine AWp.exit ?_
            | refine AWp.ret ⟨.inr rfl, _, RetOk.ev tabOk (by conv => lhs; cbv), ?_⟩)
        | (refine AOLg.pass ?_; refine AOLg.nx hA tabOk (by conv => lhs; cbv) ?_; first
            | refine NX.done ?_
            | refine NX.gt ?_
            | refine NX.gf ?_
            | (refine NX.gs ?_ ?_ <;> intro hc <;> rw [hc] <;> ((try simp only [zn] at hc) <;> (try simp (disch := omega) only [zz hA, zb, zy, reduceCtorEq, Bool.false_eq_true, Int.reduceLT, Int.reduceLE, Int.reduceNeg] at hc) <;> (try simp only [zw] at hc)) <;> (try (exfalso; omega)))
            | (refine NX.kC ?_; first | (with_reducible refine NX.call (hr) ?_) | ((first | refine NX.call (hr) ?_)) | fail)
            | (refine NX.kO ?_; (first | refine NX.callO (hr) (by simp [allEq]) rfl ?_))
            | ((first | (refine NX.k 10 ?_; first | refine NX.one (One.lenOwnM hA tabOk rfl rfl rfl rfl) ?_)) <;> (first | refine AOLg.pass ?_ | (((try simp only [zn]) <;> (try simp (disch := omega) only [zz hA, zb, zy, reduceCtorEq, Bool.false_eq_true, Int.reduceLT, Int.reduceLE, Int.reduceNeg]) <;> (try simp only [zw])) <;> omega)))
            | refine NX.raw ?_)
        | refine Thn.exit ?_
        | refine Blk.here ?_
        | refine Blk.other (by decide) ?_
        | refine ⟨.inl rfl, _, RetOk.ev tabOk (by conv => lhs; cbv), ?_⟩
        | fail)
      refine rPV_then (by conv => lhs; cbv) ?_
      rw [ho, hid_eq hA]; rfl
    | true =>
      rw [hid_eq hA (α := Bool)] at hr
      cases b2 with
      | false =>
        rw [hid_eq hA (α := Bool)] at hw
        try first | refine AOLg.of [] ?_ | refine QSg.of [] ?_
        repeat' (first
          | (refine AWp.pass ?_; first
              | refine AWp.seq ?_
              | refine AWp.block ?_
              | refine AWp.skip ?_
              | refine AWp.regG [] (by conv => lhs; cbv) ?_
              | refine AWp.cond_t rfl ?_
              | refine AWp.cond_f rfl ?_
              | (refine AWp.cond rfl ?_ ?_ <;> intro hc <;> (try rw [hc]) <;> ((try simp only [zn] at hc) <;> (try simp (disch := omega) only [zz hA, zb, zy, reduceCtorEq, Bool.false_eq_true, Int.reduceLT, Int.reduceLE, Int.reduceNeg] at hc) <;> (try simp only [zw] at hc)) <;> (try (exfalso; omega)))
              | refine AWp.exit ?_
              | refine AWp.ret ⟨.inr rfl, _, RetOk.ev tabOk (by conv => lhs; cbv), ?_⟩)
          | (refine AOLg.pass ?_; refine AOLg.nx hA tabOk (by conv => lhs; cbv) ?_; first
              | refine NX.done ?_
              | refine NX.gt ?_
              | refine NX.gf ?_
              | (refine NX.gs ?_ ?_ <;> intro hc <;> rw [hc] <;> ((try simp only [zn] at hc) <;> (try simp (disch := omega) only [zz hA, zb, zy, reduceCtorEq, Bool.false_eq_true, Int.reduceLT, Int.reduceLE, Int.reduceNeg] at hc) <;> (try simp only [zw] at hc)) <;> (try (exfalso; omega)))
              | (refine NX.kC ?_; first | (with_reducible refine NX.call (hr) ?_) | (with_reducible refine NX.call (hw) ?_) | ((first | refine NX.call (hr) ?_ | refine NX.call (hw) ?_)) | fail)
              | (refine NX.kO ?_; (first | refine NX.callO (hr) (by simp [allEq]) rfl ?_ | refine NX.callO (hw) (by simp [allEq]) rfl ?_))
              | ((first | (refine NX.k 10 ?_; first | refine NX.one (One.lenOwnM hA tabOk rfl rfl rfl rfl) ?_)) <;> (first | refine AOLg.pass ?_ | (((try simp only [zn]) <;> (try simp (disch := omega) only [zz hA, zb, zy, reduceCtorEq, Bool.false_eq_true, Int.reduceLT, Int.reduceLE, Int.reduceNeg]) <;> (try simp only [zw])) <;> omega)))
              | refine NX.raw ?_)
          | refine Thn.exit ?_
          | refine Blk.here ?_
          | refine Blk.other (by decide) ?_
          | refine ⟨.inl rfl, _, RetOk.ev tabOk (by conv => lhs; cbv), ?_⟩
          | fail)
        refine rPV_then (by conv => lhs; cbv) ?_
        rw [ho, hid_eq hA]; rfl
      | true =>
        rw [hid_eq hA (α := Bool)] at hw
        replace hd := hd (hfd rfl)
        try first | refine AOLg.of [] ?_ | refine QSg.of [] ?_
        repeat' (first
          | (refine AWp.pass ?_; first
              | refine AWp.seq ?_
              | refine AWp.block ?_
              | refine AWp.skip ?_
              | refine AWp.regG [] (by conv => lhs; cbv) ?_
              | refine AWp.cond_t rfl ?_
              | refine AWp.cond_f rfl ?_
              | (refine AWp.cond rfl ?_ ?_ <;> intro hc <;> (try rw [hc]) <;> ((try simp only [zn] at hc) <;> (try simp (disch := omega) only [zz hA, zb, zy, reduceCtorEq, Bool.false_eq_true, Int.reduceLT, Int.reduceLE, Int.reduceNeg] at hc) <;> (try simp only [zw] at hc)) <;> (try (exfalso; omega)))
              | refine AWp.exit ?_
              | refine AWp.ret ⟨.inr rfl, _, RetOk.ev tabOk (by conv => lhs; cbv), ?_⟩)
          | (refine AOLg.pass ?_; refine AOLg.nx hA tabOk (by conv => lhs; cbv) ?_; first
              | refine NX.done ?_
              | refine NX.gt ?_
              | refine NX.gf ?_
              | (refine NX.gs ?_ ?_ <;> intro hc <;> rw [hc] <;> ((try simp only [zn] at hc) <;> (try simp (disch := omega) only [zz hA, zb, zy, reduceCtorEq, Bool.false_eq_true, Int.reduceLT, Int.reduceLE, Int.reduceNeg] at hc) <;> (try simp only [zw] at hc)) <;> (try (exfalso; omega)))
              | (refine NX.kC ?_; first | (with_reducible refine NX.call (hr) ?_) | (with_reducible refine NX.call (hw) ?_) | (with_reducible refine NX.call (hd) ?_) | ((first | refine NX.call (hr) ?_ | refine NX.call (hw) ?_ | refine NX.call (hd) ?_)) | fail)
              | (refine NX.kO ?_; (first | refine NX.callO (hr) (by simp [allEq]) rfl ?_ | refine NX.callO (hw) (by simp [allEq]) rfl ?_ | refine NX.callO (hd) (by simp [allEq]) rfl ?_))
              | ((first | (refine NX.k 10 ?_; first | refine NX.one (One.lenOwnM hA tabOk rfl rfl rfl rfl) ?_)) <;> (first | refine AOLg.pass ?_ | (((try simp only [zn]) <;> (try simp (disch := omega) only [zz hA, zb, zy, reduceCtorEq, Bool.false_eq_true, Int.reduceLT, Int.reduceLE, Int.reduceNeg]) <;> (try simp only [zw])) <;> omega)))
              | refine NX.raw ?_)
          | refine Thn.exit ?_
          | refine Blk.here ?_
          | refine Blk.other (by decide) ?_
          | refine ⟨.inl rfl, _, RetOk.ev tabOk (by conv => lhs; cbv), ?_⟩
          | fail)
        refine rPV_then (by conv => lhs; cbv) ?_
        rw [ho]; simp [hid_eq hA]
  · rw [decide_eq_false hl] at ho
    try first | refine AOLg.of [] ?_ | refine QSg.of [] ?_
    repeat' (first
      | (refine AWp.pass ?_; first
          | refine AWp.seq ?_
          | refine AWp.block ?_
          | refine AWp.skip ?_
          | refine AWp.regG [] (by conv => lhs; cbv) ?_
          | refine AWp.cond_t rfl ?_
          | refine AWp.cond_f rfl ?_
          | (refine AWp.cond rfl ?_ ?_ <;> intro hc <;> (try rw [hc]) <;> ((try simp only [zn] at hc) <;> (try simp (disch := omega) only [zz hA, zb, zy, reduceCtorEq, Bool.false_eq_true, Int.reduceLT, Int.reduceLE, Int.reduceNeg] at hc) <;> (try simp only [zw] at hc)) <;> (try (exfalso; omega)))
          | refine AWp.exit ?_
          | refine AWp.ret ⟨.inr rfl, _, RetOk.ev tabOk (by conv => lhs; cbv), ?_⟩)
      | (refine AOLg.pass ?_; refine AOLg.nx hA tabOk (by conv => lhs; cbv) ?_; first
          | refine NX.done ?_
          | refine NX.gt ?_
          | refine NX.gf ?_
          | (refine NX.gs ?_ ?_ <;> intro hc <;> rw [hc] <;> ((try simp only [zn] at hc) <;> (try simp (disch := omega) only [zz hA, zb, zy, reduceCtorEq, Bool.false_eq_true, Int.reduceLT, Int.reduceLE, Int.reduceNeg] at hc) <;> (try simp only [zw] at hc)) <;> (try (exfalso; omega)))
          | ((first | (refine NX.k 10 ?_; first | refine NX.one (One.lenOwnM hA tabOk rfl rfl rfl rfl) ?_)) <;> (first | refine AOLg.pass ?_ | (((try simp only [zn]) <;> (try simp (disch := omega) only [zz hA, zb, zy, reduceCtorEq, Bool.false_eq_true, Int.reduceLT, Int.reduceLE, Int.reduceNeg]) <;> (try simp only [zw])) <;> omega)))
          | refine NX.raw ?_)
      | refine Thn.exit ?_
      | refine Blk.here ?_
      | refine Blk.other (by decide) ?_
      | refine ⟨.inl rfl, _, RetOk.ev tabOk (by conv => lhs; cbv), ?_⟩
      | fail)
    refine rPV_then (by conv => lhs; cbv) ?_
    rw [ho, hid_eq hA]; rfl
end Go.Proofs.Ytgemcogfpkolfaa.Aw

/- Laws SideTells, SideVars, SideUnknown. -/
set_option linter.unusedVariables false
set_option linter.unusedSimpArgs false
set_option linter.unusedSectionVars false
namespace Go.Proofs.Ytgemcogfpkolfaa.Aw
open Go Go.RowKit
set_option maxRecDepth 10000
attribute [local irreducible] AWp AOL QS One AOLg QSg NX QX TRg TX AllO Fin3
variable {A : Ar} (hA : A = real)
include hA
set_option maxHeartbeats 4000000 in
theorem tells_law (l : List Sg) (E : List Nd) (s : Int) (hsz : FitG l) (hsz2 : FitD E) : PureCalls Try.prog 3 [slP A 2 (encG A) l, slP A 3 (encD A) E, UP s] (BP true) := by
  have hsh := shown8_c hA
  have hof := of8_c hA l E hsz hsz2
  cases ho : of8M l E with
  | false =>
    rw [ho, hid_eq hA (α := Bool)] at hof
    refine PureCalls.of Try.func3 rfl (by kernel_rfl) rfl ?_
    try first | refine AOLg.of [] ?_ | refine QSg.of [] ?_
    repeat' (first
      | (refine AWp.pass ?_; first
          | refine AWp.seq ?_
          | refine AWp.block ?_
          | refine AWp.skip ?_
          | refine AWp.regG [] (by conv => lhs; cbv) ?_
          | refine AWp.cond_t rfl ?_
          | refine AWp.cond_f rfl ?_
          | (refine AWp.cond rfl ?_ ?_ <;> intro hc <;> (try rw [hc]) <;> ((try simp only [zn] at hc) <;> (try simp (disch := omega) only [zz hA, zb, zy, reduceCtorEq, Bool.false_eq_true, Int.reduceLT, Int.reduceLE, Int.reduceNeg] at hc) <;> (try simp only [zw] at hc)) <;> (try (exfalso; omega)))
          | refine AWp.exit ?_
          | refine AWp.ret ⟨.inr rfl, _, RetOk.ev tabOk (by conv => lhs; cbv), ?_⟩
          | refine AWp.drawVG [] rfl (by decide +kernel) (by conv => lhs; cbv) ?_)
      | (refine AOLg.pass ?_; refine AOLg.nx hA tabOk (by conv => lhs; cbv) ?_; first
          | refine NX.done ?_
          | refine NX.gt ?_
          | refine NX.gf ?_
          | (refine NX.gs ?_ ?_ <;> intro hc <;> rw [hc] <;> ((try simp only [zn] at hc) <;> (try simp (disch := omega) only [zz hA, zb, zy, reduceCtorEq, Bool.false_eq_true, Int.reduceLT, Int.reduceLE, Int.reduceNeg] at hc) <;> (try simp only [zw] at hc)) <;> (try (exfalso; omega)))
          | (refine NX.kC ?_; first | (with_reducible refine NX.call (hsh) ?_) | (with_reducible refine NX.call (hof) ?_) | ((first | refine NX.call (hsh) ?_ | refine NX.call (hof) ?_)) | fail)
          | (refine NX.kO ?_; (first | refine NX.callO (hsh) (by simp [allEq]) rfl ?_ | refine NX.callO (hof) (by simp [allEq]) rfl ?_))
          | ((first | (refine NX.k 8 ?_; first | refine NX.one (One.eqBoolM hA tabOk rfl rfl rfl rfl rfl) ?_)) <;> (first | refine AOLg.pass ?_ | (((try simp only [zn]) <;> (try simp (disch := omega) only [zz hA, zb, zy, reduceCtorEq, Bool.false_eq_true, Int.reduceLT, Int.reduceLE, Int.reduceNeg]) <;> (try simp only [zw])) <;> omega)))
          | refine NX.raw ?_)
      | (refine TRg.pass ?_; refine TRg.nx hA tabOk (by conv => lhs; cbv) ?_; first
          | refine TX.done ?_
          | refine TX.gt ?_
          | refine TX.gf ?_
          | (refine TX.gs ?_ ?_ <;> intro hc <;> rw [hc] <;> ((try simp only [zn] at hc) <;> (try simp (disch := omega) only [zz hA, zb, zy, reduceCtorEq, Bool.false_eq_true, Int.reduceLT, Int.reduceLE, Int.reduceNeg] at hc) <;> (try simp only [zw] at hc)) <;> (try (exfalso; omega)))
          | (refine TX.kC ?_; first | (with_reducible refine TX.call (hsh) ?_) | (with_reducible refine TX.call (hof) ?_) | ((first | refine TX.call (hsh) ?_ | refine TX.call (hof) ?_)) | fail)
          | (refine TX.kO ?_; (first | refine TX.callO (hsh) (by simp [allEq]) rfl ?_ | refine TX.callO (hof) (by simp [allEq]) rfl ?_))
          | ((first | (refine TX.k 8 ?_; first | refine TX.one (One.eqBoolM hA tabOk rfl rfl rfl rfl rfl) ?_)) <;> (first | refine TRg.pass ?_ | (((try simp only [zn]) <;> (try simp (disch := omega) only [zz hA, zb, zy, reduceCtorEq, Bool.false_eq_true, Int.reduceLT, Int.reduceLE, Int.reduceNeg]) <;> (try simp only [zw])) <;> omega)))
          | refine TX.raw ?_)
      | refine Fin3.of (by conv => lhs; cbv) (by repeat' (first | exact True.intro | exact rfl | refine And.intro ?_ ?_)) ?_ ?_
      | (refine AllO.pass ?_; first
          | exact AllO.nil
          | (refine AllO.cons (One.ev hA tabOk ?_) ?_ <;> (first | refine AllO.pass ?_ | ((conv => lhs; cbv); done)))
          | (refine AllO.cons (One.skipB ?_) ?_ <;> (first | refine AllO.pass ?_ | ((conv => lhs; cbv); done)))
          | ((with_reducible refine AllO.call (by conv => lhs; cbv) (hsh) ?_ ?_) <;> (first | refine AllO.pass ?_ | exact rfl | (((try simp only [zn]) <;> (try simp (disch := omega) only [zz hA, zb, zy, reduceCtorEq, Bool.false_eq_true, Int.reduceLT, Int.reduceLE, Int.reduceNeg]) <;> (try simp only [zw])) <;> omega)))
          | ((with_reducible refine AllO.call (by conv => lhs; cbv) (hof) ?_ ?_) <;> (first | refine AllO.pass ?_ | exact rfl | (((try simp only [zn]) <;> (try simp (disch := omega) only [zz hA, zb, zy, reduceCtorEq, Bool.false_eq_true, Int.reduceLT, Int.reduceLE, Int.reduceNeg]) <;> (try simp only [zw])) <;> omega))))
      | refine Thn.exit ?_
      | refine Blk.here ?_
      | refine Blk.other (by decide) ?_
      | refine ⟨.inl rfl, _, RetOk.ev tabOk (by conv => lhs; cbv), ?_⟩
      | fail)
    first | (exfalso; omega) | (refine rPV_then (by conv => lhs; cbv) ?_; rfl) | (refine rPV_then (by conv => lhs; cbv) ?_; refine congrArg (fun b => PV.c (IC.lit (Value.bool b))) ?_; ((try simp only [zn]) <;> (try simp (disch := omega) only [zz hA, zb, zy, reduceCtorEq, Bool.false_eq_true, Int.reduceLT, Int.reduceLE, Int.reduceNeg]) <;> (try simp only [zw])); done) | (refine rPV_then (by conv => lhs; cbv) ?_; refine congrArg (fun b => PV.c (IC.lit (Value.bool b))) ?_; ((try simp only [zn]) <;> (try simp (disch := omega) only [zz hA, zb, zy, reduceCtorEq, Bool.false_eq_true, Int.reduceLT, Int.reduceLE, Int.reduceNeg]) <;> (try simp only [zw])); omega) | fail
  | true =>
    rw [ho, hid_eq hA (α := Bool)] at hof
    obtain ⟨hll, hel, hg, h1, h2⟩ := of8M_st ho
    have hc1 := sCheck_c hA l E s (by omega) hsz hg h1 (by omega)
    have hc2 := rCheck_c hA l E s (by omega) hsz hg h1 (by omega)
    have ho1 := sOf_c hA l E s (by omega) hsz hg h1 (by omega)
    have ho2 := rOf_c hA l E s (by omega) hsz hg h1 (by omega)
    have hv1 := sVars_c hA E (by omega)
    have hv2 := rVars_c hA E (by omega)
    have hvl := varsN_len E E.length
    have htx := texts_c hA (varsD E) (by unfold varsD; omega)
    generalize checkA l E (sidesD l E s) = ca at *
    generalize checkW l E (sidesD l E s) = cw at *
    generalize sidesD l E s = L at *
    generalize varsD E = V at *
    refine PureCalls.of Try.func3 rfl (by kernel_rfl) rfl ?_
    try first | refine AOLg.of [] ?_ | refine QSg.of [] ?_
    repeat' (first
      | (refine AWp.pass ?_; first
          | refine AWp.seq ?_
          | refine AWp.block ?_
          | refine AWp.skip ?_
          | refine AWp.regG [] (by conv => lhs; cbv) ?_
          | refine AWp.cond_t rfl ?_
          | refine AWp.cond_f rfl ?_
          | (refine AWp.cond rfl ?_ ?_ <;> intro hc <;> (try rw [hc]) <;> ((try simp only [zn] at hc) <;> (try simp (disch := omega) only [zz hA, zb, zy, reduceCtorEq, Bool.false_eq_true, Int.reduceLT, Int.reduceLE, Int.reduceNeg] at hc) <;> (try simp only [zw] at hc)) <;> (try (exfalso; omega)))
          | refine AWp.exit ?_
          | refine AWp.ret ⟨.inr rfl, _, RetOk.ev tabOk (by conv => lhs; cbv), ?_⟩
          | refine AWp.drawVG [] rfl (by decide +kernel) (by conv => lhs; cbv) ?_)
      | (refine AOLg.pass ?_; refine AOLg.nx hA tabOk (by conv => lhs; cbv) ?_; first
          | refine NX.done ?_
          | refine NX.gt ?_
          | refine NX.gf ?_
          | (refine NX.gs ?_ ?_ <;> intro hc <;> rw [hc] <;> ((try simp only [zn] at hc) <;> (try simp (disch := omega) only [zz hA, zb, zy, reduceCtorEq, Bool.false_eq_true, Int.reduceLT, Int.reduceLE, Int.reduceNeg] at hc) <;> (try simp only [zw] at hc)) <;> (try (exfalso; omega)))
          | (refine NX.kC ?_; first | (with_reducible refine NX.call (hsh) ?_) | (with_reducible refine NX.call (hof) ?_) | (with_reducible refine NX.call (hc1) ?_) | (with_reducible refine NX.call (hc2) ?_) | (with_reducible refine NX.call (ho1) ?_) | (with_reducible refine NX.call (ho2) ?_) | (with_reducible refine NX.call (hv1) ?_) | (with_reducible refine NX.call (hv2) ?_) | (with_reducible refine NX.call (htx) ?_) | ((first | refine NX.call (hsh) ?_ | refine NX.call (hof) ?_ | refine NX.call (hc1) ?_ | refine NX.call (hc2) ?_ | refine NX.call (ho1) ?_ | refine NX.call (ho2) ?_ | refine NX.call (hv1) ?_ | refine NX.call (hv2) ?_ | refine NX.call (htx) ?_)) | fail)
          | (refine NX.kO ?_; (first | refine NX.callO (hsh) (by simp [allEq]) rfl ?_ | refine NX.callO (hof) (by simp [allEq]) rfl ?_ | refine NX.callO (hc1) (by simp [allEq]) rfl ?_ | refine NX.callO (hc2) (by simp [allEq]) rfl ?_ | refine NX.callO (ho1) (by simp [allEq]) rfl ?_ | refine NX.callO (ho2) (by simp [allEq]) rfl ?_ | refine NX.callO (hv1) (by simp [allEq]) rfl ?_ | refine NX.callO (hv2) (by simp [allEq]) rfl ?_ | refine NX.callO (htx) (by simp [allEq]) rfl ?_))
          | ((first | (refine NX.k 8 ?_; first | refine NX.one (One.eqBoolM hA tabOk rfl rfl rfl rfl rfl) ?_)) <;> (first | refine AOLg.pass ?_ | (((try simp only [zn]) <;> (try simp (disch := omega) only [zz hA, zb, zy, reduceCtorEq, Bool.false_eq_true, Int.reduceLT, Int.reduceLE, Int.reduceNeg]) <;> (try simp only [zw])) <;> omega)))
          | (refine NX.one (One.bytesM (l := L) hA tabOk rfl rfl rfl rfl rfl rfl rfl) ?_)
          | refine NX.raw ?_)
      | (refine TRg.pass ?_; refine TRg.nx hA tabOk (by conv => lhs; cbv) ?_; first
          | refine TX.done ?_
          | refine TX.gt ?_
          | refine TX.gf ?_
          | (refine TX.gs ?_ ?_ <;> intro hc <;> rw [hc] <;> ((try simp only [zn] at hc) <;> (try simp (disch := omega) only [zz hA, zb, zy, reduceCtorEq, Bool.false_eq_true, Int.reduceLT, Int.reduceLE, Int.reduceNeg] at hc) <;> (try simp only [zw] at hc)) <;> (try (exfalso; omega)))
          | (refine TX.kC ?_; first | (with_reducible refine TX.call (hsh) ?_) | (with_reducible refine TX.call (hof) ?_) | (with_reducible refine TX.call (hc1) ?_) | (with_reducible refine TX.call (hc2) ?_) | (with_reducible refine TX.call (ho1) ?_) | (with_reducible refine TX.call (ho2) ?_) | (with_reducible refine TX.call (hv1) ?_) | (with_reducible refine TX.call (hv2) ?_) | (with_reducible refine TX.call (htx) ?_) | ((first | refine TX.call (hsh) ?_ | refine TX.call (hof) ?_ | refine TX.call (hc1) ?_ | refine TX.call (hc2) ?_ | refine TX.call (ho1) ?_ | refine TX.call (ho2) ?_ | refine TX.call (hv1) ?_ | refine TX.call (hv2) ?_ | refine TX.call (htx) ?_)) | fail)
          | (refine TX.kO ?_; (first | refine TX.callO (hsh) (by simp [allEq]) rfl ?_ | refine TX.callO (hof) (by simp [allEq]) rfl ?_ | refine TX.callO (hc1) (by simp [allEq]) rfl ?_ | refine TX.callO (hc2) (by simp [allEq]) rfl ?_ | refine TX.callO (ho1) (by simp [allEq]) rfl ?_ | refine TX.callO (ho2) (by simp [allEq]) rfl ?_ | refine TX.callO (hv1) (by simp [allEq]) rfl ?_ | refine TX.callO (hv2) (by simp [allEq]) rfl ?_ | refine TX.callO (htx) (by simp [allEq]) rfl ?_))
          | ((first | (refine TX.k 8 ?_; first | refine TX.one (One.eqBoolM hA tabOk rfl rfl rfl rfl rfl) ?_)) <;> (first | refine TRg.pass ?_ | (((try simp only [zn]) <;> (try simp (disch := omega) only [zz hA, zb, zy, reduceCtorEq, Bool.false_eq_true, Int.reduceLT, Int.reduceLE, Int.reduceNeg]) <;> (try simp only [zw])) <;> omega)))
          | (refine TX.one (One.bytesM (l := L) hA tabOk rfl rfl rfl rfl rfl rfl rfl) ?_)
          | refine TX.raw ?_)
      | refine Fin3.of (by conv => lhs; cbv) (by repeat' (first | exact True.intro | exact rfl | refine And.intro ?_ ?_)) ?_ ?_
      | (refine AllO.pass ?_; first
          | exact AllO.nil
          | (refine AllO.cons (One.ev hA tabOk ?_) ?_ <;> (first | refine AllO.pass ?_ | ((conv => lhs; cbv); done)))
          | (refine AllO.cons (One.skipB ?_) ?_ <;> (first | refine AllO.pass ?_ | ((conv => lhs; cbv); done)))
          | ((with_reducible refine AllO.call (by conv => lhs; cbv) (hsh) ?_ ?_) <;> (first | refine AllO.pass ?_ | exact rfl | (((try simp only [zn]) <;> (try simp (disch := omega) only [zz hA, zb, zy, reduceCtorEq, Bool.false_eq_true, Int.reduceLT, Int.reduceLE, Int.reduceNeg]) <;> (try simp only [zw])) <;> omega)))
          | ((with_reducible refine AllO.call (by conv => lhs; cbv) (hof) ?_ ?_) <;> (first | refine AllO.pass ?_ | exact rfl | (((try simp only [zn]) <;> (try simp (disch := omega) only [zz hA, zb, zy, reduceCtorEq, Bool.false_eq_true, Int.reduceLT, Int.reduceLE, Int.reduceNeg]) <;> (try simp only [zw])) <;> omega)))
          | ((with_reducible refine AllO.call (by conv => lhs; cbv) (hc1) ?_ ?_) <;> (first | refine AllO.pass ?_ | exact rfl | (((try simp only [zn]) <;> (try simp (disch := omega) only [zz hA, zb, zy, reduceCtorEq, Bool.false_eq_true, Int.reduceLT, Int.reduceLE, Int.reduceNeg]) <;> (try simp only [zw])) <;> omega)))
          | ((with_reducible refine AllO.call (by conv => lhs; cbv) (hc2) ?_ ?_) <;> (first | refine AllO.pass ?_ | exact rfl | (((try simp only [zn]) <;> (try simp (disch := omega) only [zz hA, zb, zy, reduceCtorEq, Bool.false_eq_true, Int.reduceLT, Int.reduceLE, Int.reduceNeg]) <;> (try simp only [zw])) <;> omega)))
          | ((with_reducible refine AllO.call (by conv => lhs; cbv) (ho1) ?_ ?_) <;> (first | refine AllO.pass ?_ | exact rfl | (((try simp only [zn]) <;> (try simp (disch := omega) only [zz hA, zb, zy, reduceCtorEq, Bool.false_eq_true, Int.reduceLT, Int.reduceLE, Int.reduceNeg]) <;> (try simp only [zw])) <;> omega)))
          | ((with_reducible refine AllO.call (by conv => lhs; cbv) (ho2) ?_ ?_) <;> (first | refine AllO.pass ?_ | exact rfl | (((try simp only [zn]) <;> (try simp (disch := omega) only [zz hA, zb, zy, reduceCtorEq, Bool.false_eq_true, Int.reduceLT, Int.reduceLE, Int.reduceNeg]) <;> (try simp only [zw])) <;> omega)))
          | ((with_reducible refine AllO.call (by conv => lhs; cbv) (hv1) ?_ ?_) <;> (first | refine AllO.pass ?_ | exact rfl | (((try simp only [zn]) <;> (try simp (disch := omega) only [zz hA, zb, zy, reduceCtorEq, Bool.false_eq_true, Int.reduceLT, Int.reduceLE, Int.reduceNeg]) <;> (try simp only [zw])) <;> omega)))
          | ((with_reducible refine AllO.call (by conv => lhs; cbv) (hv2) ?_ ?_) <;> (first | refine AllO.pass ?_ | exact rfl | (((try simp only [zn]) <;> (try simp (disch := omega) only [zz hA, zb, zy, reduceCtorEq, Bool.false_eq_true, Int.reduceLT, Int.reduceLE, Int.reduceNeg]) <;> (try simp only [zw])) <;> omega)))
          | ((with_reducible refine AllO.call (by conv => lhs; cbv) (htx) ?_ ?_) <;> (first | refine AllO.pass ?_ | exact rfl | (((try simp only [zn]) <;> (try simp (disch := omega) only [zz hA, zb, zy, reduceCtorEq, Bool.false_eq_true, Int.reduceLT, Int.reduceLE, Int.reduceNeg]) <;> (try simp only [zw])) <;> omega)))
          | ((refine AllO.consX (One.bytesM (l := L) hA tabOk rfl rfl rfl rfl rfl rfl rfl) rfl rfl ?_) <;> (first | refine AllO.pass ?_ | (((try simp only [zn]) <;> (try simp (disch := omega) only [zz hA, zb, zy, reduceCtorEq, Bool.false_eq_true, Int.reduceLT, Int.reduceLE, Int.reduceNeg]) <;> (try simp only [zw])) <;> omega))))
      | refine Thn.exit ?_
      | refine Blk.here ?_
      | refine Blk.other (by decide) ?_
      | refine ⟨.inl rfl, _, RetOk.ev tabOk (by conv => lhs; cbv), ?_⟩
      | fail)
    first | (exfalso; omega) | (refine rPV_then (by conv => lhs; cbv) ?_; rfl) | (refine rPV_then (by conv => lhs; cbv) ?_; refine congrArg (fun b => PV.c (IC.lit (Value.bool b))) ?_; ((try simp only [zn]) <;> (try simp (disch := omega) only [zz hA, zb, zy, reduceCtorEq, Bool.false_eq_true, Int.reduceLT, Int.reduceLE, Int.reduceNeg]) <;> (try simp only [zw])); done) | (refine rPV_then (by conv => lhs; cbv) ?_; refine congrArg (fun b => PV.c (IC.lit (Value.bool b))) ?_; ((try simp only [zn]) <;> (try simp (disch := omega) only [zz hA, zb, zy, reduceCtorEq, Bool.false_eq_true, Int.reduceLT, Int.reduceLE, Int.reduceNeg]) <;> (try simp only [zw])); omega) | fail
end Go.Proofs.Ytgemcogfpkolfaa.Aw

/- The arguments of the statements of side out of the row's data; the laws over them. -/
set_option linter.unusedVariables false
set_option linter.unusedSectionVars false
namespace Go.Proofs.Ytgemcogfpkolfaa.Aw
open Go Go.RowKit
theorem decSg {rows : List (List IC)} (h : ∀ r ∈ rows, Dec (.st [.str, .str]) r) : ∃ l : List Sg, rows = hid real (List.map (encG real) l) ∧ FitG l := by
  induction rows with
  | nil => exact ⟨[], rfl, by simp [FitG]⟩
  | cons r rs ih =>
    obtain ⟨l, hl, hb⟩ := ih fun x hx => h x (List.mem_cons_of_mem _ hx)
    obtain ⟨a1, b1, rfl, ⟨n, rfl, hn⟩, a2, b2, rfl, ⟨g, rfl, hg⟩, rfl⟩ := h r List.mem_cons_self
    refine ⟨(n, g) :: l, by rw [hl]; rfl, fun x hx => ?_⟩
    rcases List.mem_cons.1 hx with rfl | hx
    · exact ⟨by show n.size ≤ _; omega, by show g.size ≤ _; omega⟩
    · exact hb x hx
theorem decSigs {x : IC} (h : Dec (.sl 32 (.st [.str, .str])) [x]) : ∃ l : List Sg, x = .sl 2 false (hid real (List.map (encG real) l)) ∧ FitG l := by
  obtain ⟨r, e, h1, h2⟩ := h
  obtain ⟨l, rfl, hl⟩ := decSg h1
  simp only [List.cons.injEq, and_true] at e
  exact ⟨l, e, hl⟩
theorem decNd {rows : List (List IC)} (h : ∀ r ∈ rows, Dec (.st [.int .i64, .str, .int .i64]) r) : ∃ l : List Nd, rows = hid real (List.map (encD real) l) ∧ FitD l := by
  induction rows with
  | nil => exact ⟨[], rfl, by simp [FitD]⟩
  | cons r rs ih =>
    obtain ⟨l, hl, hb⟩ := ih fun x hx => h x (List.mem_cons_of_mem _ hx)
    obtain ⟨a1, b1, rfl, ⟨k, rfl, _⟩, a2, b2, rfl, ⟨s, rfl, hs⟩, a3, b3, rfl, ⟨n, rfl, _⟩, rfl⟩ := h r List.mem_cons_self
    refine ⟨(k, s, n) :: l, by rw [hl]; rfl, fun x hx => ?_⟩
    rcases List.mem_cons.1 hx with rfl | hx
    · show s.size ≤ _; omega
    · exact hb x hx
theorem decNodes {x : IC} (h : Dec (.sl 32 (.st [.int .i64, .str, .int .i64])) [x]) : ∃ l : List Nd, x = .sl 3 false (hid real (List.map (encD real) l)) ∧ FitD l := by
  obtain ⟨r, e, h1, h2⟩ := h
  obtain ⟨l, rfl, hl⟩ := decNd h1
  simp only [List.cons.injEq, and_true] at e
  exact ⟨l, e, hl⟩
variable {A : Ar} (hA : A = real)
include hA
theorem tellsL (l : List Sg) (hl : FitG l) (E : List Nd) (hE : FitD E) (s : Int) : PureCalls Try.prog 3 [slP A 2 (encG A) l, slP A 3 (encD A) E, UP s] (BP true) := tells_law hA l E s hl hE
end Go.Proofs.Ytgemcogfpkolfaa.Aw

/- Laws SideVars, SideUnknown. -/
set_option linter.unusedVariables false
set_option linter.unusedSimpArgs false
set_option linter.unusedSectionVars false
namespace Go.Proofs.Ytgemcogfpkolfaa.Aw
open Go Go.RowKit
set_option maxRecDepth 10000
attribute [local irreducible] AWp AOL QS One AOLg QSg NX QX TRg TX AllO Fin3
def inN (E : List Nd) (s : ByteArray) : Nat → Bool
  | 0 => false
  | i + 1 => inN E s i || (decide (ndK (E.getD i default) = 2) && eqS (ndS (E.getD i default)) s)
def hasT (T : List ByteArray) (s : ByteArray) : Nat → Nat
  | 0 => 0
  | i + 1 => hasT T s i + (if eqS (T.getD i default) s = true then 1 else 0)
theorem hasT_le (T : List ByteArray) (s : ByteArray) : ∀ i, hasT T s i ≤ i
  | 0 => Nat.le_refl _
  | i + 1 => by have := hasT_le T s i; simp only [hasT]; split <;> omega
theorem hasT_congr {T T' : List ByteArray} {s : ByteArray} : ∀ {n : Nat}, (∀ j, j < n → T.getD j default = T'.getD j default) → hasT T s n = hasT T' s n
  | 0, _ => rfl
  | n + 1, h => by simp only [hasT]; rw [hasT_congr fun j hj => h j (by omega), h n (by omega)]
theorem hasT_zero {T : List ByteArray} {s : ByteArray} : ∀ {n : Nat}, (∀ j, j < n → eqS (T.getD j default) s = false) → hasT T s n = 0
  | 0, _ => rfl
  | n + 1, h => by simp only [hasT]; rw [hasT_zero fun j hj => h j (by omega), h n (by omega)]; rfl
theorem hasT_pos {T : List ByteArray} {s : ByteArray} {j : Nat} (h : eqS (T.getD j default) s = true) : ∀ {n : Nat}, j < n → 1 ≤ hasT T s n
  | 0, hj => by omega
  | n + 1, hj => by
    simp only [hasT]
    rcases Nat.lt_or_ge j n with h1 | h1
    · have := hasT_pos h h1; omega
    · obtain rfl : j = n := by omega
      rw [h, if_pos rfl]; omega
theorem eqS_trans {a b c : ByteArray} (h : eqS a b = true) (k : eqS b c = true) : eqS a c = true := by
  unfold eqS at *
  rw [decide_eq_true_eq] at *
  exact h.trans k
/-- A name stands once in the row of variables, if it is one. -/
theorem vars_has (E : List Nd) (s : ByteArray) : ∀ i, hasT (varsN E i) s (varsN E i).length = if inN E s i = true then 1 else 0
  | 0 => rfl
  | i + 1 => by
    have ih := vars_has E s i
    rw [varsN, inN]
    by_cases hc : ndK (E.getD i default) = 2 ∧ idxS (varsN E i) (ndS (E.getD i default)) < 0
    · rw [if_pos hc, decide_eq_true hc.1, Bool.true_and, List.length_append]
      simp only [List.length_cons, List.length_nil, Nat.zero_add, hasT]
      rw [hasT_congr (T' := varsN E i) fun j hj => by
        simp only [List.getD_eq_getElem?_getD]
        rw [List.getElem?_append_left hj]]
      have hlast : (varsN E i ++ [ndS (E.getD i default)]).getD (varsN E i).length default = ndS (E.getD i default) := by
        simp only [List.getD_eq_getElem?_getD]
        rw [List.getElem?_append_right (Nat.le_refl _)]
        simp
      rw [hlast]
      cases he : eqS (ndS (E.getD i default)) s with
      | false => rw [Bool.or_false, ih]; simp
      | true =>
        have hz : hasT (varsN E i) s (varsN E i).length = 0 := hasT_zero fun j hj => by
          cases hq : eqS ((varsN E i).getD j default) s with
          | false => rfl
          | true =>
            exfalso
            have hx : eqS ((varsN E i).getD j default) (ndS (E.getD i default)) = true := eqS_trans hq (by rw [eqS_comm]; exact he)
            rcases idxB_cases (varsN E i).length (fun j => eqS ((varsN E i).getD j default) (ndS (E.getD i default))) with ⟨_, h2⟩ | ⟨q, _, h2, _⟩
            · rw [h2 j hj] at hx; cases hx
            · have h3 := hc.2
              unfold idxS at h3
              omega
        rw [hz]
        simp
    · rw [if_neg hc]
      cases he : (decide (ndK (E.getD i default) = 2) && eqS (ndS (E.getD i default)) s) with
      | false => rw [Bool.or_false, ih]
      | true =>
        rw [Bool.or_true, if_pos rfl]
        simp only [Bool.and_eq_true, decide_eq_true_eq] at he
        have hi : 0 ≤ idxS (varsN E i) (ndS (E.getD i default)) := by
          rcases Int.lt_or_le (idxS (varsN E i) (ndS (E.getD i default))) 0 with h | h
          · exact (hc ⟨he.1, h⟩).elim
          · exact h
        rcases idxB_cases (varsN E i).length (fun j => eqS ((varsN E i).getD j default) (ndS (E.getD i default))) with ⟨h2, _⟩ | ⟨q, hq, h2, h3, _⟩
        · unfold idxS at hi; omega
        · have := hasT_pos (T := varsN E i) (eqS_trans h3 he.2) hq
          rw [ih] at this ⊢
          split at this
          · rename_i h; rw [if_pos h]
          · omega
theorem findG_nil (s : ByteArray) : findG [] s = -1 := idxB_none fun i hi => by simp at hi
theorem wAt_nil (E : List Nd) (L : List Int) (i : Nat) : (ndK (E.getD i default) = 3 ∨ ndK (E.getD i default) = 6 → wAt [] E L i = 3) ∧ (wAt [] E L i = 0 ∨ wAt [] E L i = 3 ∨ wAt [] E L i = 6) ∧ (wAt [] E L i = 3 → ndK (E.getD i default) = 3 ∨ ndK (E.getD i default) = 6) ∧ (wAt [] E L i = 6 → ndK (E.getD i default) ≠ 2) := by
  unfold wAt wrongD
  rw [findG_nil]
  generalize ndK (E.getD i default) = k
  generalize L.getD i default = d
  by_cases hk : k = 3 ∨ k = 6
  · rw [if_pos ⟨hk, by omega⟩]
    exact ⟨fun _ => rfl, .inr (.inl rfl), fun _ => hk, fun h => by omega⟩
  · rw [if_neg fun h => hk h.1, if_neg fun h => hk h.1]
    split
    · exact ⟨fun h => (hk h).elim, .inr (.inr rfl), fun h => by omega, fun _ => by omega⟩
    · exact ⟨fun h => (hk h).elim, .inl rfl, fun h => by omega, fun h => by omega⟩
/-- What may not be is at a place, or there is nothing. -/
theorem check_cases (l : List Sg) (E : List Nd) (L : List Int) : (checkA l E L = 0 ∧ checkW l E L = 0 ∧ ∀ j, j < E.length → wAt l E L j = 0) ∨ ∃ n, n < E.length ∧ checkA l E L = n ∧ checkW l E L = wAt l E L n ∧ wAt l E L n ≠ 0 ∧ ∀ j, j < n → wAt l E L j = 0 := by
  rcases idxB_cases E.length (fun i => decide (wAt l E L i ≠ 0)) with ⟨h1, h2⟩ | ⟨n, hn, h1, h2, h3⟩
  · left
    have h4 : ∀ j, j < E.length → wAt l E L j = 0 := fun j hj => by have := of_decide_eq_false (h2 j hj); omega
    obtain ⟨e1, e2⟩ := check_ok h4
    exact ⟨e1, e2, h4⟩
  · right
    have h4 : ∀ j, j < n → wAt l E L j = 0 := fun j hj => by have := of_decide_eq_false (h3 j hj); omega
    have h5 : wAt l E L n ≠ 0 := of_decide_eq_true h2
    obtain ⟨e1, e2⟩ := check_at hn h4 h5
    exact ⟨n, hn, e1, e2, h5, h4⟩
variable {A : Ar} (hA : A = real)
include hA
set_option maxHeartbeats 4000000 in
theorem vars_law (E : List Nd) (s : ByteArray) (hsz2 : FitD E) (hs : s.size ≤ 1000000000000000) : PureCalls Try.prog 6 [slP A 3 (encD A) E, SP s] (BP true) := by
  have hsh := shown8_c hA
  have hw := few_c hA E hsz2
  by_cases hf : wtD E ≤ 600
  · have hr := rRight_c hA E hf
    rw [show fewD E = true from decide_eq_true hf, hid_eq hA (α := Bool)] at hw
    cases hrd : rightD E with
    | false =>
      rw [hrd, hid_eq hA (α := Bool)] at hr
      refine PureCalls.of Try.func6 rfl (by kernel_rfl) rfl ?_
      try first | refine AOLg.of [] ?_ | refine QSg.of [] ?_
      repeat' (first
        | (refine AWp.pass ?_; first
            | refine AWp.seq ?_
            | refine AWp.block ?_
            | refine AWp.skip ?_
            | refine AWp.regG [] (by conv => lhs; cbv) ?_
            | refine AWp.cond_t rfl ?_
            | refine AWp.cond_f rfl ?_
            | (refine AWp.cond rfl ?_ ?_ <;> intro hc <;> (try rw [hc]) <;> ((try simp only [zn] at hc) <;> (try simp (disch := omega) only [zz hA, zb, zy, reduceCtorEq, Bool.false_eq_true, Int.reduceLT, Int.reduceLE, Int.reduceNeg] at hc) <;> (try simp only [zw] at hc)) <;> (try (exfalso; omega)))
            | refine AWp.exit ?_
            | refine AWp.ret ⟨.inr rfl, _, RetOk.ev tabOk (by conv => lhs; cbv), ?_⟩)
        | (refine AOLg.pass ?_; refine AOLg.nx hA tabOk (by conv => lhs; cbv) ?_; first
            | refine NX.done ?_
            | refine NX.gt ?_
            | refine NX.gf ?_
            | (refine NX.gs ?_ ?_ <;> intro hc <;> rw [hc] <;> ((try simp only [zn] at hc) <;> (try simp (disch := omega) only [zz hA, zb, zy, reduceCtorEq, Bool.false_eq_true, Int.reduceLT, Int.reduceLE, Int.reduceNeg] at hc) <;> (try simp only [zw] at hc)) <;> (try (exfalso; omega)))
            | (refine NX.kC ?_; first | (with_reducible refine NX.call (hsh) ?_) | (with_reducible refine NX.call (hw) ?_) | (with_reducible refine NX.call (hr) ?_) | ((first | refine NX.call (hsh) ?_ | refine NX.call (hw) ?_ | refine NX.call (hr) ?_)) | fail)
            | (refine NX.kO ?_; (first | refine NX.callO (hsh) (by simp [allEq]) rfl ?_ | refine NX.callO (hw) (by simp [allEq]) rfl ?_ | refine NX.callO (hr) (by simp [allEq]) rfl ?_))
            | ((first | (refine NX.k 1 ?_; first | refine NX.one (One.elemM hA tabOk rfl rfl rfl rfl ?_ ?_) ?_ | refine NX.one (One.elemOwnM hA tabOk rfl rfl rfl rfl rfl ?_ ?_) ?_) | (refine NX.k 7 ?_; first | refine NX.one (One.concatM hA rfl rfl rfl ?_) ?_) | (refine NX.k 8 ?_; first | refine NX.one (One.eqBoolM hA tabOk rfl rfl rfl rfl rfl) ?_) | (refine NX.k 10 ?_; first | refine NX.one (One.lenOwnM hA tabOk rfl rfl rfl rfl) ?_) | (refine NX.k 14 ?_; first | refine NX.one (One.loadRatM hA tabOk rfl rfl rfl rfl rfl rfl ?_) ?_) | (refine NX.k 18 ?_; first | refine NX.one (One.fieldRat tabOk rfl rfl rfl rfl (by decide) rfl rfl) ?_)) <;> (first | refine AOLg.pass ?_ | (((try simp only [zn]) <;> (try simp (disch := omega) only [zz hA, zb, zy, reduceCtorEq, Bool.false_eq_true, Int.reduceLT, Int.reduceLE, Int.reduceNeg]) <;> (try simp only [zw])) <;> omega)))
            | refine NX.raw ?_)
        | refine Thn.exit ?_
        | refine Blk.here ?_
        | refine Blk.other (by decide) ?_
        | refine ⟨.inl rfl, _, RetOk.ev tabOk (by conv => lhs; cbv), ?_⟩
        | fail)
      first | (exfalso; omega) | (refine rPV_then (by conv => lhs; cbv) ?_; rfl) | (refine rPV_then (by conv => lhs; cbv) ?_; refine congrArg (fun b => PV.c (IC.lit (Value.bool b))) ?_; ((try simp only [zn]) <;> (try simp (disch := omega) only [zz hA, zb, zy, reduceCtorEq, Bool.false_eq_true, Int.reduceLT, Int.reduceLE, Int.reduceNeg]) <;> (try simp only [zw])); done) | (refine rPV_then (by conv => lhs; cbv) ?_; refine congrArg (fun b => PV.c (IC.lit (Value.bool b))) ?_; ((try simp only [zn]) <;> (try simp (disch := omega) only [zz hA, zb, zy, reduceCtorEq, Bool.false_eq_true, Int.reduceLT, Int.reduceLE, Int.reduceNeg]) <;> (try simp only [zw])); omega) | fail
    | true =>
      rw [hrd, hid_eq hA (α := Bool)] at hr
      have hel : E.length ≤ 600 := by have := wtD_len E; omega
      have hv := sVars_c hA E (by omega)
      have hvl : (varsD E).length ≤ E.length := varsN_len E E.length
      have hhas : hasT (varsD E) s (varsD E).length = if inN E s E.length = true then 1 else 0 := vars_has E s E.length
      generalize varsD E = V at *
      refine PureCalls.of Try.func6 rfl (by kernel_rfl) rfl ?_
      by_cases hs5 : s.size ≤ 50
      · try first | refine AOLg.of [] ?_ | refine QSg.of [] ?_
        repeat' (first
          | (refine AWp.pass ?_; first
              | refine AWp.seq ?_
              | refine AWp.block ?_
              | refine AWp.skip ?_
              | refine AWp.regG [] (by conv => lhs; cbv) ?_
              | refine AWp.cond_t rfl ?_
              | refine AWp.cond_f rfl ?_
              | (refine AWp.cond rfl ?_ ?_ <;> intro hc <;> (try rw [hc]) <;> ((try simp only [zn] at hc) <;> (try simp (disch := omega) only [zz hA, zb, zy, reduceCtorEq, Bool.false_eq_true, Int.reduceLT, Int.reduceLE, Int.reduceNeg] at hc) <;> (try simp only [zw] at hc)) <;> (try (exfalso; omega)))
              | refine AWp.exit ?_
              | refine AWp.ret ⟨.inr rfl, _, RetOk.ev tabOk (by conv => lhs; cbv), ?_⟩)
          | (refine AOLg.pass ?_; refine AOLg.nx hA tabOk (by conv => lhs; cbv) ?_; first
              | refine NX.done ?_
              | refine NX.gt ?_
              | refine NX.gf ?_
              | (refine NX.gs ?_ ?_ <;> intro hc <;> rw [hc] <;> ((try simp only [zn] at hc) <;> (try simp (disch := omega) only [zz hA, zb, zy, reduceCtorEq, Bool.false_eq_true, Int.reduceLT, Int.reduceLE, Int.reduceNeg] at hc) <;> (try simp only [zw] at hc)) <;> (try (exfalso; omega)))
              | (refine NX.kC ?_; first | (with_reducible refine NX.call (hsh) ?_) | (with_reducible refine NX.call (hw) ?_) | (with_reducible refine NX.call (hr) ?_) | (with_reducible refine NX.call (hv) ?_) | ((first | refine NX.call (hsh) ?_ | refine NX.call (hw) ?_ | refine NX.call (hr) ?_ | refine NX.call (hv) ?_)) | fail)
              | (refine NX.kO ?_; (first | refine NX.callO (hsh) (by simp [allEq]) rfl ?_ | refine NX.callO (hw) (by simp [allEq]) rfl ?_ | refine NX.callO (hr) (by simp [allEq]) rfl ?_ | refine NX.callO (hv) (by simp [allEq]) rfl ?_))
              | ((first | (refine NX.k 1 ?_; first | refine NX.one (One.elemM hA tabOk rfl rfl rfl rfl ?_ ?_) ?_ | refine NX.one (One.elemOwnM hA tabOk rfl rfl rfl rfl rfl ?_ ?_) ?_) | (refine NX.k 7 ?_; first | refine NX.one (One.concatM hA rfl rfl rfl ?_) ?_) | (refine NX.k 8 ?_; first | refine NX.one (One.eqBoolM hA tabOk rfl rfl rfl rfl rfl) ?_) | (refine NX.k 10 ?_; first | refine NX.one (One.lenOwnM hA tabOk rfl rfl rfl rfl) ?_) | (refine NX.k 14 ?_; first | refine NX.one (One.loadRatM hA tabOk rfl rfl rfl rfl rfl rfl ?_) ?_) | (refine NX.k 18 ?_; first | refine NX.one (One.fieldRat tabOk rfl rfl rfl rfl (by decide) rfl rfl) ?_)) <;> (first | refine AOLg.pass ?_ | (((try simp only [zn]) <;> (try simp (disch := omega) only [zz hA, zb, zy, reduceCtorEq, Bool.false_eq_true, Int.reduceLT, Int.reduceLE, Int.reduceNeg]) <;> (try simp only [zw])) <;> omega)))
              | refine NX.raw ?_)
          | refine Thn.exit ?_
          | refine Blk.here ?_
          | refine Blk.other (by decide) ?_
          | refine ⟨.inl rfl, _, RetOk.ev tabOk (by conv => lhs; cbv), ?_⟩
          | fail)
        refine AWp.loopU (fun i : Nat => [(8, .ic (.lit (.int .i64 (hid A (cN i))))), (7, .ic (.lit (.bool (hid A (inN E s i)))))]) (fun _ => []) (fun i => E.length - i) (fun i => i ≤ E.length) 0 (by conv => lhs; cbv) (Nat.zero_le _) (.int rfl (by simp [hA, real, hid, cN]) (.bool rfl (by rw [hid_eq hA]; rfl) .nil)) rfl ?_
        intro i hi0
        by_cases hi : i < E.length
        · have hin : inN E s (i + 1) = (inN E s i || (decide (ndK (E.getD i default) = 2) && eqS (ndS (E.getD i default)) s)) := rfl
          unfold eqS at hin
          generalize hI2 : inN E s (i + 1) = I2 at *
          generalize inN E s i = I1 at *
          cases I1 <;> (
            rw [hid_eq hA (α := Bool)]
            try first | refine AOLg.of [] ?_ | refine QSg.of [] ?_
            repeat' (first
              | (refine AWp.pass ?_; first
                  | refine AWp.seq ?_
                  | refine AWp.block ?_
                  | refine AWp.skip ?_
                  | refine AWp.regG [] (by conv => lhs; cbv) ?_
                  | refine AWp.cond_t rfl ?_
                  | refine AWp.cond_f rfl ?_
                  | (refine AWp.cond rfl ?_ ?_ <;> intro hc <;> (try rw [hc]) <;> ((try simp only [zn] at hc) <;> (try simp (disch := omega) only [zz hA, zb, zy, reduceCtorEq, Bool.false_eq_true, Int.reduceLT, Int.reduceLE, Int.reduceNeg] at hc) <;> (try simp only [zw] at hc)) <;> (try (exfalso; omega)))
                  | refine AWp.exit ?_
                  | refine AWp.ret ⟨.inr rfl, _, RetOk.ev tabOk (by conv => lhs; cbv), ?_⟩)
              | (refine AOLg.pass ?_; refine AOLg.nx hA tabOk (by conv => lhs; cbv) ?_; first
                  | refine NX.done ?_
                  | refine NX.gt ?_
                  | refine NX.gf ?_
                  | (refine NX.gs ?_ ?_ <;> intro hc <;> rw [hc] <;> ((try simp only [zn] at hc) <;> (try simp (disch := omega) only [zz hA, zb, zy, reduceCtorEq, Bool.false_eq_true, Int.reduceLT, Int.reduceLE, Int.reduceNeg] at hc) <;> (try simp only [zw] at hc)) <;> (try (exfalso; omega)))
                  | ((first | (refine NX.k 1 ?_; first | refine NX.one (One.elemM hA tabOk rfl rfl rfl rfl ?_ ?_) ?_ | refine NX.one (One.elemOwnM hA tabOk rfl rfl rfl rfl rfl ?_ ?_) ?_) | (refine NX.k 7 ?_; first | refine NX.one (One.concatM hA rfl rfl rfl ?_) ?_) | (refine NX.k 8 ?_; first | refine NX.one (One.eqBoolM hA tabOk rfl rfl rfl rfl rfl) ?_) | (refine NX.k 10 ?_; first | refine NX.one (One.lenOwnM hA tabOk rfl rfl rfl rfl) ?_) | (refine NX.k 14 ?_; first | refine NX.one (One.loadRatM hA tabOk rfl rfl rfl rfl rfl rfl ?_) ?_) | (refine NX.k 18 ?_; first | refine NX.one (One.fieldRat tabOk rfl rfl rfl rfl (by decide) rfl rfl) ?_)) <;> (first | refine AOLg.pass ?_ | (((try simp only [zn]) <;> (try simp (disch := omega) only [zz hA, zb, zy, reduceCtorEq, Bool.false_eq_true, Int.reduceLT, Int.reduceLE, Int.reduceNeg]) <;> (try simp only [zw])) <;> omega)))
                  | refine NX.raw ?_)
              | refine Thn.exit ?_
              | refine Blk.here ?_
              | refine Blk.other (by decide) ?_
              | refine ⟨.inl rfl, _, RetOk.ev tabOk (by conv => lhs; cbv), ?_⟩
              | fail)
            all_goals
              refine ⟨i + 1, by omega, by omega, rfl, rfl, ?_, (by repeat' (first | exact subE.nil | refine subE.cons rfl ?_))⟩
              refine .int rfl (by (((try simp only [zn]) <;> (try simp (disch := omega) only [zz hA, zb, zy, reduceCtorEq, Bool.false_eq_true, Int.reduceLT, Int.reduceLE, Int.reduceNeg]) <;> (try simp only [zw])) <;> omega)) (.bool rfl ?_ .nil)
              simp_all [real, hid, cN])
        · obtain rfl : i = E.length := by omega
          generalize inN E s E.length = I at *
          cases I <;> (
            rw [hid_eq hA (α := Bool)]
            simp only [if_true, Bool.false_eq_true, if_false] at hhas
            try first | refine AOLg.of [] ?_ | refine QSg.of [] ?_
            repeat' (first
              | (refine AWp.pass ?_; first
                  | refine AWp.seq ?_
                  | refine AWp.block ?_
                  | refine AWp.skip ?_
                  | refine AWp.regG [] (by conv => lhs; cbv) ?_
                  | refine AWp.cond_t rfl ?_
                  | refine AWp.cond_f rfl ?_
                  | (refine AWp.cond rfl ?_ ?_ <;> intro hc <;> (try rw [hc]) <;> ((try simp only [zn] at hc) <;> (try simp (disch := omega) only [zz hA, zb, zy, reduceCtorEq, Bool.false_eq_true, Int.reduceLT, Int.reduceLE, Int.reduceNeg] at hc) <;> (try simp only [zw] at hc)) <;> (try (exfalso; omega)))
                  | refine AWp.exit ?_
                  | refine AWp.ret ⟨.inr rfl, _, RetOk.ev tabOk (by conv => lhs; cbv), ?_⟩)
              | (refine AOLg.pass ?_; refine AOLg.nx hA tabOk (by conv => lhs; cbv) ?_; first
                  | refine NX.done ?_
                  | refine NX.gt ?_
                  | refine NX.gf ?_
                  | (refine NX.gs ?_ ?_ <;> intro hc <;> rw [hc] <;> ((try simp only [zn] at hc) <;> (try simp (disch := omega) only [zz hA, zb, zy, reduceCtorEq, Bool.false_eq_true, Int.reduceLT, Int.reduceLE, Int.reduceNeg] at hc) <;> (try simp only [zw] at hc)) <;> (try (exfalso; omega)))
                  | ((first | (refine NX.k 1 ?_; first | refine NX.one (One.elemM hA tabOk rfl rfl rfl rfl ?_ ?_) ?_ | refine NX.one (One.elemOwnM hA tabOk rfl rfl rfl rfl rfl ?_ ?_) ?_) | (refine NX.k 7 ?_; first | refine NX.one (One.concatM hA rfl rfl rfl ?_) ?_) | (refine NX.k 8 ?_; first | refine NX.one (One.eqBoolM hA tabOk rfl rfl rfl rfl rfl) ?_) | (refine NX.k 10 ?_; first | refine NX.one (One.lenOwnM hA tabOk rfl rfl rfl rfl) ?_) | (refine NX.k 14 ?_; first | refine NX.one (One.loadRatM hA tabOk rfl rfl rfl rfl rfl rfl ?_) ?_) | (refine NX.k 18 ?_; first | refine NX.one (One.fieldRat tabOk rfl rfl rfl rfl (by decide) rfl rfl) ?_)) <;> (first | refine AOLg.pass ?_ | (((try simp only [zn]) <;> (try simp (disch := omega) only [zz hA, zb, zy, reduceCtorEq, Bool.false_eq_true, Int.reduceLT, Int.reduceLE, Int.reduceNeg]) <;> (try simp only [zw])) <;> omega)))
                  | refine NX.raw ?_)
              | refine Thn.exit ?_
              | refine Blk.here ?_
              | refine Blk.other (by decide) ?_
              | refine ⟨.inl rfl, _, RetOk.ev tabOk (by conv => lhs; cbv), ?_⟩
              | fail)
            refine AWp.loopU (fun i : Nat => [(10, .ic (.lit (.int .i64 (hid A (cN i))))), (9, .ic (.lit (.int .i64 (hid A (cN (hasT V s i))))))]) (fun _ => []) (fun i => V.length - i) (fun i => i ≤ V.length) 0 (by conv => lhs; cbv) (Nat.zero_le _) (.int rfl (by simp [hA, real, hid, cN]) (.int rfl (by simp [hA, real, hid, cN, hasT]) .nil)) rfl ?_
            intro j hj0
            have hhl := hasT_le V s j
            by_cases hj : j < V.length
            · have hhs : hasT V s (j + 1) = hasT V s j + (if eqS (V.getD j default) s = true then 1 else 0) := rfl
              unfold eqS at hhs
              generalize hH2 : hasT V s (j + 1) = H2 at *
              generalize hasT V s j = H1 at *
              try first | refine AOLg.of [] ?_ | refine QSg.of [] ?_
              repeat' (first
                | (refine AWp.pass ?_; first
                    | refine AWp.seq ?_
                    | refine AWp.block ?_
                    | refine AWp.skip ?_
                    | refine AWp.regG [] (by conv => lhs; cbv) ?_
                    | refine AWp.cond_t rfl ?_
                    | refine AWp.cond_f rfl ?_
                    | (refine AWp.cond rfl ?_ ?_ <;> intro hc <;> (try rw [hc]) <;> ((try simp only [zn] at hc) <;> (try simp (disch := omega) only [zz hA, zb, zy, reduceCtorEq, Bool.false_eq_true, Int.reduceLT, Int.reduceLE, Int.reduceNeg] at hc) <;> (try simp only [zw] at hc)) <;> (try (exfalso; omega)))
                    | refine AWp.exit ?_
                    | refine AWp.ret ⟨.inr rfl, _, RetOk.ev tabOk (by conv => lhs; cbv), ?_⟩)
                | (refine AOLg.pass ?_; refine AOLg.nx hA tabOk (by conv => lhs; cbv) ?_; first
                    | refine NX.done ?_
                    | refine NX.gt ?_
                    | refine NX.gf ?_
                    | (refine NX.gs ?_ ?_ <;> intro hc <;> rw [hc] <;> ((try simp only [zn] at hc) <;> (try simp (disch := omega) only [zz hA, zb, zy, reduceCtorEq, Bool.false_eq_true, Int.reduceLT, Int.reduceLE, Int.reduceNeg] at hc) <;> (try simp only [zw] at hc)) <;> (try (exfalso; omega)))
                    | ((first | (refine NX.k 1 ?_; first | refine NX.one (One.elemM hA tabOk rfl rfl rfl rfl ?_ ?_) ?_ | refine NX.one (One.elemOwnM hA tabOk rfl rfl rfl rfl rfl ?_ ?_) ?_) | (refine NX.k 7 ?_; first | refine NX.one (One.concatM hA rfl rfl rfl ?_) ?_) | (refine NX.k 8 ?_; first | refine NX.one (One.eqBoolM hA tabOk rfl rfl rfl rfl rfl) ?_) | (refine NX.k 10 ?_; first | refine NX.one (One.lenOwnM hA tabOk rfl rfl rfl rfl) ?_) | (refine NX.k 14 ?_; first | refine NX.one (One.loadRatM hA tabOk rfl rfl rfl rfl rfl rfl ?_) ?_) | (refine NX.k 18 ?_; first | refine NX.one (One.fieldRat tabOk rfl rfl rfl rfl (by decide) rfl rfl) ?_)) <;> (first | refine AOLg.pass ?_ | (((try simp only [zn]) <;> (try simp (disch := omega) only [zz hA, zb, zy, reduceCtorEq, Bool.false_eq_true, Int.reduceLT, Int.reduceLE, Int.reduceNeg]) <;> (try simp only [zw])) <;> omega)))
                    | refine NX.raw ?_)
                | refine Thn.exit ?_
                | refine Blk.here ?_
                | refine Blk.other (by decide) ?_
                | refine ⟨.inl rfl, _, RetOk.ev tabOk (by conv => lhs; cbv), ?_⟩
                | fail)
              all_goals
                refine ⟨j + 1, by omega, by omega, rfl, rfl, ?_, (by repeat' (first | exact subE.nil | refine subE.cons rfl ?_))⟩
                refine .int rfl (by (((try simp only [zn]) <;> (try simp (disch := omega) only [zz hA, zb, zy, reduceCtorEq, Bool.false_eq_true, Int.reduceLT, Int.reduceLE, Int.reduceNeg]) <;> (try simp only [zw])) <;> omega)) (.int rfl ?_ .nil)
                rw [hH2]
                simp only [decide_eq_true_eq] at hhs
                first
                  | (rw [if_pos ‹_›] at hhs; (((try simp only [zn]) <;> (try simp (disch := omega) only [zz hA, zb, zy, reduceCtorEq, Bool.false_eq_true, Int.reduceLT, Int.reduceLE, Int.reduceNeg]) <;> (try simp only [zw])) <;> omega))
                  | (rw [if_neg ‹_›] at hhs; (((try simp only [zn]) <;> (try simp (disch := omega) only [zz hA, zb, zy, reduceCtorEq, Bool.false_eq_true, Int.reduceLT, Int.reduceLE, Int.reduceNeg]) <;> (try simp only [zw])) <;> omega))
            · obtain rfl : j = V.length := by omega
              generalize hasT V s V.length = h at *
              subst hhas
              try first | refine AOLg.of [] ?_ | refine QSg.of [] ?_
              repeat' (first
                | (refine AWp.pass ?_; first
                    | refine AWp.seq ?_
                    | refine AWp.block ?_
                    | refine AWp.skip ?_
                    | refine AWp.regG [] (by conv => lhs; cbv) ?_
                    | refine AWp.cond_t rfl ?_
                    | refine AWp.cond_f rfl ?_
                    | (refine AWp.cond rfl ?_ ?_ <;> intro hc <;> (try rw [hc]) <;> ((try simp only [zn] at hc) <;> (try simp (disch := omega) only [zz hA, zb, zy, reduceCtorEq, Bool.false_eq_true, Int.reduceLT, Int.reduceLE, Int.reduceNeg] at hc) <;> (try simp only [zw] at hc)) <;> (try (exfalso; omega)))
                    | refine AWp.exit ?_
                    | refine AWp.ret ⟨.inr rfl, _, RetOk.ev tabOk (by conv => lhs; cbv), ?_⟩)
                | (refine AOLg.pass ?_; refine AOLg.nx hA tabOk (by conv => lhs; cbv) ?_; first
                    | refine NX.done ?_
                    | refine NX.gt ?_
                    | refine NX.gf ?_
                    | (refine NX.gs ?_ ?_ <;> intro hc <;> rw [hc] <;> ((try simp only [zn] at hc) <;> (try simp (disch := omega) only [zz hA, zb, zy, reduceCtorEq, Bool.false_eq_true, Int.reduceLT, Int.reduceLE, Int.reduceNeg] at hc) <;> (try simp only [zw] at hc)) <;> (try (exfalso; omega)))
                    | ((first | (refine NX.k 1 ?_; first | refine NX.one (One.elemM hA tabOk rfl rfl rfl rfl ?_ ?_) ?_ | refine NX.one (One.elemOwnM hA tabOk rfl rfl rfl rfl rfl ?_ ?_) ?_) | (refine NX.k 7 ?_; first | refine NX.one (One.concatM hA rfl rfl rfl ?_) ?_) | (refine NX.k 8 ?_; first | refine NX.one (One.eqBoolM hA tabOk rfl rfl rfl rfl rfl) ?_) | (refine NX.k 10 ?_; first | refine NX.one (One.lenOwnM hA tabOk rfl rfl rfl rfl) ?_) | (refine NX.k 14 ?_; first | refine NX.one (One.loadRatM hA tabOk rfl rfl rfl rfl rfl rfl ?_) ?_) | (refine NX.k 18 ?_; first | refine NX.one (One.fieldRat tabOk rfl rfl rfl rfl (by decide) rfl rfl) ?_)) <;> (first | refine AOLg.pass ?_ | (((try simp only [zn]) <;> (try simp (disch := omega) only [zz hA, zb, zy, reduceCtorEq, Bool.false_eq_true, Int.reduceLT, Int.reduceLE, Int.reduceNeg]) <;> (try simp only [zw])) <;> omega)))
                    | refine NX.raw ?_)
                | refine Thn.exit ?_
                | refine Blk.here ?_
                | refine Blk.other (by decide) ?_
                | refine ⟨.inl rfl, _, RetOk.ev tabOk (by conv => lhs; cbv), ?_⟩
                | fail)
              first | (exfalso; omega) | (refine rPV_then (by conv => lhs; cbv) ?_; rfl) | (refine rPV_then (by conv => lhs; cbv) ?_; refine congrArg (fun b => PV.c (IC.lit (Value.bool b))) ?_; ((try simp only [zn]) <;> (try simp (disch := omega) only [zz hA, zb, zy, reduceCtorEq, Bool.false_eq_true, Int.reduceLT, Int.reduceLE, Int.reduceNeg]) <;> (try simp only [zw])); done) | (refine rPV_then (by conv => lhs; cbv) ?_; refine congrArg (fun b => PV.c (IC.lit (Value.bool b))) ?_; ((try simp only [zn]) <;> (try simp (disch := omega) only [zz hA, zb, zy, reduceCtorEq, Bool.false_eq_true, Int.reduceLT, Int.reduceLE, Int.reduceNeg]) <;> (try simp only [zw])); omega) | fail)
      · try first | refine AOLg.of [] ?_ | refine QSg.of [] ?_
        repeat' (first
          | (refine AWp.pass ?_; first
              | refine AWp.seq ?_
              | refine AWp.block ?_
              | refine AWp.skip ?_
              | refine AWp.regG [] (by conv => lhs; cbv) ?_
              | refine AWp.cond_t rfl ?_
              | refine AWp.cond_f rfl ?_
              | (refine AWp.cond rfl ?_ ?_ <;> intro hc <;> (try rw [hc]) <;> ((try simp only [zn] at hc) <;> (try simp (disch := omega) only [zz hA, zb, zy, reduceCtorEq, Bool.false_eq_true, Int.reduceLT, Int.reduceLE, Int.reduceNeg] at hc) <;> (try simp only [zw] at hc)) <;> (try (exfalso; omega)))
              | refine AWp.exit ?_
              | refine AWp.ret ⟨.inr rfl, _, RetOk.ev tabOk (by conv => lhs; cbv), ?_⟩)
          | (refine AOLg.pass ?_; refine AOLg.nx hA tabOk (by conv => lhs; cbv) ?_; first
              | refine NX.done ?_
              | refine NX.gt ?_
              | refine NX.gf ?_
              | (refine NX.gs ?_ ?_ <;> intro hc <;> rw [hc] <;> ((try simp only [zn] at hc) <;> (try simp (disch := omega) only [zz hA, zb, zy, reduceCtorEq, Bool.false_eq_true, Int.reduceLT, Int.reduceLE, Int.reduceNeg] at hc) <;> (try simp only [zw] at hc)) <;> (try (exfalso; omega)))
              | (refine NX.kC ?_; first | (with_reducible refine NX.call (hsh) ?_) | (with_reducible refine NX.call (hw) ?_) | (with_reducible refine NX.call (hr) ?_) | ((first | refine NX.call (hsh) ?_ | refine NX.call (hw) ?_ | refine NX.call (hr) ?_)) | fail)
              | (refine NX.kO ?_; (first | refine NX.callO (hsh) (by simp [allEq]) rfl ?_ | refine NX.callO (hw) (by simp [allEq]) rfl ?_ | refine NX.callO (hr) (by simp [allEq]) rfl ?_))
              | ((first | (refine NX.k 1 ?_; first | refine NX.one (One.elemM hA tabOk rfl rfl rfl rfl ?_ ?_) ?_ | refine NX.one (One.elemOwnM hA tabOk rfl rfl rfl rfl rfl ?_ ?_) ?_) | (refine NX.k 7 ?_; first | refine NX.one (One.concatM hA rfl rfl rfl ?_) ?_) | (refine NX.k 8 ?_; first | refine NX.one (One.eqBoolM hA tabOk rfl rfl rfl rfl rfl) ?_) | (refine NX.k 10 ?_; first | refine NX.one (One.lenOwnM hA tabOk rfl rfl rfl rfl) ?_) | (refine NX.k 14 ?_; first | refine NX.one (One.loadRatM hA tabOk rfl rfl rfl rfl rfl rfl ?_) ?_) | (refine NX.k 18 ?_; first | refine NX.one (One.fieldRat tabOk rfl rfl rfl rfl (by decide) rfl rfl) ?_)) <;> (first | refine AOLg.pass ?_ | (((try simp only [zn]) <;> (try simp (disch := omega) only [zz hA, zb, zy, reduceCtorEq, Bool.false_eq_true, Int.reduceLT, Int.reduceLE, Int.reduceNeg]) <;> (try simp only [zw])) <;> omega)))
              | refine NX.raw ?_)
          | refine Thn.exit ?_
          | refine Blk.here ?_
          | refine Blk.other (by decide) ?_
          | refine ⟨.inl rfl, _, RetOk.ev tabOk (by conv => lhs; cbv), ?_⟩
          | fail)
        first | (exfalso; omega) | (refine rPV_then (by conv => lhs; cbv) ?_; rfl) | (refine rPV_then (by conv => lhs; cbv) ?_; refine congrArg (fun b => PV.c (IC.lit (Value.bool b))) ?_; ((try simp only [zn]) <;> (try simp (disch := omega) only [zz hA, zb, zy, reduceCtorEq, Bool.false_eq_true, Int.reduceLT, Int.reduceLE, Int.reduceNeg]) <;> (try simp only [zw])); done) | (refine rPV_then (by conv => lhs; cbv) ?_; refine congrArg (fun b => PV.c (IC.lit (Value.bool b))) ?_; ((try simp only [zn]) <;> (try simp (disch := omega) only [zz hA, zb, zy, reduceCtorEq, Bool.false_eq_true, Int.reduceLT, Int.reduceLE, Int.reduceNeg]) <;> (try simp only [zw])); omega) | fail
  · rw [show fewD E = false from decide_eq_false hf, hid_eq hA (α := Bool)] at hw
    refine PureCalls.of Try.func6 rfl (by kernel_rfl) rfl ?_
    try first | refine AOLg.of [] ?_ | refine QSg.of [] ?_
    repeat' (first
      | (refine AWp.pass ?_; first
          | refine AWp.seq ?_
          | refine AWp.block ?_
          | refine AWp.skip ?_
          | refine AWp.regG [] (by conv => lhs; cbv) ?_
          | refine AWp.cond_t rfl ?_
          | refine AWp.cond_f rfl ?_
          | (refine AWp.cond rfl ?_ ?_ <;> intro hc <;> (try rw [hc]) <;> ((try simp only [zn] at hc) <;> (try simp (disch := omega) only [zz hA, zb, zy, reduceCtorEq, Bool.false_eq_true, Int.reduceLT, Int.reduceLE, Int.reduceNeg] at hc) <;> (try simp only [zw] at hc)) <;> (try (exfalso; omega)))
          | refine AWp.exit ?_
          | refine AWp.ret ⟨.inr rfl, _, RetOk.ev tabOk (by conv => lhs; cbv), ?_⟩)
      | (refine AOLg.pass ?_; refine AOLg.nx hA tabOk (by conv => lhs; cbv) ?_; first
          | refine NX.done ?_
          | refine NX.gt ?_
          | refine NX.gf ?_
          | (refine NX.gs ?_ ?_ <;> intro hc <;> rw [hc] <;> ((try simp only [zn] at hc) <;> (try simp (disch := omega) only [zz hA, zb, zy, reduceCtorEq, Bool.false_eq_true, Int.reduceLT, Int.reduceLE, Int.reduceNeg] at hc) <;> (try simp only [zw] at hc)) <;> (try (exfalso; omega)))
          | (refine NX.kC ?_; first | (with_reducible refine NX.call (hsh) ?_) | (with_reducible refine NX.call (hw) ?_) | ((first | refine NX.call (hsh) ?_ | refine NX.call (hw) ?_)) | fail)
          | (refine NX.kO ?_; (first | refine NX.callO (hsh) (by simp [allEq]) rfl ?_ | refine NX.callO (hw) (by simp [allEq]) rfl ?_))
          | ((first | (refine NX.k 1 ?_; first | refine NX.one (One.elemM hA tabOk rfl rfl rfl rfl ?_ ?_) ?_ | refine NX.one (One.elemOwnM hA tabOk rfl rfl rfl rfl rfl ?_ ?_) ?_) | (refine NX.k 7 ?_; first | refine NX.one (One.concatM hA rfl rfl rfl ?_) ?_) | (refine NX.k 8 ?_; first | refine NX.one (One.eqBoolM hA tabOk rfl rfl rfl rfl rfl) ?_) | (refine NX.k 10 ?_; first | refine NX.one (One.lenOwnM hA tabOk rfl rfl rfl rfl) ?_) | (refine NX.k 14 ?_; first | refine NX.one (One.loadRatM hA tabOk rfl rfl rfl rfl rfl rfl ?_) ?_) | (refine NX.k 18 ?_; first | refine NX.one (One.fieldRat tabOk rfl rfl rfl rfl (by decide) rfl rfl) ?_)) <;> (first | refine AOLg.pass ?_ | (((try simp only [zn]) <;> (try simp (disch := omega) only [zz hA, zb, zy, reduceCtorEq, Bool.false_eq_true, Int.reduceLT, Int.reduceLE, Int.reduceNeg]) <;> (try simp only [zw])) <;> omega)))
          | refine NX.raw ?_)
      | refine Thn.exit ?_
      | refine Blk.here ?_
      | refine Blk.other (by decide) ?_
      | refine ⟨.inl rfl, _, RetOk.ev tabOk (by conv => lhs; cbv), ?_⟩
      | fail)
    first | (exfalso; omega) | (refine rPV_then (by conv => lhs; cbv) ?_; rfl) | (refine rPV_then (by conv => lhs; cbv) ?_; refine congrArg (fun b => PV.c (IC.lit (Value.bool b))) ?_; ((try simp only [zn]) <;> (try simp (disch := omega) only [zz hA, zb, zy, reduceCtorEq, Bool.false_eq_true, Int.reduceLT, Int.reduceLE, Int.reduceNeg]) <;> (try simp only [zw])); done) | (refine rPV_then (by conv => lhs; cbv) ?_; refine congrArg (fun b => PV.c (IC.lit (Value.bool b))) ?_; ((try simp only [zn]) <;> (try simp (disch := omega) only [zz hA, zb, zy, reduceCtorEq, Bool.false_eq_true, Int.reduceLT, Int.reduceLE, Int.reduceNeg]) <;> (try simp only [zw])); omega) | fail
set_option maxHeartbeats 4000000 in
theorem unknown_law (E : List Nd) (s : Int) (hsz2 : FitD E) : PureCalls Try.prog 9 [slP A 3 (encD A) E, UP s] (BP true) := by
  have hsh := shown8_c hA
  have hw := few_c hA E hsz2
  by_cases hf : wtD E ≤ 600
  · have hr := rRight_c hA E hf
    rw [show fewD E = true from decide_eq_true hf, hid_eq hA (α := Bool)] at hw
    cases hrd : rightD E with
    | false =>
      rw [hrd, hid_eq hA (α := Bool)] at hr
      refine PureCalls.of Try.func9 rfl (by kernel_rfl) rfl ?_
      try first | refine AOLg.of [] ?_ | refine QSg.of [] ?_
      repeat' (first
        | (refine AWp.pass ?_; first
            | refine AWp.seq ?_
            | refine AWp.block ?_
            | refine AWp.skip ?_
            | refine AWp.regG [] (by conv => lhs; cbv) ?_
            | refine AWp.cond_t rfl ?_
            | refine AWp.cond_f rfl ?_
            | (refine AWp.cond rfl ?_ ?_ <;> intro hc <;> (try rw [hc]) <;> ((try simp only [zn] at hc) <;> (try simp (disch := omega) only [zz hA, zb, zy, reduceCtorEq, Bool.false_eq_true, Int.reduceLT, Int.reduceLE, Int.reduceNeg] at hc) <;> (try simp only [zw] at hc)) <;> (try (exfalso; omega)))
            | refine AWp.exit ?_
            | refine AWp.ret ⟨.inr rfl, _, RetOk.ev tabOk (by conv => lhs; cbv), ?_⟩)
        | (refine AOLg.pass ?_; refine AOLg.nx hA tabOk (by conv => lhs; cbv) ?_; first
            | refine NX.done ?_
            | refine NX.gt ?_
            | refine NX.gf ?_
            | (refine NX.gs ?_ ?_ <;> intro hc <;> rw [hc] <;> ((try simp only [zn] at hc) <;> (try simp (disch := omega) only [zz hA, zb, zy, reduceCtorEq, Bool.false_eq_true, Int.reduceLT, Int.reduceLE, Int.reduceNeg] at hc) <;> (try simp only [zw] at hc)) <;> (try (exfalso; omega)))
            | (refine NX.kC ?_; first | (with_reducible refine NX.call (hsh) ?_) | (with_reducible refine NX.call (hw) ?_) | (with_reducible refine NX.call (hr) ?_) | ((first | refine NX.call (hsh) ?_ | refine NX.call (hw) ?_ | refine NX.call (hr) ?_)) | fail)
            | (refine NX.kO ?_; (first | refine NX.callO (hsh) (by simp [allEq]) rfl ?_ | refine NX.callO (hw) (by simp [allEq]) rfl ?_ | refine NX.callO (hr) (by simp [allEq]) rfl ?_))
            | ((first | (refine NX.k 1 ?_; first | refine NX.one (One.elemM hA tabOk rfl rfl rfl rfl ?_ ?_) ?_ | refine NX.one (One.elemOwnM hA tabOk rfl rfl rfl rfl rfl ?_ ?_) ?_) | (refine NX.k 7 ?_; first | refine NX.one (One.concatM hA rfl rfl rfl ?_) ?_) | (refine NX.k 8 ?_; first | refine NX.one (One.eqBoolM hA tabOk rfl rfl rfl rfl rfl) ?_) | (refine NX.k 9 ?_; first | refine NX.one (One.neBoolM hA tabOk rfl rfl rfl rfl rfl) ?_) | (refine NX.k 10 ?_; first | refine NX.one (One.lenOwnM hA tabOk rfl rfl rfl rfl) ?_) | (refine NX.k 14 ?_; first | refine NX.one (One.loadRatM hA tabOk rfl rfl rfl rfl rfl rfl ?_) ?_) | (refine NX.k 18 ?_; first | refine NX.one (One.fieldRat tabOk rfl rfl rfl rfl (by decide) rfl rfl) ?_)) <;> (first | refine AOLg.pass ?_ | (((try simp only [zn]) <;> (try simp (disch := omega) only [zz hA, zb, zy, reduceCtorEq, Bool.false_eq_true, Int.reduceLT, Int.reduceLE, Int.reduceNeg]) <;> (try simp only [zw])) <;> omega)))
            | refine NX.raw ?_)
        | refine Thn.exit ?_
        | refine Blk.here ?_
        | refine Blk.other (by decide) ?_
        | refine ⟨.inl rfl, _, RetOk.ev tabOk (by conv => lhs; cbv), ?_⟩
        | fail)
      first | (exfalso; omega) | (refine rPV_then (by conv => lhs; cbv) ?_; rfl) | (refine rPV_then (by conv => lhs; cbv) ?_; refine congrArg (fun b => PV.c (IC.lit (Value.bool b))) ?_; ((try simp only [zn]) <;> (try simp (disch := omega) only [zz hA, zb, zy, reduceCtorEq, Bool.false_eq_true, Int.reduceLT, Int.reduceLE, Int.reduceNeg]) <;> (try simp only [zw])); done) | (refine rPV_then (by conv => lhs; cbv) ?_; refine congrArg (fun b => PV.c (IC.lit (Value.bool b))) ?_; ((try simp only [zn]) <;> (try simp (disch := omega) only [zz hA, zb, zy, reduceCtorEq, Bool.false_eq_true, Int.reduceLT, Int.reduceLE, Int.reduceNeg]) <;> (try simp only [zw])); omega) | fail
    | true =>
      rw [hrd, hid_eq hA (α := Bool)] at hr
      obtain ⟨hg, h1, h2⟩ := rightD_good hrd
      have hel : E.length ≤ 600 := by have := wtD_len E; omega
      have hv1 := sVars_c hA E (by omega)
      have hv2 := rVars_c hA E (by omega)
      have hck := sCheck_c hA [] E s (by simp) (by simp [FitG]) hg h1 (by omega)
      have hrn := sigRight_c hA [] (by simp)
      rw [show rightG [] = true by rfl, hid_eq hA (α := Bool)] at hrn
      generalize varsD E = V at *
      refine PureCalls.of Try.func9 rfl (by kernel_rfl) rfl ?_
      rcases check_cases [] E (sidesD [] E s) with ⟨e1, e2, h3⟩ | ⟨n, hn, e1, e2, e3, h3⟩
      · rw [e1, e2] at hck
        simp only [hid_eq hA (α := Int)] at hck
        try first | refine AOLg.of [] ?_ | refine QSg.of [] ?_
        repeat' (first
          | (refine AWp.pass ?_; first
              | refine AWp.seq ?_
              | refine AWp.block ?_
              | refine AWp.skip ?_
              | refine AWp.regG [] (by conv => lhs; cbv) ?_
              | refine AWp.cond_t rfl ?_
              | refine AWp.cond_f rfl ?_
              | (refine AWp.cond rfl ?_ ?_ <;> intro hc <;> (try rw [hc]) <;> ((try simp only [zn] at hc) <;> (try simp (disch := omega) only [zz hA, zb, zy, reduceCtorEq, Bool.false_eq_true, Int.reduceLT, Int.reduceLE, Int.reduceNeg] at hc) <;> (try simp only [zw] at hc)) <;> (try (exfalso; omega)))
              | refine AWp.exit ?_
              | refine AWp.ret ⟨.inr rfl, _, RetOk.ev tabOk (by conv => lhs; cbv), ?_⟩)
          | (refine AOLg.pass ?_; refine AOLg.nx hA tabOk (by conv => lhs; cbv) ?_; first
              | refine NX.done ?_
              | refine NX.gt ?_
              | refine NX.gf ?_
              | (refine NX.gs ?_ ?_ <;> intro hc <;> rw [hc] <;> ((try simp only [zn] at hc) <;> (try simp (disch := omega) only [zz hA, zb, zy, reduceCtorEq, Bool.false_eq_true, Int.reduceLT, Int.reduceLE, Int.reduceNeg] at hc) <;> (try simp only [zw] at hc)) <;> (try (exfalso; omega)))
              | (refine NX.kC ?_; first | (with_reducible refine NX.call (hsh) ?_) | (with_reducible refine NX.call (hw) ?_) | (with_reducible refine NX.call (hr) ?_) | (with_reducible refine NX.call (hck) ?_) | (with_reducible refine NX.call (hv1) ?_) | (with_reducible refine NX.call (hv2) ?_) | (with_reducible refine NX.call (hrn) ?_) | (refine NX.call (PureCalls.weaken (hck) ?_) ?_ <;> (first | refine AOLg.pass ?_ | ((with_reducible repeat' (first | exact PLes.nil | exact ILes.nil | refine PLes.cons (PLe.refl _) ?_ | refine PLes.cons (PLe.c (ILe.nilM hA _ _ _ _)) ?_ | refine PLes.cons (PLe.agg ?_) ?_ | refine ILes.cons (ILe.refl _) ?_ | refine ILes.cons (ILe.nilM hA _ _ _ _) ?_)); done) | (((try simp only [zn]) <;> (try simp (disch := omega) only [zz hA, zb, zy, reduceCtorEq, Bool.false_eq_true, Int.reduceLT, Int.reduceLE, Int.reduceNeg]) <;> (try simp only [zw])) <;> omega))) | (refine NX.call (PureCalls.weaken (hrn) ?_) ?_ <;> (first | refine AOLg.pass ?_ | ((with_reducible repeat' (first | exact PLes.nil | exact ILes.nil | refine PLes.cons (PLe.refl _) ?_ | refine PLes.cons (PLe.c (ILe.nilM hA _ _ _ _)) ?_ | refine PLes.cons (PLe.agg ?_) ?_ | refine ILes.cons (ILe.refl _) ?_ | refine ILes.cons (ILe.nilM hA _ _ _ _) ?_)); done) | (((try simp only [zn]) <;> (try simp (disch := omega) only [zz hA, zb, zy, reduceCtorEq, Bool.false_eq_true, Int.reduceLT, Int.reduceLE, Int.reduceNeg]) <;> (try simp only [zw])) <;> omega))) | ((first | refine NX.call (hsh) ?_ | refine NX.call (hw) ?_ | refine NX.call (hr) ?_ | refine NX.call (hck) ?_ | refine NX.call (hv1) ?_ | refine NX.call (hv2) ?_ | refine NX.call (hrn) ?_)) | fail)
              | (refine NX.kO ?_; (first | refine NX.callO (hsh) (by simp [allEq]) rfl ?_ | refine NX.callO (hw) (by simp [allEq]) rfl ?_ | refine NX.callO (hr) (by simp [allEq]) rfl ?_ | refine NX.callO (hck) (by simp [allEq]) rfl ?_ | refine NX.callO (hv1) (by simp [allEq]) rfl ?_ | refine NX.callO (hv2) (by simp [allEq]) rfl ?_ | refine NX.callO (hrn) (by simp [allEq]) rfl ?_))
              | ((first | (refine NX.k 1 ?_; first | refine NX.one (One.elemM hA tabOk rfl rfl rfl rfl ?_ ?_) ?_ | refine NX.one (One.elemOwnM hA tabOk rfl rfl rfl rfl rfl ?_ ?_) ?_) | (refine NX.k 7 ?_; first | refine NX.one (One.concatM hA rfl rfl rfl ?_) ?_) | (refine NX.k 8 ?_; first | refine NX.one (One.eqBoolM hA tabOk rfl rfl rfl rfl rfl) ?_) | (refine NX.k 9 ?_; first | refine NX.one (One.neBoolM hA tabOk rfl rfl rfl rfl rfl) ?_) | (refine NX.k 10 ?_; first | refine NX.one (One.lenOwnM hA tabOk rfl rfl rfl rfl) ?_) | (refine NX.k 14 ?_; first | refine NX.one (One.loadRatM hA tabOk rfl rfl rfl rfl rfl rfl ?_) ?_) | (refine NX.k 18 ?_; first | refine NX.one (One.fieldRat tabOk rfl rfl rfl rfl (by decide) rfl rfl) ?_)) <;> (first | refine AOLg.pass ?_ | (((try simp only [zn]) <;> (try simp (disch := omega) only [zz hA, zb, zy, reduceCtorEq, Bool.false_eq_true, Int.reduceLT, Int.reduceLE, Int.reduceNeg]) <;> (try simp only [zw])) <;> omega)))
              | refine NX.raw ?_)
          | refine Thn.exit ?_
          | refine Blk.here ?_
          | refine Blk.other (by decide) ?_
          | refine ⟨.inl rfl, _, RetOk.ev tabOk (by conv => lhs; cbv), ?_⟩
          | fail)
        refine AWp.loopU (fun i : Nat => [(8, .ic (.lit (.int .i64 (hid A (cN i)))))]) (fun _ => []) (fun i => E.length - i) (fun i => i ≤ E.length) 0 (by conv => lhs; cbv) (Nat.zero_le _) (.int rfl (by simp [hA, real, hid, cN]) .nil) rfl ?_
        intro i hi0
        by_cases hi : i < E.length
        · have hk3 := (wAt_nil E (sidesD [] E s) i).1
          rw [h3 i hi] at hk3
          have hk4 : ndK (E.getD i default) ≠ 3 ∧ ndK (E.getD i default) ≠ 6 := by omega
          try first | refine AOLg.of [] ?_ | refine QSg.of [] ?_
          repeat' (first
            | (refine AWp.pass ?_; first
                | refine AWp.seq ?_
                | refine AWp.block ?_
                | refine AWp.skip ?_
                | refine AWp.regG [] (by conv => lhs; cbv) ?_
                | refine AWp.cond_t rfl ?_
                | refine AWp.cond_f rfl ?_
                | (refine AWp.cond rfl ?_ ?_ <;> intro hc <;> (try rw [hc]) <;> ((try simp only [zn] at hc) <;> (try simp (disch := omega) only [zz hA, zb, zy, reduceCtorEq, Bool.false_eq_true, Int.reduceLT, Int.reduceLE, Int.reduceNeg] at hc) <;> (try simp only [zw] at hc)) <;> (try (exfalso; omega)))
                | refine AWp.exit ?_
                | refine AWp.ret ⟨.inr rfl, _, RetOk.ev tabOk (by conv => lhs; cbv), ?_⟩)
            | (refine AOLg.pass ?_; refine AOLg.nx hA tabOk (by conv => lhs; cbv) ?_; first
                | refine NX.done ?_
                | refine NX.gt ?_
                | refine NX.gf ?_
                | (refine NX.gs ?_ ?_ <;> intro hc <;> rw [hc] <;> ((try simp only [zn] at hc) <;> (try simp (disch := omega) only [zz hA, zb, zy, reduceCtorEq, Bool.false_eq_true, Int.reduceLT, Int.reduceLE, Int.reduceNeg] at hc) <;> (try simp only [zw] at hc)) <;> (try (exfalso; omega)))
                | ((first | (refine NX.k 1 ?_; first | refine NX.one (One.elemM hA tabOk rfl rfl rfl rfl ?_ ?_) ?_ | refine NX.one (One.elemOwnM hA tabOk rfl rfl rfl rfl rfl ?_ ?_) ?_) | (refine NX.k 7 ?_; first | refine NX.one (One.concatM hA rfl rfl rfl ?_) ?_) | (refine NX.k 8 ?_; first | refine NX.one (One.eqBoolM hA tabOk rfl rfl rfl rfl rfl) ?_) | (refine NX.k 9 ?_; first | refine NX.one (One.neBoolM hA tabOk rfl rfl rfl rfl rfl) ?_) | (refine NX.k 10 ?_; first | refine NX.one (One.lenOwnM hA tabOk rfl rfl rfl rfl) ?_) | (refine NX.k 14 ?_; first | refine NX.one (One.loadRatM hA tabOk rfl rfl rfl rfl rfl rfl ?_) ?_) | (refine NX.k 18 ?_; first | refine NX.one (One.fieldRat tabOk rfl rfl rfl rfl (by decide) rfl rfl) ?_)) <;> (first | refine AOLg.pass ?_ | (((try simp only [zn]) <;> (try simp (disch := omega) only [zz hA, zb, zy, reduceCtorEq, Bool.false_eq_true, Int.reduceLT, Int.reduceLE, Int.reduceNeg]) <;> (try simp only [zw])) <;> omega)))
                | refine NX.raw ?_)
            | refine Thn.exit ?_
            | refine Blk.here ?_
            | refine Blk.other (by decide) ?_
            | refine ⟨.inl rfl, _, RetOk.ev tabOk (by conv => lhs; cbv), ?_⟩
            | fail)
          refine ⟨i + 1, by omega, by omega, rfl, rfl, ?_, (by repeat' (first | exact subE.nil | refine subE.cons rfl ?_))⟩
          exact .int rfl (by (((try simp only [zn]) <;> (try simp (disch := omega) only [zz hA, zb, zy, reduceCtorEq, Bool.false_eq_true, Int.reduceLT, Int.reduceLE, Int.reduceNeg]) <;> (try simp only [zw])) <;> omega)) .nil
        · obtain rfl : i = E.length := by omega
          try first | refine AOLg.of [] ?_ | refine QSg.of [] ?_
          repeat' (first
            | (refine AWp.pass ?_; first
                | refine AWp.seq ?_
                | refine AWp.block ?_
                | refine AWp.skip ?_
                | refine AWp.regG [] (by conv => lhs; cbv) ?_
                | refine AWp.cond_t rfl ?_
                | refine AWp.cond_f rfl ?_
                | (refine AWp.cond rfl ?_ ?_ <;> intro hc <;> (try rw [hc]) <;> ((try simp only [zn] at hc) <;> (try simp (disch := omega) only [zz hA, zb, zy, reduceCtorEq, Bool.false_eq_true, Int.reduceLT, Int.reduceLE, Int.reduceNeg] at hc) <;> (try simp only [zw] at hc)) <;> (try (exfalso; omega)))
                | refine AWp.exit ?_
                | refine AWp.ret ⟨.inr rfl, _, RetOk.ev tabOk (by conv => lhs; cbv), ?_⟩)
            | (refine AOLg.pass ?_; refine AOLg.nx hA tabOk (by conv => lhs; cbv) ?_; first
                | refine NX.done ?_
                | refine NX.gt ?_
                | refine NX.gf ?_
                | (refine NX.gs ?_ ?_ <;> intro hc <;> rw [hc] <;> ((try simp only [zn] at hc) <;> (try simp (disch := omega) only [zz hA, zb, zy, reduceCtorEq, Bool.false_eq_true, Int.reduceLT, Int.reduceLE, Int.reduceNeg] at hc) <;> (try simp only [zw] at hc)) <;> (try (exfalso; omega)))
                | (refine NX.kC ?_; first | (with_reducible refine NX.call (hv1) ?_) | (with_reducible refine NX.call (hv2) ?_) | (with_reducible refine NX.call (hrn) ?_) | (refine NX.call (PureCalls.weaken (hrn) ?_) ?_ <;> (first | refine AOLg.pass ?_ | ((with_reducible repeat' (first | exact PLes.nil | exact ILes.nil | refine PLes.cons (PLe.refl _) ?_ | refine PLes.cons (PLe.c (ILe.nilM hA _ _ _ _)) ?_ | refine PLes.cons (PLe.agg ?_) ?_ | refine ILes.cons (ILe.refl _) ?_ | refine ILes.cons (ILe.nilM hA _ _ _ _) ?_)); done) | (((try simp only [zn]) <;> (try simp (disch := omega) only [zz hA, zb, zy, reduceCtorEq, Bool.false_eq_true, Int.reduceLT, Int.reduceLE, Int.reduceNeg]) <;> (try simp only [zw])) <;> omega))) | ((first | refine NX.call (hv1) ?_ | refine NX.call (hv2) ?_ | refine NX.call (hrn) ?_)) | fail)
                | (refine NX.kO ?_; (first | refine NX.callO (hv1) (by simp [allEq]) rfl ?_ | refine NX.callO (hv2) (by simp [allEq]) rfl ?_ | refine NX.callO (hrn) (by simp [allEq]) rfl ?_))
                | ((first | (refine NX.k 1 ?_; first | refine NX.one (One.elemM hA tabOk rfl rfl rfl rfl ?_ ?_) ?_ | refine NX.one (One.elemOwnM hA tabOk rfl rfl rfl rfl rfl ?_ ?_) ?_) | (refine NX.k 7 ?_; first | refine NX.one (One.concatM hA rfl rfl rfl ?_) ?_) | (refine NX.k 8 ?_; first | refine NX.one (One.eqBoolM hA tabOk rfl rfl rfl rfl rfl) ?_) | (refine NX.k 9 ?_; first | refine NX.one (One.neBoolM hA tabOk rfl rfl rfl rfl rfl) ?_) | (refine NX.k 10 ?_; first | refine NX.one (One.lenOwnM hA tabOk rfl rfl rfl rfl) ?_) | (refine NX.k 14 ?_; first | refine NX.one (One.loadRatM hA tabOk rfl rfl rfl rfl rfl rfl ?_) ?_) | (refine NX.k 18 ?_; first | refine NX.one (One.fieldRat tabOk rfl rfl rfl rfl (by decide) rfl rfl) ?_)) <;> (first | refine AOLg.pass ?_ | (((try simp only [zn]) <;> (try simp (disch := omega) only [zz hA, zb, zy, reduceCtorEq, Bool.false_eq_true, Int.reduceLT, Int.reduceLE, Int.reduceNeg]) <;> (try simp only [zw])) <;> omega)))
                | refine NX.raw ?_)
            | refine Thn.exit ?_
            | refine Blk.here ?_
            | refine Blk.other (by decide) ?_
            | refine ⟨.inl rfl, _, RetOk.ev tabOk (by conv => lhs; cbv), ?_⟩
            | fail)
          first | (exfalso; omega) | (refine rPV_then (by conv => lhs; cbv) ?_; rfl) | (refine rPV_then (by conv => lhs; cbv) ?_; refine congrArg (fun b => PV.c (IC.lit (Value.bool b))) ?_; ((try simp only [zn]) <;> (try simp (disch := omega) only [zz hA, zb, zy, reduceCtorEq, Bool.false_eq_true, Int.reduceLT, Int.reduceLE, Int.reduceNeg]) <;> (try simp only [zw])); done) | (refine rPV_then (by conv => lhs; cbv) ?_; refine congrArg (fun b => PV.c (IC.lit (Value.bool b))) ?_; ((try simp only [zn]) <;> (try simp (disch := omega) only [zz hA, zb, zy, reduceCtorEq, Bool.false_eq_true, Int.reduceLT, Int.reduceLE, Int.reduceNeg]) <;> (try simp only [zw])); omega) | fail
      · rw [e1, e2] at hck
        have hwn := wAt_nil E (sidesD [] E s) n
        generalize wAt [] E (sidesD [] E s) n = W at *
        have hW : W = 3 ∨ W = 6 := by omega
        generalize hz : (n : Int) = z at hck
        have hzt : z.toNat = n := by omega
        have hwz := hwn.2.2
        rw [← hzt] at hwz
        rcases hW with rfl | rfl <;> (
          simp only [hid_eq hA (α := Int)] at hck
          try first | refine AOLg.of [] ?_ | refine QSg.of [] ?_
          repeat' (first
            | (refine AWp.pass ?_; first
                | refine AWp.seq ?_
                | refine AWp.block ?_
                | refine AWp.skip ?_
                | refine AWp.regG [] (by conv => lhs; cbv) ?_
                | refine AWp.cond_t rfl ?_
                | refine AWp.cond_f rfl ?_
                | (refine AWp.cond rfl ?_ ?_ <;> intro hc <;> (try rw [hc]) <;> ((try simp only [zn] at hc) <;> (try simp (disch := omega) only [zz hA, zb, zy, reduceCtorEq, Bool.false_eq_true, Int.reduceLT, Int.reduceLE, Int.reduceNeg] at hc) <;> (try simp only [zw] at hc)) <;> (try (exfalso; omega)))
                | refine AWp.exit ?_
                | refine AWp.ret ⟨.inr rfl, _, RetOk.ev tabOk (by conv => lhs; cbv), ?_⟩)
            | (refine AOLg.pass ?_; refine AOLg.nx hA tabOk (by conv => lhs; cbv) ?_; first
                | refine NX.done ?_
                | refine NX.gt ?_
                | refine NX.gf ?_
                | (refine NX.gs ?_ ?_ <;> intro hc <;> rw [hc] <;> ((try simp only [zn] at hc) <;> (try simp (disch := omega) only [zz hA, zb, zy, reduceCtorEq, Bool.false_eq_true, Int.reduceLT, Int.reduceLE, Int.reduceNeg] at hc) <;> (try simp only [zw] at hc)) <;> (try (exfalso; omega)))
                | (refine NX.kC ?_; first | (with_reducible refine NX.call (hsh) ?_) | (with_reducible refine NX.call (hw) ?_) | (with_reducible refine NX.call (hr) ?_) | (with_reducible refine NX.call (hck) ?_) | (with_reducible refine NX.call (hv1) ?_) | (with_reducible refine NX.call (hv2) ?_) | (with_reducible refine NX.call (hrn) ?_) | (refine NX.call (PureCalls.weaken (hck) ?_) ?_ <;> (first | refine AOLg.pass ?_ | ((with_reducible repeat' (first | exact PLes.nil | exact ILes.nil | refine PLes.cons (PLe.refl _) ?_ | refine PLes.cons (PLe.c (ILe.nilM hA _ _ _ _)) ?_ | refine PLes.cons (PLe.agg ?_) ?_ | refine ILes.cons (ILe.refl _) ?_ | refine ILes.cons (ILe.nilM hA _ _ _ _) ?_)); done) | (((try simp only [zn]) <;> (try simp (disch := omega) only [zz hA, zb, zy, reduceCtorEq, Bool.false_eq_true, Int.reduceLT, Int.reduceLE, Int.reduceNeg]) <;> (try simp only [zw])) <;> omega))) | (refine NX.call (PureCalls.weaken (hrn) ?_) ?_ <;> (first | refine AOLg.pass ?_ | ((with_reducible repeat' (first | exact PLes.nil | exact ILes.nil | refine PLes.cons (PLe.refl _) ?_ | refine PLes.cons (PLe.c (ILe.nilM hA _ _ _ _)) ?_ | refine PLes.cons (PLe.agg ?_) ?_ | refine ILes.cons (ILe.refl _) ?_ | refine ILes.cons (ILe.nilM hA _ _ _ _) ?_)); done) | (((try simp only [zn]) <;> (try simp (disch := omega) only [zz hA, zb, zy, reduceCtorEq, Bool.false_eq_true, Int.reduceLT, Int.reduceLE, Int.reduceNeg]) <;> (try simp only [zw])) <;> omega))) | ((first | refine NX.call (hsh) ?_ | refine NX.call (hw) ?_ | refine NX.call (hr) ?_ | refine NX.call (hck) ?_ | refine NX.call (hv1) ?_ | refine NX.call (hv2) ?_ | refine NX.call (hrn) ?_)) | fail)
                | (refine NX.kO ?_; (first | refine NX.callO (hsh) (by simp [allEq]) rfl ?_ | refine NX.callO (hw) (by simp [allEq]) rfl ?_ | refine NX.callO (hr) (by simp [allEq]) rfl ?_ | refine NX.callO (hck) (by simp [allEq]) rfl ?_ | refine NX.callO (hv1) (by simp [allEq]) rfl ?_ | refine NX.callO (hv2) (by simp [allEq]) rfl ?_ | refine NX.callO (hrn) (by simp [allEq]) rfl ?_))
                | ((first | (refine NX.k 1 ?_; first | refine NX.one (One.elemM hA tabOk rfl rfl rfl rfl ?_ ?_) ?_ | refine NX.one (One.elemOwnM hA tabOk rfl rfl rfl rfl rfl ?_ ?_) ?_) | (refine NX.k 7 ?_; first | refine NX.one (One.concatM hA rfl rfl rfl ?_) ?_) | (refine NX.k 8 ?_; first | refine NX.one (One.eqBoolM hA tabOk rfl rfl rfl rfl rfl) ?_) | (refine NX.k 9 ?_; first | refine NX.one (One.neBoolM hA tabOk rfl rfl rfl rfl rfl) ?_) | (refine NX.k 10 ?_; first | refine NX.one (One.lenOwnM hA tabOk rfl rfl rfl rfl) ?_) | (refine NX.k 14 ?_; first | refine NX.one (One.loadRatM hA tabOk rfl rfl rfl rfl rfl rfl ?_) ?_) | (refine NX.k 18 ?_; first | refine NX.one (One.fieldRat tabOk rfl rfl rfl rfl (by decide) rfl rfl) ?_)) <;> (first | refine AOLg.pass ?_ | (((try simp only [zn]) <;> (try simp (disch := omega) only [zz hA, zb, zy, reduceCtorEq, Bool.false_eq_true, Int.reduceLT, Int.reduceLE, Int.reduceNeg]) <;> (try simp only [zw])) <;> omega)))
                | refine NX.raw ?_)
            | refine Thn.exit ?_
            | refine Blk.here ?_
            | refine Blk.other (by decide) ?_
            | refine ⟨.inl rfl, _, RetOk.ev tabOk (by conv => lhs; cbv), ?_⟩
            | fail)
          refine AWp.loopU (fun i : Nat => [(8, .ic (.lit (.int .i64 (hid A (cN i)))))]) (fun _ => []) (fun i => n - i) (fun i => i ≤ n) 0 (by conv => lhs; cbv) (Nat.zero_le _) (.int rfl (by simp [hA, real, hid, cN]) .nil) rfl ?_
          intro i hi0
          by_cases hi : i < n
          · have hk3 := (wAt_nil E (sidesD [] E s) i).1
            rw [h3 i hi] at hk3
            have hk4 : ndK (E.getD i default) ≠ 3 ∧ ndK (E.getD i default) ≠ 6 := by omega
            try first | refine AOLg.of [] ?_ | refine QSg.of [] ?_
            repeat' (first
              | (refine AWp.pass ?_; first
                  | refine AWp.seq ?_
                  | refine AWp.block ?_
                  | refine AWp.skip ?_
                  | refine AWp.regG [] (by conv => lhs; cbv) ?_
                  | refine AWp.cond_t rfl ?_
                  | refine AWp.cond_f rfl ?_
                  | (refine AWp.cond rfl ?_ ?_ <;> intro hc <;> (try rw [hc]) <;> ((try simp only [zn] at hc) <;> (try simp (disch := omega) only [zz hA, zb, zy, reduceCtorEq, Bool.false_eq_true, Int.reduceLT, Int.reduceLE, Int.reduceNeg] at hc) <;> (try simp only [zw] at hc)) <;> (try (exfalso; omega)))
                  | refine AWp.exit ?_
                  | refine AWp.ret ⟨.inr rfl, _, RetOk.ev tabOk (by conv => lhs; cbv), ?_⟩)
              | (refine AOLg.pass ?_; refine AOLg.nx hA tabOk (by conv => lhs; cbv) ?_; first
                  | refine NX.done ?_
                  | refine NX.gt ?_
                  | refine NX.gf ?_
                  | (refine NX.gs ?_ ?_ <;> intro hc <;> rw [hc] <;> ((try simp only [zn] at hc) <;> (try simp (disch := omega) only [zz hA, zb, zy, reduceCtorEq, Bool.false_eq_true, Int.reduceLT, Int.reduceLE, Int.reduceNeg] at hc) <;> (try simp only [zw] at hc)) <;> (try (exfalso; omega)))
                  | ((first | (refine NX.k 1 ?_; first | refine NX.one (One.elemM hA tabOk rfl rfl rfl rfl ?_ ?_) ?_ | refine NX.one (One.elemOwnM hA tabOk rfl rfl rfl rfl rfl ?_ ?_) ?_) | (refine NX.k 7 ?_; first | refine NX.one (One.concatM hA rfl rfl rfl ?_) ?_) | (refine NX.k 8 ?_; first | refine NX.one (One.eqBoolM hA tabOk rfl rfl rfl rfl rfl) ?_) | (refine NX.k 9 ?_; first | refine NX.one (One.neBoolM hA tabOk rfl rfl rfl rfl rfl) ?_) | (refine NX.k 10 ?_; first | refine NX.one (One.lenOwnM hA tabOk rfl rfl rfl rfl) ?_) | (refine NX.k 14 ?_; first | refine NX.one (One.loadRatM hA tabOk rfl rfl rfl rfl rfl rfl ?_) ?_) | (refine NX.k 18 ?_; first | refine NX.one (One.fieldRat tabOk rfl rfl rfl rfl (by decide) rfl rfl) ?_)) <;> (first | refine AOLg.pass ?_ | (((try simp only [zn]) <;> (try simp (disch := omega) only [zz hA, zb, zy, reduceCtorEq, Bool.false_eq_true, Int.reduceLT, Int.reduceLE, Int.reduceNeg]) <;> (try simp only [zw])) <;> omega)))
                  | refine NX.raw ?_)
              | refine Thn.exit ?_
              | refine Blk.here ?_
              | refine Blk.other (by decide) ?_
              | refine ⟨.inl rfl, _, RetOk.ev tabOk (by conv => lhs; cbv), ?_⟩
              | fail)
            refine ⟨i + 1, by omega, by omega, rfl, rfl, ?_, (by repeat' (first | exact subE.nil | refine subE.cons rfl ?_))⟩
            exact .int rfl (by (((try simp only [zn]) <;> (try simp (disch := omega) only [zz hA, zb, zy, reduceCtorEq, Bool.false_eq_true, Int.reduceLT, Int.reduceLE, Int.reduceNeg]) <;> (try simp only [zw])) <;> omega)) .nil
          · obtain rfl : i = n := by omega
            try first | refine AOLg.of [] ?_ | refine QSg.of [] ?_
            repeat' (first
              | (refine AWp.pass ?_; first
                  | refine AWp.seq ?_
                  | refine AWp.block ?_
                  | refine AWp.skip ?_
                  | refine AWp.regG [] (by conv => lhs; cbv) ?_
                  | refine AWp.cond_t rfl ?_
                  | refine AWp.cond_f rfl ?_
                  | (refine AWp.cond rfl ?_ ?_ <;> intro hc <;> (try rw [hc]) <;> ((try simp only [zn] at hc) <;> (try simp (disch := omega) only [zz hA, zb, zy, reduceCtorEq, Bool.false_eq_true, Int.reduceLT, Int.reduceLE, Int.reduceNeg] at hc) <;> (try simp only [zw] at hc)) <;> (try (exfalso; omega)))
                  | refine AWp.exit ?_
                  | refine AWp.ret ⟨.inr rfl, _, RetOk.ev tabOk (by conv => lhs; cbv), ?_⟩)
              | (refine AOLg.pass ?_; refine AOLg.nx hA tabOk (by conv => lhs; cbv) ?_; first
                  | refine NX.done ?_
                  | refine NX.gt ?_
                  | refine NX.gf ?_
                  | (refine NX.gs ?_ ?_ <;> intro hc <;> rw [hc] <;> ((try simp only [zn] at hc) <;> (try simp (disch := omega) only [zz hA, zb, zy, reduceCtorEq, Bool.false_eq_true, Int.reduceLT, Int.reduceLE, Int.reduceNeg] at hc) <;> (try simp only [zw] at hc)) <;> (try (exfalso; omega)))
                  | (refine NX.kC ?_; first | (with_reducible refine NX.call (hv1) ?_) | (with_reducible refine NX.call (hv2) ?_) | (with_reducible refine NX.call (hrn) ?_) | (refine NX.call (PureCalls.weaken (hrn) ?_) ?_ <;> (first | refine AOLg.pass ?_ | ((with_reducible repeat' (first | exact PLes.nil | exact ILes.nil | refine PLes.cons (PLe.refl _) ?_ | refine PLes.cons (PLe.c (ILe.nilM hA _ _ _ _)) ?_ | refine PLes.cons (PLe.agg ?_) ?_ | refine ILes.cons (ILe.refl _) ?_ | refine ILes.cons (ILe.nilM hA _ _ _ _) ?_)); done) | (((try simp only [zn]) <;> (try simp (disch := omega) only [zz hA, zb, zy, reduceCtorEq, Bool.false_eq_true, Int.reduceLT, Int.reduceLE, Int.reduceNeg]) <;> (try simp only [zw])) <;> omega))) | ((first | refine NX.call (hv1) ?_ | refine NX.call (hv2) ?_ | refine NX.call (hrn) ?_)) | fail)
                  | (refine NX.kO ?_; (first | refine NX.callO (hv1) (by simp [allEq]) rfl ?_ | refine NX.callO (hv2) (by simp [allEq]) rfl ?_ | refine NX.callO (hrn) (by simp [allEq]) rfl ?_))
                  | ((first | (refine NX.k 1 ?_; first | refine NX.one (One.elemM hA tabOk rfl rfl rfl rfl ?_ ?_) ?_ | refine NX.one (One.elemOwnM hA tabOk rfl rfl rfl rfl rfl ?_ ?_) ?_) | (refine NX.k 7 ?_; first | refine NX.one (One.concatM hA rfl rfl rfl ?_) ?_) | (refine NX.k 8 ?_; first | refine NX.one (One.eqBoolM hA tabOk rfl rfl rfl rfl rfl) ?_) | (refine NX.k 9 ?_; first | refine NX.one (One.neBoolM hA tabOk rfl rfl rfl rfl rfl) ?_) | (refine NX.k 10 ?_; first | refine NX.one (One.lenOwnM hA tabOk rfl rfl rfl rfl) ?_) | (refine NX.k 14 ?_; first | refine NX.one (One.loadRatM hA tabOk rfl rfl rfl rfl rfl rfl ?_) ?_) | (refine NX.k 18 ?_; first | refine NX.one (One.fieldRat tabOk rfl rfl rfl rfl (by decide) rfl rfl) ?_)) <;> (first | refine AOLg.pass ?_ | (((try simp only [zn]) <;> (try simp (disch := omega) only [zz hA, zb, zy, reduceCtorEq, Bool.false_eq_true, Int.reduceLT, Int.reduceLE, Int.reduceNeg]) <;> (try simp only [zw])) <;> omega)))
                  | refine NX.raw ?_)
              | refine Thn.exit ?_
              | refine Blk.here ?_
              | refine Blk.other (by decide) ?_
              | refine ⟨.inl rfl, _, RetOk.ev tabOk (by conv => lhs; cbv), ?_⟩
              | fail)
            all_goals (first | (exfalso; omega) | (refine rPV_then (by conv => lhs; cbv) ?_; rfl) | (refine rPV_then (by conv => lhs; cbv) ?_; refine congrArg (fun b => PV.c (IC.lit (Value.bool b))) ?_; ((try simp only [zn]) <;> (try simp (disch := omega) only [zz hA, zb, zy, reduceCtorEq, Bool.false_eq_true, Int.reduceLT, Int.reduceLE, Int.reduceNeg]) <;> (try simp only [zw])); done) | (refine rPV_then (by conv => lhs; cbv) ?_; refine congrArg (fun b => PV.c (IC.lit (Value.bool b))) ?_; ((try simp only [zn]) <;> (try simp (disch := omega) only [zz hA, zb, zy, reduceCtorEq, Bool.false_eq_true, Int.reduceLT, Int.reduceLE, Int.reduceNeg]) <;> (try simp only [zw])); omega) | fail))
  · rw [show fewD E = false from decide_eq_false hf, hid_eq hA (α := Bool)] at hw
    refine PureCalls.of Try.func9 rfl (by kernel_rfl) rfl ?_
    try first | refine AOLg.of [] ?_ | refine QSg.of [] ?_
    repeat' (first
      | (refine AWp.pass ?_; first
          | refine AWp.seq ?_
          | refine AWp.block ?_
          | refine AWp.skip ?_
          | refine AWp.regG [] (by conv => lhs; cbv) ?_
          | refine AWp.cond_t rfl ?_
          | refine AWp.cond_f rfl ?_
          | (refine AWp.cond rfl ?_ ?_ <;> intro hc <;> (try rw [hc]) <;> ((try simp only [zn] at hc) <;> (try simp (disch := omega) only [zz hA, zb, zy, reduceCtorEq, Bool.false_eq_true, Int.reduceLT, Int.reduceLE, Int.reduceNeg] at hc) <;> (try simp only [zw] at hc)) <;> (try (exfalso; omega)))
          | refine AWp.exit ?_
          | refine AWp.ret ⟨.inr rfl, _, RetOk.ev tabOk (by conv => lhs; cbv), ?_⟩)
      | (refine AOLg.pass ?_; refine AOLg.nx hA tabOk (by conv => lhs; cbv) ?_; first
          | refine NX.done ?_
          | refine NX.gt ?_
          | refine NX.gf ?_
          | (refine NX.gs ?_ ?_ <;> intro hc <;> rw [hc] <;> ((try simp only [zn] at hc) <;> (try simp (disch := omega) only [zz hA, zb, zy, reduceCtorEq, Bool.false_eq_true, Int.reduceLT, Int.reduceLE, Int.reduceNeg] at hc) <;> (try simp only [zw] at hc)) <;> (try (exfalso; omega)))
          | (refine NX.kC ?_; first | (with_reducible refine NX.call (hsh) ?_) | (with_reducible refine NX.call (hw) ?_) | ((first | refine NX.call (hsh) ?_ | refine NX.call (hw) ?_)) | fail)
          | (refine NX.kO ?_; (first | refine NX.callO (hsh) (by simp [allEq]) rfl ?_ | refine NX.callO (hw) (by simp [allEq]) rfl ?_))
          | ((first | (refine NX.k 1 ?_; first | refine NX.one (One.elemM hA tabOk rfl rfl rfl rfl ?_ ?_) ?_ | refine NX.one (One.elemOwnM hA tabOk rfl rfl rfl rfl rfl ?_ ?_) ?_) | (refine NX.k 7 ?_; first | refine NX.one (One.concatM hA rfl rfl rfl ?_) ?_) | (refine NX.k 8 ?_; first | refine NX.one (One.eqBoolM hA tabOk rfl rfl rfl rfl rfl) ?_) | (refine NX.k 9 ?_; first | refine NX.one (One.neBoolM hA tabOk rfl rfl rfl rfl rfl) ?_) | (refine NX.k 10 ?_; first | refine NX.one (One.lenOwnM hA tabOk rfl rfl rfl rfl) ?_) | (refine NX.k 14 ?_; first | refine NX.one (One.loadRatM hA tabOk rfl rfl rfl rfl rfl rfl ?_) ?_) | (refine NX.k 18 ?_; first | refine NX.one (One.fieldRat tabOk rfl rfl rfl rfl (by decide) rfl rfl) ?_)) <;> (first | refine AOLg.pass ?_ | (((try simp only [zn]) <;> (try simp (disch := omega) only [zz hA, zb, zy, reduceCtorEq, Bool.false_eq_true, Int.reduceLT, Int.reduceLE, Int.reduceNeg]) <;> (try simp only [zw])) <;> omega)))
          | refine NX.raw ?_)
      | refine Thn.exit ?_
      | refine Blk.here ?_
      | refine Blk.other (by decide) ?_
      | refine ⟨.inl rfl, _, RetOk.ev tabOk (by conv => lhs; cbv), ?_⟩
      | fail)
    first | (exfalso; omega) | (refine rPV_then (by conv => lhs; cbv) ?_; rfl) | (refine rPV_then (by conv => lhs; cbv) ?_; refine congrArg (fun b => PV.c (IC.lit (Value.bool b))) ?_; ((try simp only [zn]) <;> (try simp (disch := omega) only [zz hA, zb, zy, reduceCtorEq, Bool.false_eq_true, Int.reduceLT, Int.reduceLE, Int.reduceNeg]) <;> (try simp only [zw])); done) | (refine rPV_then (by conv => lhs; cbv) ?_; refine congrArg (fun b => PV.c (IC.lit (Value.bool b))) ?_; ((try simp only [zn]) <;> (try simp (disch := omega) only [zz hA, zb, zy, reduceCtorEq, Bool.false_eq_true, Int.reduceLT, Int.reduceLE, Int.reduceNeg]) <;> (try simp only [zw])); omega) | fail
end Go.Proofs.Ytgemcogfpkolfaa.Aw

/- Laws SideTurns, SideBoth. -/
set_option linter.unusedVariables false
set_option linter.unusedSimpArgs false
set_option linter.unusedSectionVars false
namespace Go.Proofs.Ytgemcogfpkolfaa.Aw
open Go Go.RowKit
set_option maxRecDepth 10000
attribute [local irreducible] AWp AOL QS One AOLg QSg NX QX TRg TX AllO Fin3
def relS (x y : Int) : Prop := (x = 76 ∧ y = 82) ∨ (x = 82 ∧ y = 76) ∨ (x = 66 ∧ y = 66) ∨ (x = 0 ∧ y = 0)
theorem relS_turn {x y : Int} (v : Int) (h : relS x y) : relS (turnD x v) (turnD y v) := by
  unfold relS turnD at *
  split
  · exact h
  split
  · rcases h with ⟨rfl, rfl⟩ | ⟨rfl, rfl⟩ | ⟨rfl, rfl⟩ | ⟨rfl, rfl⟩ <;> decide
  · exact .inr (.inr (.inl ⟨rfl, rfl⟩))
theorem setsD_rel {R : Int → Int → Prop} (K : List Int) (f g : Nat → Int) (hf : ∀ k, R (f k) (g k)) (js : List Nat) : ∀ (o o' : List Int), o.length = o'.length → (∀ q, R (o.getD q default) (o'.getD q default)) → ∀ q, R ((setsD o K f js).getD q default) ((setsD o' K g js).getD q default) := by
  induction js with
  | nil => intro o o' _ h q; exact h q
  | cons k js ih =>
    intro o o' hl h
    rw [setsD_cons, setsD_cons]
    refine ih _ _ (by simp [hl]) fun q => ?_
    rw [getDset, getDset, hl]
    split
    · exact hf k
    · exact h q
theorem sd_rel (l : List Sg) (E : List Nd) (S : List Int) : ∀ j q, relS ((sdM l E S 76 j).getD q default) ((sdM l E S 82 j).getD q default)
  | 0, q => by
    simp only [sdM]
    rw [getDset, getDset]
    split
    · exact .inl ⟨rfl, rfl⟩
    · have : (List.replicate E.length (0 : Int)).getD q default = 0 := by
        simp only [List.getD_eq_getElem?_getD, List.getElem?_replicate]
        split <;> rfl
      rw [this]
      exact .inr (.inr (.inr ⟨rfl, rfl⟩))
  | j + 1, q => by
    rw [sdM, sdM, sdStep, sdStep]
    exact setsD_rel _ _ _ (fun k => relS_turn _ (sd_rel l E S j _)) _ _ _ (by rw [sdM_len, sdM_len]) (sd_rel l E S j) q
theorem sd_both (l : List Sg) (E : List Nd) (S : List Int) : ∀ j q, (sdM l E S 66 j).getD q default = 66 ∨ (sdM l E S 66 j).getD q default = 0
  | 0, q => by
    simp only [sdM]
    rw [getDset]
    split
    · exact .inl rfl
    · right
      simp only [List.getD_eq_getElem?_getD, List.getElem?_replicate]
      split <;> rfl
  | j + 1, q => by
    rw [sdM, sdStep]
    refine setsD_good (P := fun x => x = 66 ∨ x = 0) _ _ (fun k => ?_) _ _ _ (sd_both l E S j q)
    have := sd_both l E S j (E.length - 1 - j)
    generalize (sdM l E S 66 j).getD (E.length - 1 - j) default = x at *
    unfold turnD
    rcases this with rfl | rfl <;> (repeat' split) <;> omega
theorem sd_last (l : List Sg) {E : List Nd} (hg : goodD E) (h2 : 1 ≤ E.length) (s : Int) : ∀ j, j ≤ E.length → (sdM l E (stD E E.length) s j).getD (E.length - 1) default = side0 s
  | 0, _ => by
    simp only [sdM]
    rw [getDset, if_pos ⟨rfl, by simp; omega⟩]
  | j + 1, hj => by
    rw [sdM, sdStep, setsD_other, sd_last l hg h2 s j (by omega)]
    intro k hk
    have hi : E.length - 1 - j < E.length := by omega
    have hp := hg.parts hi
    have := kids_in hg hi (p := (pD E (E.length - 1 - j)).toNat) (by omega) (List.mem_range.1 hk)
    omega
theorem wAt_both {l : List Sg} {E : List Nd} (hg : goodD E) {L : List Int} {i : Nat} (hi : i < E.length) (hL : L.getD i default = 66) (h : wAt l E L i = 0) : ndK (E.getD i default) ≤ 3 ∧ ∀ L', wAt l E L' i = 0 := by
  have hq := (mayD_parts (hg.may hi)).1
  unfold wAt at *
  rw [hL] at h
  unfold wrongD at *
  generalize ndK (E.getD i default) = k at *
  split at h
  · cases h
  split at h
  · cases h
  split at h
  · cases h
  rename_i h1 h2 h3
  refine ⟨by omega, fun L' => ?_⟩
  rw [if_neg h1, if_neg h2, if_neg (by omega)]
theorem sides_both (l : List Sg) {E : List Nd} (hg : goodD E) (h1 : manyD E E.length = 1) {i : Nat} (hi : i < E.length) : (sidesD l E 66).getD i default = 66 := by
  have ho := sidesD_ok (l := l) hg h1 66 hi
  have := sd_both l E (stD E E.length) E.length i
  unfold sidesD sideOk at *
  omega
theorem both_plain (l : List Sg) {E : List Nd} (hg : goodD E) (h1 : manyD E E.length = 1) (h2 : 1 ≤ E.length) :
    (checkW l E (sidesD l E 66) = 0 → (∀ s, checkW l E (sidesD l E s) = 0) ∧ ∀ i, i < E.length → ndK (E.getD i default) ≤ 3) ∧ (1 < E.length ∨ ndK (E.getD 0 default) = 3 ∨ checkW l E (sidesD l E 66) = 0) := by
  refine ⟨fun h => ?_, ?_⟩
  · rcases check_cases l E (sidesD l E 66) with ⟨_, _, h3⟩ | ⟨n, hn, e1, e2, e3, h3⟩
    · have hw := fun i hi => wAt_both hg hi (sides_both l hg h1 hi) (h3 i hi)
      exact ⟨fun s => (check_ok fun j hj => (hw j hj).2 _).2, fun i hi => (hw i hi).1⟩
    · omega
  · rcases Nat.lt_or_ge 1 E.length with h3 | h3
    · exact .inl h3
    · right
      have hl : E.length = 1 := by omega
      have hq := mayD_parts (hg.may (i := 0) (by omega))
      have hs := hg.shape 0 (by omega)
      have hp : pD E 0 = partsM (ndK (E.getD 0 default)) (ndN (E.getD 0 default)) := rfl
      have hm : manyD E 0 = 0 := rfl
      have hwa : wAt l E (sidesD l E 66) 0 = wrongD l (ndK (E.getD 0 default)) (ndS (E.getD 0 default)) (ndN (E.getD 0 default)) ((sidesD l E 66).getD 0 default) := rfl
      unfold partsM at hp
      generalize ndK (E.getD 0 default) = k at *
      by_cases hk : k = 3
      · exact .inl hk
      · right
        have hk2 : k = 0 ∨ k = 1 ∨ k = 2 := by split at hp <;> omega
        refine (check_ok fun j hj => ?_).2
        obtain rfl : j = 0 := by omega
        rw [hwa]
        unfold wrongD
        rw [if_neg (by omega), if_neg (by omega), if_neg (by omega)]
variable {A : Ar} (hA : A = real)
include hA
set_option maxHeartbeats 8000000 in
theorem turns_law (l : List Sg) (E : List Nd) (hsz : FitG l) (hsz2 : FitD E) : PureCalls Try.prog 7 [slP A 2 (encG A) l, slP A 3 (encD A) E] (BP true) := by
  have hsh := shown8_c hA
  have hof := of8_c hA l E hsz hsz2
  cases ho : of8M l E with
  | false =>
    rw [ho, hid_eq hA (α := Bool)] at hof
    refine PureCalls.of Try.func7 rfl (by kernel_rfl) rfl ?_
    try first | refine AOLg.of [] ?_ | refine QSg.of [] ?_
    repeat' (first
      | (refine AWp.pass ?_; first
          | refine AWp.seq ?_
          | refine AWp.block ?_
          | refine AWp.skip ?_
          | refine AWp.regG [] (by conv => lhs; cbv) ?_
          | refine AWp.cond_t rfl ?_
          | refine AWp.cond_f rfl ?_
          | (refine AWp.cond rfl ?_ ?_ <;> intro hc <;> (try rw [hc]) <;> ((try simp only [zn] at hc) <;> (try simp (disch := omega) only [zz hA, zb, zy, reduceCtorEq, Bool.false_eq_true, Int.reduceLT, Int.reduceLE, Int.reduceNeg] at hc) <;> (try simp only [zw] at hc)) <;> (try (exfalso; omega)))
          | refine AWp.exit ?_
          | refine AWp.ret ⟨.inr rfl, _, RetOk.ev tabOk (by conv => lhs; cbv), ?_⟩
          | refine AWp.drawVG [] rfl (by decide +kernel) (by conv => lhs; cbv) ?_)
      | (refine AOLg.pass ?_; refine AOLg.nx hA tabOk (by conv => lhs; cbv) ?_; first
          | refine NX.done ?_
          | refine NX.gt ?_
          | refine NX.gf ?_
          | (refine NX.gs ?_ ?_ <;> intro hc <;> rw [hc] <;> ((try simp only [zn] at hc) <;> (try simp (disch := omega) only [zz hA, zb, zy, reduceCtorEq, Bool.false_eq_true, Int.reduceLT, Int.reduceLE, Int.reduceNeg] at hc) <;> (try simp only [zw] at hc)) <;> (try (exfalso; omega)))
          | (refine NX.kC ?_; first | (with_reducible refine NX.call (hsh) ?_) | (with_reducible refine NX.call (hof) ?_) | ((first | refine NX.call (hsh) ?_ | refine NX.call (hof) ?_)) | fail)
          | (refine NX.kO ?_; (first | refine NX.callO (hsh) (by simp [allEq]) rfl ?_ | refine NX.callO (hof) (by simp [allEq]) rfl ?_))
          | ((first | (refine NX.k 1 ?_; first | refine NX.one (One.elemM hA tabOk rfl rfl rfl rfl ?_ ?_) ?_ | refine NX.one (One.elemOwnM hA tabOk rfl rfl rfl rfl rfl ?_ ?_) ?_) | (refine NX.k 7 ?_; first | refine NX.one (One.concatM hA rfl rfl rfl ?_) ?_) | (refine NX.k 8 ?_; first | refine NX.one (One.eqBoolM hA tabOk rfl rfl rfl rfl rfl) ?_) | (refine NX.k 9 ?_; first | refine NX.one (One.neBoolM hA tabOk rfl rfl rfl rfl rfl) ?_) | (refine NX.k 10 ?_; first | refine NX.one (One.lenOwnM hA tabOk rfl rfl rfl rfl) ?_) | (refine NX.k 14 ?_; first | refine NX.one (One.loadRatM hA tabOk rfl rfl rfl rfl rfl rfl ?_) ?_)) <;> (first | refine AOLg.pass ?_ | (((try simp only [zn]) <;> (try simp (disch := omega) only [zz hA, zb, zy, reduceCtorEq, Bool.false_eq_true, Int.reduceLT, Int.reduceLE, Int.reduceNeg]) <;> (try simp only [zw])) <;> omega)))
          | refine NX.raw ?_)
      | (refine TRg.pass ?_; refine TRg.nx hA tabOk (by conv => lhs; cbv) ?_; first
          | refine TX.done ?_
          | refine TX.gt ?_
          | refine TX.gf ?_
          | (refine TX.gs ?_ ?_ <;> intro hc <;> rw [hc] <;> ((try simp only [zn] at hc) <;> (try simp (disch := omega) only [zz hA, zb, zy, reduceCtorEq, Bool.false_eq_true, Int.reduceLT, Int.reduceLE, Int.reduceNeg] at hc) <;> (try simp only [zw] at hc)) <;> (try (exfalso; omega)))
          | (refine TX.kC ?_; first | (with_reducible refine TX.call (hsh) ?_) | (with_reducible refine TX.call (hof) ?_) | ((first | refine TX.call (hsh) ?_ | refine TX.call (hof) ?_)) | fail)
          | (refine TX.kO ?_; (first | refine TX.callO (hsh) (by simp [allEq]) rfl ?_ | refine TX.callO (hof) (by simp [allEq]) rfl ?_))
          | ((first | (refine TX.k 1 ?_; first | refine TX.one (One.elemM hA tabOk rfl rfl rfl rfl ?_ ?_) ?_ | refine TX.one (One.elemOwnM hA tabOk rfl rfl rfl rfl rfl ?_ ?_) ?_) | (refine TX.k 7 ?_; first | refine TX.one (One.concatM hA rfl rfl rfl ?_) ?_) | (refine TX.k 8 ?_; first | refine TX.one (One.eqBoolM hA tabOk rfl rfl rfl rfl rfl) ?_) | (refine TX.k 9 ?_; first | refine TX.one (One.neBoolM hA tabOk rfl rfl rfl rfl rfl) ?_) | (refine TX.k 10 ?_; first | refine TX.one (One.lenOwnM hA tabOk rfl rfl rfl rfl) ?_) | (refine TX.k 14 ?_; first | refine TX.one (One.loadRatM hA tabOk rfl rfl rfl rfl rfl rfl ?_) ?_)) <;> (first | refine TRg.pass ?_ | (((try simp only [zn]) <;> (try simp (disch := omega) only [zz hA, zb, zy, reduceCtorEq, Bool.false_eq_true, Int.reduceLT, Int.reduceLE, Int.reduceNeg]) <;> (try simp only [zw])) <;> omega)))
          | refine TX.raw ?_)
      | refine Fin3.of (by conv => lhs; cbv) (by repeat' (first | exact True.intro | exact rfl | refine And.intro ?_ ?_)) ?_ ?_
      | (refine AllO.pass ?_; first
          | exact AllO.nil
          | (refine AllO.cons (One.ev hA tabOk ?_) ?_ <;> (first | refine AllO.pass ?_ | ((conv => lhs; cbv); done)))
          | (refine AllO.cons (One.skipB ?_) ?_ <;> (first | refine AllO.pass ?_ | ((conv => lhs; cbv); done)))
          | ((with_reducible refine AllO.call (by conv => lhs; cbv) (hsh) ?_ ?_) <;> (first | refine AllO.pass ?_ | exact rfl | (((try simp only [zn]) <;> (try simp (disch := omega) only [zz hA, zb, zy, reduceCtorEq, Bool.false_eq_true, Int.reduceLT, Int.reduceLE, Int.reduceNeg]) <;> (try simp only [zw])) <;> omega)))
          | ((with_reducible refine AllO.call (by conv => lhs; cbv) (hof) ?_ ?_) <;> (first | refine AllO.pass ?_ | exact rfl | (((try simp only [zn]) <;> (try simp (disch := omega) only [zz hA, zb, zy, reduceCtorEq, Bool.false_eq_true, Int.reduceLT, Int.reduceLE, Int.reduceNeg]) <;> (try simp only [zw])) <;> omega)))
          | ((first | refine AllO.consX (One.elemM hA tabOk rfl rfl rfl rfl ?_ ?_) rfl rfl ?_ | refine AllO.consX (One.concatM hA rfl rfl rfl ?_) rfl rfl ?_ | refine AllO.consX (One.lenOwnM hA tabOk rfl rfl rfl rfl) rfl rfl ?_ | refine AllO.consX (One.elemOwnM hA tabOk rfl rfl rfl rfl rfl ?_ ?_) rfl rfl ?_ | refine AllO.consX (One.loadRatM hA tabOk rfl rfl rfl rfl rfl rfl ?_) rfl rfl ?_) <;> (first | refine AllO.pass ?_ | (((try simp only [zn]) <;> (try simp (disch := omega) only [zz hA, zb, zy, reduceCtorEq, Bool.false_eq_true, Int.reduceLT, Int.reduceLE, Int.reduceNeg]) <;> (try simp only [zw])) <;> omega))))
      | refine Thn.exit ?_
      | refine Blk.here ?_
      | refine Blk.other (by decide) ?_
      | refine ⟨.inl rfl, _, RetOk.ev tabOk (by conv => lhs; cbv), ?_⟩
      | fail)
    first | (exfalso; omega) | (refine rPV_then (by conv => lhs; cbv) ?_; rfl) | (refine rPV_then (by conv => lhs; cbv) ?_; refine congrArg (fun b => PV.c (IC.lit (Value.bool b))) ?_; ((try simp only [zn]) <;> (try simp (disch := omega) only [zz hA, zb, zy, reduceCtorEq, Bool.false_eq_true, Int.reduceLT, Int.reduceLE, Int.reduceNeg]) <;> (try simp only [zw])); done) | (refine rPV_then (by conv => lhs; cbv) ?_; refine congrArg (fun b => PV.c (IC.lit (Value.bool b))) ?_; ((try simp only [zn]) <;> (try simp (disch := omega) only [zz hA, zb, zy, reduceCtorEq, Bool.false_eq_true, Int.reduceLT, Int.reduceLE, Int.reduceNeg]) <;> (try simp only [zw])); omega) | fail
  | true =>
    rw [ho, hid_eq hA (α := Bool)] at hof
    obtain ⟨hll, hel, hg, h1, h2⟩ := of8M_st ho
    have o1 := sOf_c hA l E 76 (by omega) hsz hg h1 (by omega)
    have o2 := sOf_c hA l E 82 (by omega) hsz hg h1 (by omega)
    have o3 := sOf_c hA l E 66 (by omega) hsz hg h1 (by omega)
    have l1 : (sidesD l E 76).length = E.length := sdM_len _ _ _ _ _
    have l2 : (sidesD l E 82).length = E.length := sdM_len _ _ _ _ _
    have l3 : (sidesD l E 66).length = E.length := sdM_len _ _ _ _ _
    have e1 : (sidesD l E 76).getD (E.length - 1) default = 76 := sd_last l hg h2 76 _ (Nat.le_refl _)
    have e2 : (sidesD l E 82).getD (E.length - 1) default = 82 := sd_last l hg h2 82 _ (Nat.le_refl _)
    have hT : ∀ i, i < E.length → (sidesD l E 66).getD i default = 66 ∧ (((sidesD l E 76).getD i default = 76 ∧ (sidesD l E 82).getD i default = 82) ∨ ((sidesD l E 76).getD i default = 82 ∧ (sidesD l E 82).getD i default = 76) ∨ ((sidesD l E 76).getD i default = 66 ∧ (sidesD l E 82).getD i default = 66)) := fun i hi => by
      refine ⟨sides_both l hg h1 hi, ?_⟩
      have hk := sidesD_ok (l := l) hg h1 76 hi
      have := sd_rel l E (stD E E.length) E.length i
      unfold sidesD sideOk relS at *
      omega
    generalize sidesD l E 76 = La at *
    generalize sidesD l E 82 = Lb at *
    generalize sidesD l E 66 = Lc at *
    refine PureCalls.of Try.func7 rfl (by kernel_rfl) rfl ?_
    try first | refine AOLg.of [] ?_ | refine QSg.of [] ?_
    repeat' (first
      | (refine AWp.pass ?_; first
          | refine AWp.seq ?_
          | refine AWp.block ?_
          | refine AWp.skip ?_
          | refine AWp.regG [] (by conv => lhs; cbv) ?_
          | refine AWp.cond_t rfl ?_
          | refine AWp.cond_f rfl ?_
          | (refine AWp.cond rfl ?_ ?_ <;> intro hc <;> (try rw [hc]) <;> ((try simp only [zn] at hc) <;> (try simp (disch := omega) only [zz hA, zb, zy, reduceCtorEq, Bool.false_eq_true, Int.reduceLT, Int.reduceLE, Int.reduceNeg] at hc) <;> (try simp only [zw] at hc)) <;> (try (exfalso; omega)))
          | refine AWp.exit ?_
          | refine AWp.ret ⟨.inr rfl, _, RetOk.ev tabOk (by conv => lhs; cbv), ?_⟩
          | refine AWp.drawVG [] rfl (by decide +kernel) (by conv => lhs; cbv) ?_)
      | (refine AOLg.pass ?_; refine AOLg.nx hA tabOk (by conv => lhs; cbv) ?_; first
          | refine NX.done ?_
          | refine NX.gt ?_
          | refine NX.gf ?_
          | (refine NX.gs ?_ ?_ <;> intro hc <;> rw [hc] <;> ((try simp only [zn] at hc) <;> (try simp (disch := omega) only [zz hA, zb, zy, reduceCtorEq, Bool.false_eq_true, Int.reduceLT, Int.reduceLE, Int.reduceNeg] at hc) <;> (try simp only [zw] at hc)) <;> (try (exfalso; omega)))
          | (refine NX.kC ?_; first | (with_reducible refine NX.call (hsh) ?_) | (with_reducible refine NX.call (hof) ?_) | (with_reducible refine NX.call (o1) ?_) | (with_reducible refine NX.call (o2) ?_) | (with_reducible refine NX.call (o3) ?_) | ((first | refine NX.call (hsh) ?_ | refine NX.call (hof) ?_ | refine NX.call (o1) ?_ | refine NX.call (o2) ?_ | refine NX.call (o3) ?_)) | fail)
          | (refine NX.kO ?_; (first | refine NX.callO (hsh) (by simp [allEq]) rfl ?_ | refine NX.callO (hof) (by simp [allEq]) rfl ?_ | refine NX.callO (o1) (by simp [allEq]) rfl ?_ | refine NX.callO (o2) (by simp [allEq]) rfl ?_ | refine NX.callO (o3) (by simp [allEq]) rfl ?_))
          | ((first | (refine NX.k 1 ?_; first | refine NX.one (One.elemM hA tabOk rfl rfl rfl rfl ?_ ?_) ?_ | refine NX.one (One.elemOwnM hA tabOk rfl rfl rfl rfl rfl ?_ ?_) ?_) | (refine NX.k 7 ?_; first | refine NX.one (One.concatM hA rfl rfl rfl ?_) ?_) | (refine NX.k 8 ?_; first | refine NX.one (One.eqBoolM hA tabOk rfl rfl rfl rfl rfl) ?_) | (refine NX.k 9 ?_; first | refine NX.one (One.neBoolM hA tabOk rfl rfl rfl rfl rfl) ?_) | (refine NX.k 10 ?_; first | refine NX.one (One.lenOwnM hA tabOk rfl rfl rfl rfl) ?_) | (refine NX.k 14 ?_; first | refine NX.one (One.loadRatM hA tabOk rfl rfl rfl rfl rfl rfl ?_) ?_)) <;> (first | refine AOLg.pass ?_ | (((try simp only [zn]) <;> (try simp (disch := omega) only [zz hA, zb, zy, reduceCtorEq, Bool.false_eq_true, Int.reduceLT, Int.reduceLE, Int.reduceNeg]) <;> (try simp only [zw])) <;> omega)))
          | refine NX.raw ?_)
      | (refine TRg.pass ?_; refine TRg.nx hA tabOk (by conv => lhs; cbv) ?_; first
          | refine TX.done ?_
          | refine TX.gt ?_
          | refine TX.gf ?_
          | (refine TX.gs ?_ ?_ <;> intro hc <;> rw [hc] <;> ((try simp only [zn] at hc) <;> (try simp (disch := omega) only [zz hA, zb, zy, reduceCtorEq, Bool.false_eq_true, Int.reduceLT, Int.reduceLE, Int.reduceNeg] at hc) <;> (try simp only [zw] at hc)) <;> (try (exfalso; omega)))
          | (refine TX.kC ?_; first | (with_reducible refine TX.call (hsh) ?_) | (with_reducible refine TX.call (hof) ?_) | (with_reducible refine TX.call (o1) ?_) | (with_reducible refine TX.call (o2) ?_) | (with_reducible refine TX.call (o3) ?_) | ((first | refine TX.call (hsh) ?_ | refine TX.call (hof) ?_ | refine TX.call (o1) ?_ | refine TX.call (o2) ?_ | refine TX.call (o3) ?_)) | fail)
          | (refine TX.kO ?_; (first | refine TX.callO (hsh) (by simp [allEq]) rfl ?_ | refine TX.callO (hof) (by simp [allEq]) rfl ?_ | refine TX.callO (o1) (by simp [allEq]) rfl ?_ | refine TX.callO (o2) (by simp [allEq]) rfl ?_ | refine TX.callO (o3) (by simp [allEq]) rfl ?_))
          | ((first | (refine TX.k 1 ?_; first | refine TX.one (One.elemM hA tabOk rfl rfl rfl rfl ?_ ?_) ?_ | refine TX.one (One.elemOwnM hA tabOk rfl rfl rfl rfl rfl ?_ ?_) ?_) | (refine TX.k 7 ?_; first | refine TX.one (One.concatM hA rfl rfl rfl ?_) ?_) | (refine TX.k 8 ?_; first | refine TX.one (One.eqBoolM hA tabOk rfl rfl rfl rfl rfl) ?_) | (refine TX.k 9 ?_; first | refine TX.one (One.neBoolM hA tabOk rfl rfl rfl rfl rfl) ?_) | (refine TX.k 10 ?_; first | refine TX.one (One.lenOwnM hA tabOk rfl rfl rfl rfl) ?_) | (refine TX.k 14 ?_; first | refine TX.one (One.loadRatM hA tabOk rfl rfl rfl rfl rfl rfl ?_) ?_)) <;> (first | refine TRg.pass ?_ | (((try simp only [zn]) <;> (try simp (disch := omega) only [zz hA, zb, zy, reduceCtorEq, Bool.false_eq_true, Int.reduceLT, Int.reduceLE, Int.reduceNeg]) <;> (try simp only [zw])) <;> omega)))
          | refine TX.raw ?_)
      | refine Fin3.of (by conv => lhs; cbv) (by repeat' (first | exact True.intro | exact rfl | refine And.intro ?_ ?_)) ?_ ?_
      | (refine AllO.pass ?_; first
          | exact AllO.nil
          | (refine AllO.cons (One.ev hA tabOk ?_) ?_ <;> (first | refine AllO.pass ?_ | ((conv => lhs; cbv); done)))
          | (refine AllO.cons (One.skipB ?_) ?_ <;> (first | refine AllO.pass ?_ | ((conv => lhs; cbv); done)))
          | ((with_reducible refine AllO.call (by conv => lhs; cbv) (hsh) ?_ ?_) <;> (first | refine AllO.pass ?_ | exact rfl | (((try simp only [zn]) <;> (try simp (disch := omega) only [zz hA, zb, zy, reduceCtorEq, Bool.false_eq_true, Int.reduceLT, Int.reduceLE, Int.reduceNeg]) <;> (try simp only [zw])) <;> omega)))
          | ((with_reducible refine AllO.call (by conv => lhs; cbv) (hof) ?_ ?_) <;> (first | refine AllO.pass ?_ | exact rfl | (((try simp only [zn]) <;> (try simp (disch := omega) only [zz hA, zb, zy, reduceCtorEq, Bool.false_eq_true, Int.reduceLT, Int.reduceLE, Int.reduceNeg]) <;> (try simp only [zw])) <;> omega)))
          | ((with_reducible refine AllO.call (by conv => lhs; cbv) (o1) ?_ ?_) <;> (first | refine AllO.pass ?_ | exact rfl | (((try simp only [zn]) <;> (try simp (disch := omega) only [zz hA, zb, zy, reduceCtorEq, Bool.false_eq_true, Int.reduceLT, Int.reduceLE, Int.reduceNeg]) <;> (try simp only [zw])) <;> omega)))
          | ((with_reducible refine AllO.call (by conv => lhs; cbv) (o2) ?_ ?_) <;> (first | refine AllO.pass ?_ | exact rfl | (((try simp only [zn]) <;> (try simp (disch := omega) only [zz hA, zb, zy, reduceCtorEq, Bool.false_eq_true, Int.reduceLT, Int.reduceLE, Int.reduceNeg]) <;> (try simp only [zw])) <;> omega)))
          | ((with_reducible refine AllO.call (by conv => lhs; cbv) (o3) ?_ ?_) <;> (first | refine AllO.pass ?_ | exact rfl | (((try simp only [zn]) <;> (try simp (disch := omega) only [zz hA, zb, zy, reduceCtorEq, Bool.false_eq_true, Int.reduceLT, Int.reduceLE, Int.reduceNeg]) <;> (try simp only [zw])) <;> omega)))
          | ((first | refine AllO.consX (One.elemM hA tabOk rfl rfl rfl rfl ?_ ?_) rfl rfl ?_ | refine AllO.consX (One.concatM hA rfl rfl rfl ?_) rfl rfl ?_ | refine AllO.consX (One.lenOwnM hA tabOk rfl rfl rfl rfl) rfl rfl ?_ | refine AllO.consX (One.elemOwnM hA tabOk rfl rfl rfl rfl rfl ?_ ?_) rfl rfl ?_ | refine AllO.consX (One.loadRatM hA tabOk rfl rfl rfl rfl rfl rfl ?_) rfl rfl ?_) <;> (first | refine AllO.pass ?_ | (((try simp only [zn]) <;> (try simp (disch := omega) only [zz hA, zb, zy, reduceCtorEq, Bool.false_eq_true, Int.reduceLT, Int.reduceLE, Int.reduceNeg]) <;> (try simp only [zw])) <;> omega))))
      | refine Thn.exit ?_
      | refine Blk.here ?_
      | refine Blk.other (by decide) ?_
      | refine ⟨.inl rfl, _, RetOk.ev tabOk (by conv => lhs; cbv), ?_⟩
      | fail)
    refine AWp.loopU (fun i : Nat => [(9, .ic (.lit (.int .i64 (hid A (cN i)))))]) (fun _ => []) (fun i => E.length - i) (fun i => i ≤ E.length) 0 (by conv => lhs; cbv) (Nat.zero_le _) (.int rfl (by simp [hA, real, hid, cN]) .nil) rfl ?_
    intro i hi0
    by_cases hi : i < E.length
    · obtain ⟨t1, t2⟩ := hT i hi
      rcases t2 with ⟨t2, t3⟩ | ⟨t2, t3⟩ | ⟨t2, t3⟩ <;> (
        try first | refine AOLg.of [] ?_ | refine QSg.of [] ?_
        repeat' (first
          | (refine AWp.pass ?_; first
              | refine AWp.seq ?_
              | refine AWp.block ?_
              | refine AWp.skip ?_
              | refine AWp.regG [] (by conv => lhs; cbv) ?_
              | refine AWp.cond_t rfl ?_
              | refine AWp.cond_f rfl ?_
              | (refine AWp.cond rfl ?_ ?_ <;> intro hc <;> (try rw [hc]) <;> ((try simp only [zn] at hc) <;> (try simp (disch := omega) only [zz hA, zb, zy, reduceCtorEq, Bool.false_eq_true, Int.reduceLT, Int.reduceLE, Int.reduceNeg] at hc) <;> (try simp only [zw] at hc)) <;> (try (exfalso; omega)))
              | refine AWp.exit ?_
              | refine AWp.ret ⟨.inr rfl, _, RetOk.ev tabOk (by conv => lhs; cbv), ?_⟩
              | refine AWp.drawVG [] rfl (by decide +kernel) (by conv => lhs; cbv) ?_)
          | (refine AOLg.pass ?_; refine AOLg.nx hA tabOk (by conv => lhs; cbv) ?_; first
              | refine NX.done ?_
              | refine NX.gt ?_
              | refine NX.gf ?_
              | (refine NX.gs ?_ ?_ <;> intro hc <;> rw [hc] <;> ((try simp only [zn] at hc) <;> (try simp (disch := omega) only [zz hA, zb, zy, reduceCtorEq, Bool.false_eq_true, Int.reduceLT, Int.reduceLE, Int.reduceNeg] at hc) <;> (try simp only [zw] at hc)) <;> (try (exfalso; omega)))
              | ((first | (refine NX.k 1 ?_; first | refine NX.one (One.elemM hA tabOk rfl rfl rfl rfl ?_ ?_) ?_ | refine NX.one (One.elemOwnM hA tabOk rfl rfl rfl rfl rfl ?_ ?_) ?_) | (refine NX.k 7 ?_; first | refine NX.one (One.concatM hA rfl rfl rfl ?_) ?_) | (refine NX.k 8 ?_; first | refine NX.one (One.eqBoolM hA tabOk rfl rfl rfl rfl rfl) ?_) | (refine NX.k 9 ?_; first | refine NX.one (One.neBoolM hA tabOk rfl rfl rfl rfl rfl) ?_) | (refine NX.k 10 ?_; first | refine NX.one (One.lenOwnM hA tabOk rfl rfl rfl rfl) ?_) | (refine NX.k 14 ?_; first | refine NX.one (One.loadRatM hA tabOk rfl rfl rfl rfl rfl rfl ?_) ?_)) <;> (first | refine AOLg.pass ?_ | (((try simp only [zn]) <;> (try simp (disch := omega) only [zz hA, zb, zy, reduceCtorEq, Bool.false_eq_true, Int.reduceLT, Int.reduceLE, Int.reduceNeg]) <;> (try simp only [zw])) <;> omega)))
              | refine NX.raw ?_)
          | (refine TRg.pass ?_; refine TRg.nx hA tabOk (by conv => lhs; cbv) ?_; first
              | refine TX.done ?_
              | refine TX.gt ?_
              | refine TX.gf ?_
              | (refine TX.gs ?_ ?_ <;> intro hc <;> rw [hc] <;> ((try simp only [zn] at hc) <;> (try simp (disch := omega) only [zz hA, zb, zy, reduceCtorEq, Bool.false_eq_true, Int.reduceLT, Int.reduceLE, Int.reduceNeg] at hc) <;> (try simp only [zw] at hc)) <;> (try (exfalso; omega)))
              | ((first | (refine TX.k 1 ?_; first | refine TX.one (One.elemM hA tabOk rfl rfl rfl rfl ?_ ?_) ?_ | refine TX.one (One.elemOwnM hA tabOk rfl rfl rfl rfl rfl ?_ ?_) ?_) | (refine TX.k 7 ?_; first | refine TX.one (One.concatM hA rfl rfl rfl ?_) ?_) | (refine TX.k 8 ?_; first | refine TX.one (One.eqBoolM hA tabOk rfl rfl rfl rfl rfl) ?_) | (refine TX.k 9 ?_; first | refine TX.one (One.neBoolM hA tabOk rfl rfl rfl rfl rfl) ?_) | (refine TX.k 10 ?_; first | refine TX.one (One.lenOwnM hA tabOk rfl rfl rfl rfl) ?_) | (refine TX.k 14 ?_; first | refine TX.one (One.loadRatM hA tabOk rfl rfl rfl rfl rfl rfl ?_) ?_)) <;> (first | refine TRg.pass ?_ | (((try simp only [zn]) <;> (try simp (disch := omega) only [zz hA, zb, zy, reduceCtorEq, Bool.false_eq_true, Int.reduceLT, Int.reduceLE, Int.reduceNeg]) <;> (try simp only [zw])) <;> omega)))
              | refine TX.raw ?_)
          | refine Fin3.of (by conv => lhs; cbv) (by repeat' (first | exact True.intro | exact rfl | refine And.intro ?_ ?_)) ?_ ?_
          | (refine AllO.pass ?_; first
              | exact AllO.nil
              | (refine AllO.cons (One.ev hA tabOk ?_) ?_ <;> (first | refine AllO.pass ?_ | ((conv => lhs; cbv); done)))
              | (refine AllO.cons (One.skipB ?_) ?_ <;> (first | refine AllO.pass ?_ | ((conv => lhs; cbv); done)))
              | ((first | refine AllO.consX (One.elemM hA tabOk rfl rfl rfl rfl ?_ ?_) rfl rfl ?_ | refine AllO.consX (One.concatM hA rfl rfl rfl ?_) rfl rfl ?_ | refine AllO.consX (One.lenOwnM hA tabOk rfl rfl rfl rfl) rfl rfl ?_ | refine AllO.consX (One.elemOwnM hA tabOk rfl rfl rfl rfl rfl ?_ ?_) rfl rfl ?_ | refine AllO.consX (One.loadRatM hA tabOk rfl rfl rfl rfl rfl rfl ?_) rfl rfl ?_) <;> (first | refine AllO.pass ?_ | (((try simp only [zn]) <;> (try simp (disch := omega) only [zz hA, zb, zy, reduceCtorEq, Bool.false_eq_true, Int.reduceLT, Int.reduceLE, Int.reduceNeg]) <;> (try simp only [zw])) <;> omega))))
          | refine Thn.exit ?_
          | refine Blk.here ?_
          | refine Blk.other (by decide) ?_
          | refine ⟨.inl rfl, _, RetOk.ev tabOk (by conv => lhs; cbv), ?_⟩
          | fail)
        all_goals first
          | (exfalso; omega)
          | (refine ⟨i + 1, by omega, by omega, rfl, rfl, ?_, (by repeat' (first | exact subE.nil | refine subE.cons rfl ?_))⟩
             exact .int rfl (by (((try simp only [zn]) <;> (try simp (disch := omega) only [zz hA, zb, zy, reduceCtorEq, Bool.false_eq_true, Int.reduceLT, Int.reduceLE, Int.reduceNeg]) <;> (try simp only [zw])) <;> omega)) .nil)
          | skip)
    · obtain rfl : i = E.length := by omega
      have e3 : La.getD ((E.length : Int) - 1).toNat default = 76 := by rw [show ((E.length : Int) - 1).toNat = E.length - 1 by omega]; exact e1
      have e4 : Lb.getD ((E.length : Int) - 1).toNat default = 82 := by rw [show ((E.length : Int) - 1).toNat = E.length - 1 by omega]; exact e2
      try first | refine AOLg.of [] ?_ | refine QSg.of [] ?_
      repeat' (first
        | (refine AWp.pass ?_; first
            | refine AWp.seq ?_
            | refine AWp.block ?_
            | refine AWp.skip ?_
            | refine AWp.regG [] (by conv => lhs; cbv) ?_
            | refine AWp.cond_t rfl ?_
            | refine AWp.cond_f rfl ?_
            | (refine AWp.cond rfl ?_ ?_ <;> intro hc <;> (try rw [hc]) <;> ((try simp only [zn] at hc) <;> (try simp (disch := omega) only [zz hA, zb, zy, reduceCtorEq, Bool.false_eq_true, Int.reduceLT, Int.reduceLE, Int.reduceNeg] at hc) <;> (try simp only [zw] at hc)) <;> (try (exfalso; omega)))
            | refine AWp.exit ?_
            | refine AWp.ret ⟨.inr rfl, _, RetOk.ev tabOk (by conv => lhs; cbv), ?_⟩
            | refine AWp.drawVG [] rfl (by decide +kernel) (by conv => lhs; cbv) ?_)
        | (refine AOLg.pass ?_; refine AOLg.nx hA tabOk (by conv => lhs; cbv) ?_; first
            | refine NX.done ?_
            | refine NX.gt ?_
            | refine NX.gf ?_
            | (refine NX.gs ?_ ?_ <;> intro hc <;> rw [hc] <;> ((try simp only [zn] at hc) <;> (try simp (disch := omega) only [zz hA, zb, zy, reduceCtorEq, Bool.false_eq_true, Int.reduceLT, Int.reduceLE, Int.reduceNeg] at hc) <;> (try simp only [zw] at hc)) <;> (try (exfalso; omega)))
            | ((first | (refine NX.k 1 ?_; first | refine NX.one (One.elemM hA tabOk rfl rfl rfl rfl ?_ ?_) ?_ | refine NX.one (One.elemOwnM hA tabOk rfl rfl rfl rfl rfl ?_ ?_) ?_) | (refine NX.k 7 ?_; first | refine NX.one (One.concatM hA rfl rfl rfl ?_) ?_) | (refine NX.k 8 ?_; first | refine NX.one (One.eqBoolM hA tabOk rfl rfl rfl rfl rfl) ?_) | (refine NX.k 9 ?_; first | refine NX.one (One.neBoolM hA tabOk rfl rfl rfl rfl rfl) ?_) | (refine NX.k 10 ?_; first | refine NX.one (One.lenOwnM hA tabOk rfl rfl rfl rfl) ?_) | (refine NX.k 14 ?_; first | refine NX.one (One.loadRatM hA tabOk rfl rfl rfl rfl rfl rfl ?_) ?_)) <;> (first | refine AOLg.pass ?_ | (((try simp only [zn]) <;> (try simp (disch := omega) only [zz hA, zb, zy, reduceCtorEq, Bool.false_eq_true, Int.reduceLT, Int.reduceLE, Int.reduceNeg]) <;> (try simp only [zw])) <;> omega)))
            | refine NX.raw ?_)
        | (refine TRg.pass ?_; refine TRg.nx hA tabOk (by conv => lhs; cbv) ?_; first
            | refine TX.done ?_
            | refine TX.gt ?_
            | refine TX.gf ?_
            | (refine TX.gs ?_ ?_ <;> intro hc <;> rw [hc] <;> ((try simp only [zn] at hc) <;> (try simp (disch := omega) only [zz hA, zb, zy, reduceCtorEq, Bool.false_eq_true, Int.reduceLT, Int.reduceLE, Int.reduceNeg] at hc) <;> (try simp only [zw] at hc)) <;> (try (exfalso; omega)))
            | ((first | (refine TX.k 1 ?_; first | refine TX.one (One.elemM hA tabOk rfl rfl rfl rfl ?_ ?_) ?_ | refine TX.one (One.elemOwnM hA tabOk rfl rfl rfl rfl rfl ?_ ?_) ?_) | (refine TX.k 7 ?_; first | refine TX.one (One.concatM hA rfl rfl rfl ?_) ?_) | (refine TX.k 8 ?_; first | refine TX.one (One.eqBoolM hA tabOk rfl rfl rfl rfl rfl) ?_) | (refine TX.k 9 ?_; first | refine TX.one (One.neBoolM hA tabOk rfl rfl rfl rfl rfl) ?_) | (refine TX.k 10 ?_; first | refine TX.one (One.lenOwnM hA tabOk rfl rfl rfl rfl) ?_) | (refine TX.k 14 ?_; first | refine TX.one (One.loadRatM hA tabOk rfl rfl rfl rfl rfl rfl ?_) ?_)) <;> (first | refine TRg.pass ?_ | (((try simp only [zn]) <;> (try simp (disch := omega) only [zz hA, zb, zy, reduceCtorEq, Bool.false_eq_true, Int.reduceLT, Int.reduceLE, Int.reduceNeg]) <;> (try simp only [zw])) <;> omega)))
            | refine TX.raw ?_)
        | refine Fin3.of (by conv => lhs; cbv) (by repeat' (first | exact True.intro | exact rfl | refine And.intro ?_ ?_)) ?_ ?_
        | (refine AllO.pass ?_; first
            | exact AllO.nil
            | (refine AllO.cons (One.ev hA tabOk ?_) ?_ <;> (first | refine AllO.pass ?_ | ((conv => lhs; cbv); done)))
            | (refine AllO.cons (One.skipB ?_) ?_ <;> (first | refine AllO.pass ?_ | ((conv => lhs; cbv); done)))
            | ((first | refine AllO.consX (One.elemM hA tabOk rfl rfl rfl rfl ?_ ?_) rfl rfl ?_ | refine AllO.consX (One.concatM hA rfl rfl rfl ?_) rfl rfl ?_ | refine AllO.consX (One.lenOwnM hA tabOk rfl rfl rfl rfl) rfl rfl ?_ | refine AllO.consX (One.elemOwnM hA tabOk rfl rfl rfl rfl rfl ?_ ?_) rfl rfl ?_ | refine AllO.consX (One.loadRatM hA tabOk rfl rfl rfl rfl rfl rfl ?_) rfl rfl ?_) <;> (first | refine AllO.pass ?_ | (((try simp only [zn]) <;> (try simp (disch := omega) only [zz hA, zb, zy, reduceCtorEq, Bool.false_eq_true, Int.reduceLT, Int.reduceLE, Int.reduceNeg]) <;> (try simp only [zw])) <;> omega))))
        | refine Thn.exit ?_
        | refine Blk.here ?_
        | refine Blk.other (by decide) ?_
        | refine ⟨.inl rfl, _, RetOk.ev tabOk (by conv => lhs; cbv), ?_⟩
        | fail)
      first | (exfalso; omega) | (refine rPV_then (by conv => lhs; cbv) ?_; rfl) | (refine rPV_then (by conv => lhs; cbv) ?_; refine congrArg (fun b => PV.c (IC.lit (Value.bool b))) ?_; ((try simp only [zn]) <;> (try simp (disch := omega) only [zz hA, zb, zy, reduceCtorEq, Bool.false_eq_true, Int.reduceLT, Int.reduceLE, Int.reduceNeg]) <;> (try simp only [zw])); done) | (refine rPV_then (by conv => lhs; cbv) ?_; refine congrArg (fun b => PV.c (IC.lit (Value.bool b))) ?_; ((try simp only [zn]) <;> (try simp (disch := omega) only [zz hA, zb, zy, reduceCtorEq, Bool.false_eq_true, Int.reduceLT, Int.reduceLE, Int.reduceNeg]) <;> (try simp only [zw])); omega) | fail
set_option maxHeartbeats 8000000 in
theorem both_law (l : List Sg) (E : List Nd) (hsz : FitG l) (hsz2 : FitD E) : PureCalls Try.prog 4 [slP A 2 (encG A) l, slP A 3 (encD A) E] (BP true) := by
  have hsh := shown8_c hA
  have hof := of8_c hA l E hsz hsz2
  cases ho : of8M l E with
  | false =>
    rw [ho, hid_eq hA (α := Bool)] at hof
    refine PureCalls.of Try.func4 rfl (by kernel_rfl) rfl ?_
    try first | refine AOLg.of [] ?_ | refine QSg.of [] ?_
    repeat' (first
      | (refine AWp.pass ?_; first
          | refine AWp.seq ?_
          | refine AWp.block ?_
          | refine AWp.skip ?_
          | refine AWp.regG [] (by conv => lhs; cbv) ?_
          | refine AWp.cond_t rfl ?_
          | refine AWp.cond_f rfl ?_
          | (refine AWp.cond rfl ?_ ?_ <;> intro hc <;> (try rw [hc]) <;> ((try simp only [zn] at hc) <;> (try simp (disch := omega) only [zz hA, zb, zy, reduceCtorEq, Bool.false_eq_true, Int.reduceLT, Int.reduceLE, Int.reduceNeg] at hc) <;> (try simp only [zw] at hc)) <;> (try (exfalso; omega)))
          | refine AWp.exit ?_
          | refine AWp.ret ⟨.inr rfl, _, RetOk.ev tabOk (by conv => lhs; cbv), ?_⟩)
      | (refine AOLg.pass ?_; refine AOLg.nx hA tabOk (by conv => lhs; cbv) ?_; first
          | refine NX.done ?_
          | refine NX.gt ?_
          | refine NX.gf ?_
          | (refine NX.gs ?_ ?_ <;> intro hc <;> rw [hc] <;> ((try simp only [zn] at hc) <;> (try simp (disch := omega) only [zz hA, zb, zy, reduceCtorEq, Bool.false_eq_true, Int.reduceLT, Int.reduceLE, Int.reduceNeg] at hc) <;> (try simp only [zw] at hc)) <;> (try (exfalso; omega)))
          | (refine NX.kC ?_; first | (with_reducible refine NX.call (hsh) ?_) | (with_reducible refine NX.call (hof) ?_) | ((first | refine NX.call (hsh) ?_ | refine NX.call (hof) ?_)) | fail)
          | (refine NX.kO ?_; (first | refine NX.callO (hsh) (by simp [allEq]) rfl ?_ | refine NX.callO (hof) (by simp [allEq]) rfl ?_))
          | ((first | (refine NX.k 1 ?_; first | refine NX.one (One.elemM hA tabOk rfl rfl rfl rfl ?_ ?_) ?_ | refine NX.one (One.elemOwnM hA tabOk rfl rfl rfl rfl rfl ?_ ?_) ?_) | (refine NX.k 7 ?_; first | refine NX.one (One.concatM hA rfl rfl rfl ?_) ?_) | (refine NX.k 8 ?_; first | refine NX.one (One.eqBoolM hA tabOk rfl rfl rfl rfl rfl) ?_) | (refine NX.k 9 ?_; first | refine NX.one (One.neBoolM hA tabOk rfl rfl rfl rfl rfl) ?_) | (refine NX.k 10 ?_; first | refine NX.one (One.lenOwnM hA tabOk rfl rfl rfl rfl) ?_) | (refine NX.k 14 ?_; first | refine NX.one (One.loadRatM hA tabOk rfl rfl rfl rfl rfl rfl ?_) ?_) | (refine NX.k 18 ?_; first | refine NX.one (One.fieldRat tabOk rfl rfl rfl rfl (by decide) rfl rfl) ?_)) <;> (first | refine AOLg.pass ?_ | (((try simp only [zn]) <;> (try simp (disch := omega) only [zz hA, zb, zy, reduceCtorEq, Bool.false_eq_true, Int.reduceLT, Int.reduceLE, Int.reduceNeg]) <;> (try simp only [zw])) <;> omega)))
          | refine NX.raw ?_)
      | refine Thn.exit ?_
      | refine Blk.here ?_
      | refine Blk.other (by decide) ?_
      | refine ⟨.inl rfl, _, RetOk.ev tabOk (by conv => lhs; cbv), ?_⟩
      | fail)
    first | (exfalso; omega) | (refine rPV_then (by conv => lhs; cbv) ?_; rfl) | (refine rPV_then (by conv => lhs; cbv) ?_; refine congrArg (fun b => PV.c (IC.lit (Value.bool b))) ?_; ((try simp only [zn]) <;> (try simp (disch := omega) only [zz hA, zb, zy, reduceCtorEq, Bool.false_eq_true, Int.reduceLT, Int.reduceLE, Int.reduceNeg]) <;> (try simp only [zw])); done) | (refine rPV_then (by conv => lhs; cbv) ?_; refine congrArg (fun b => PV.c (IC.lit (Value.bool b))) ?_; ((try simp only [zn]) <;> (try simp (disch := omega) only [zz hA, zb, zy, reduceCtorEq, Bool.false_eq_true, Int.reduceLT, Int.reduceLE, Int.reduceNeg]) <;> (try simp only [zw])); omega) | fail
  | true =>
    rw [ho, hid_eq hA (α := Bool)] at hof
    obtain ⟨hll, hel, hg, h1, h2⟩ := of8M_st ho
    have o1 := sCheck_c hA l E 76 (by omega) hsz hg h1 (by omega)
    have o2 := sCheck_c hA l E 82 (by omega) hsz hg h1 (by omega)
    have o3 := sCheck_c hA l E 66 (by omega) hsz hg h1 (by omega)
    obtain ⟨hb1, hb2⟩ := both_plain l hg h1 h2
    have hb3 : checkW l E (sidesD l E 66) = 0 → checkW l E (sidesD l E 76) = 0 ∧ checkW l E (sidesD l E 82) = 0 := fun h => ⟨(hb1 h).1 76, (hb1 h).1 82⟩
    have hb4 : checkW l E (sidesD l E 66) = 0 → ∀ i, i < E.length → ndK (E.getD i default) ≤ 3 := fun h => (hb1 h).2
    clear hb1
    generalize checkW l E (sidesD l E 76) = wa at *
    generalize checkW l E (sidesD l E 82) = wb at *
    generalize checkW l E (sidesD l E 66) = wc at *
    generalize checkA l E (sidesD l E 76) = ca at *
    generalize checkA l E (sidesD l E 82) = cb at *
    generalize checkA l E (sidesD l E 66) = cc at *
    have hb5 : 1 < E.length ∨ ndK (E.getD (Int.toNat 0) default) = 3 ∨ wc = 0 := hb2
    refine PureCalls.of Try.func4 rfl (by kernel_rfl) rfl ?_
    by_cases hwc : wc = 0
    · obtain ⟨rfl, rfl⟩ := hb3 hwc
      subst hwc
      replace hb4 := hb4 rfl
      simp only [hid_eq hA (α := Int) (x := 0)] at o1 o2 o3
      try first | refine AOLg.of [] ?_ | refine QSg.of [] ?_
      repeat' (first
        | (refine AWp.pass ?_; first
            | refine AWp.seq ?_
            | refine AWp.block ?_
            | refine AWp.skip ?_
            | refine AWp.regG [] (by conv => lhs; cbv) ?_
            | refine AWp.cond_t rfl ?_
            | refine AWp.cond_f rfl ?_
            | (refine AWp.cond rfl ?_ ?_ <;> intro hc <;> (try rw [hc]) <;> ((try simp only [zn] at hc) <;> (try simp (disch := omega) only [zz hA, zb, zy, reduceCtorEq, Bool.false_eq_true, Int.reduceLT, Int.reduceLE, Int.reduceNeg] at hc) <;> (try simp only [zw] at hc)) <;> (try (exfalso; omega)))
            | refine AWp.exit ?_
            | refine AWp.ret ⟨.inr rfl, _, RetOk.ev tabOk (by conv => lhs; cbv), ?_⟩)
        | (refine AOLg.pass ?_; refine AOLg.nx hA tabOk (by conv => lhs; cbv) ?_; first
            | refine NX.done ?_
            | refine NX.gt ?_
            | refine NX.gf ?_
            | (refine NX.gs ?_ ?_ <;> intro hc <;> rw [hc] <;> ((try simp only [zn] at hc) <;> (try simp (disch := omega) only [zz hA, zb, zy, reduceCtorEq, Bool.false_eq_true, Int.reduceLT, Int.reduceLE, Int.reduceNeg] at hc) <;> (try simp only [zw] at hc)) <;> (try (exfalso; omega)))
            | (refine NX.kC ?_; first | (with_reducible refine NX.call (hsh) ?_) | (with_reducible refine NX.call (hof) ?_) | (with_reducible refine NX.call (o1) ?_) | (with_reducible refine NX.call (o2) ?_) | (with_reducible refine NX.call (o3) ?_) | ((first | refine NX.call (hsh) ?_ | refine NX.call (hof) ?_ | refine NX.call (o1) ?_ | refine NX.call (o2) ?_ | refine NX.call (o3) ?_)) | fail)
            | (refine NX.kO ?_; (first | refine NX.callO (hsh) (by simp [allEq]) rfl ?_ | refine NX.callO (hof) (by simp [allEq]) rfl ?_ | refine NX.callO (o1) (by simp [allEq]) rfl ?_ | refine NX.callO (o2) (by simp [allEq]) rfl ?_ | refine NX.callO (o3) (by simp [allEq]) rfl ?_))
            | ((first | (refine NX.k 1 ?_; first | refine NX.one (One.elemM hA tabOk rfl rfl rfl rfl ?_ ?_) ?_ | refine NX.one (One.elemOwnM hA tabOk rfl rfl rfl rfl rfl ?_ ?_) ?_) | (refine NX.k 7 ?_; first | refine NX.one (One.concatM hA rfl rfl rfl ?_) ?_) | (refine NX.k 8 ?_; first | refine NX.one (One.eqBoolM hA tabOk rfl rfl rfl rfl rfl) ?_) | (refine NX.k 9 ?_; first | refine NX.one (One.neBoolM hA tabOk rfl rfl rfl rfl rfl) ?_) | (refine NX.k 10 ?_; first | refine NX.one (One.lenOwnM hA tabOk rfl rfl rfl rfl) ?_) | (refine NX.k 14 ?_; first | refine NX.one (One.loadRatM hA tabOk rfl rfl rfl rfl rfl rfl ?_) ?_) | (refine NX.k 18 ?_; first | refine NX.one (One.fieldRat tabOk rfl rfl rfl rfl (by decide) rfl rfl) ?_)) <;> (first | refine AOLg.pass ?_ | (((try simp only [zn]) <;> (try simp (disch := omega) only [zz hA, zb, zy, reduceCtorEq, Bool.false_eq_true, Int.reduceLT, Int.reduceLE, Int.reduceNeg]) <;> (try simp only [zw])) <;> omega)))
            | refine NX.raw ?_)
        | refine Thn.exit ?_
        | refine Blk.here ?_
        | refine Blk.other (by decide) ?_
        | refine ⟨.inl rfl, _, RetOk.ev tabOk (by conv => lhs; cbv), ?_⟩
        | fail)
      refine AWp.loopU (fun i : Nat => [(12, .ic (.lit (.int .i64 (hid A (cN i)))))]) (fun _ => []) (fun i => E.length - i) (fun i => i ≤ E.length) 0 (by conv => lhs; cbv) (Nat.zero_le _) (.int rfl (by simp [hA, real, hid, cN]) .nil) rfl ?_
      intro i hi0
      by_cases hi : i < E.length
      · have t1 := hb4 i hi
        try first | refine AOLg.of [] ?_ | refine QSg.of [] ?_
        repeat' (first
          | (refine AWp.pass ?_; first
              | refine AWp.seq ?_
              | refine AWp.block ?_
              | refine AWp.skip ?_
              | refine AWp.regG [] (by conv => lhs; cbv) ?_
              | refine AWp.cond_t rfl ?_
              | refine AWp.cond_f rfl ?_
              | (refine AWp.cond rfl ?_ ?_ <;> intro hc <;> (try rw [hc]) <;> ((try simp only [zn] at hc) <;> (try simp (disch := omega) only [zz hA, zb, zy, reduceCtorEq, Bool.false_eq_true, Int.reduceLT, Int.reduceLE, Int.reduceNeg] at hc) <;> (try simp only [zw] at hc)) <;> (try (exfalso; omega)))
              | refine AWp.exit ?_
              | refine AWp.ret ⟨.inr rfl, _, RetOk.ev tabOk (by conv => lhs; cbv), ?_⟩)
          | (refine AOLg.pass ?_; refine AOLg.nx hA tabOk (by conv => lhs; cbv) ?_; first
              | refine NX.done ?_
              | refine NX.gt ?_
              | refine NX.gf ?_
              | (refine NX.gs ?_ ?_ <;> intro hc <;> rw [hc] <;> ((try simp only [zn] at hc) <;> (try simp (disch := omega) only [zz hA, zb, zy, reduceCtorEq, Bool.false_eq_true, Int.reduceLT, Int.reduceLE, Int.reduceNeg] at hc) <;> (try simp only [zw] at hc)) <;> (try (exfalso; omega)))
              | ((first | (refine NX.k 1 ?_; first | refine NX.one (One.elemM hA tabOk rfl rfl rfl rfl ?_ ?_) ?_ | refine NX.one (One.elemOwnM hA tabOk rfl rfl rfl rfl rfl ?_ ?_) ?_) | (refine NX.k 7 ?_; first | refine NX.one (One.concatM hA rfl rfl rfl ?_) ?_) | (refine NX.k 8 ?_; first | refine NX.one (One.eqBoolM hA tabOk rfl rfl rfl rfl rfl) ?_) | (refine NX.k 9 ?_; first | refine NX.one (One.neBoolM hA tabOk rfl rfl rfl rfl rfl) ?_) | (refine NX.k 10 ?_; first | refine NX.one (One.lenOwnM hA tabOk rfl rfl rfl rfl) ?_) | (refine NX.k 14 ?_; first | refine NX.one (One.loadRatM hA tabOk rfl rfl rfl rfl rfl rfl ?_) ?_) | (refine NX.k 18 ?_; first | refine NX.one (One.fieldRat tabOk rfl rfl rfl rfl (by decide) rfl rfl) ?_)) <;> (first | refine AOLg.pass ?_ | (((try simp only [zn]) <;> (try simp (disch := omega) only [zz hA, zb, zy, reduceCtorEq, Bool.false_eq_true, Int.reduceLT, Int.reduceLE, Int.reduceNeg]) <;> (try simp only [zw])) <;> omega)))
              | refine NX.raw ?_)
          | refine Thn.exit ?_
          | refine Blk.here ?_
          | refine Blk.other (by decide) ?_
          | refine ⟨.inl rfl, _, RetOk.ev tabOk (by conv => lhs; cbv), ?_⟩
          | fail)
        all_goals first
          | (exfalso; omega)
          | (refine ⟨i + 1, by omega, by omega, rfl, rfl, ?_, (by repeat' (first | exact subE.nil | refine subE.cons rfl ?_))⟩
             exact .int rfl (by (((try simp only [zn]) <;> (try simp (disch := omega) only [zz hA, zb, zy, reduceCtorEq, Bool.false_eq_true, Int.reduceLT, Int.reduceLE, Int.reduceNeg]) <;> (try simp only [zw])) <;> omega)) .nil)
      · obtain rfl : i = E.length := by omega
        try first | refine AOLg.of [] ?_ | refine QSg.of [] ?_
        repeat' (first
          | (refine AWp.pass ?_; first
              | refine AWp.seq ?_
              | refine AWp.block ?_
              | refine AWp.skip ?_
              | refine AWp.regG [] (by conv => lhs; cbv) ?_
              | refine AWp.cond_t rfl ?_
              | refine AWp.cond_f rfl ?_
              | (refine AWp.cond rfl ?_ ?_ <;> intro hc <;> (try rw [hc]) <;> ((try simp only [zn] at hc) <;> (try simp (disch := omega) only [zz hA, zb, zy, reduceCtorEq, Bool.false_eq_true, Int.reduceLT, Int.reduceLE, Int.reduceNeg] at hc) <;> (try simp only [zw] at hc)) <;> (try (exfalso; omega)))
              | refine AWp.exit ?_
              | refine AWp.ret ⟨.inr rfl, _, RetOk.ev tabOk (by conv => lhs; cbv), ?_⟩)
          | (refine AOLg.pass ?_; refine AOLg.nx hA tabOk (by conv => lhs; cbv) ?_; first
              | refine NX.done ?_
              | refine NX.gt ?_
              | refine NX.gf ?_
              | (refine NX.gs ?_ ?_ <;> intro hc <;> rw [hc] <;> ((try simp only [zn] at hc) <;> (try simp (disch := omega) only [zz hA, zb, zy, reduceCtorEq, Bool.false_eq_true, Int.reduceLT, Int.reduceLE, Int.reduceNeg] at hc) <;> (try simp only [zw] at hc)) <;> (try (exfalso; omega)))
              | ((first | (refine NX.k 1 ?_; first | refine NX.one (One.elemM hA tabOk rfl rfl rfl rfl ?_ ?_) ?_ | refine NX.one (One.elemOwnM hA tabOk rfl rfl rfl rfl rfl ?_ ?_) ?_) | (refine NX.k 7 ?_; first | refine NX.one (One.concatM hA rfl rfl rfl ?_) ?_) | (refine NX.k 8 ?_; first | refine NX.one (One.eqBoolM hA tabOk rfl rfl rfl rfl rfl) ?_) | (refine NX.k 9 ?_; first | refine NX.one (One.neBoolM hA tabOk rfl rfl rfl rfl rfl) ?_) | (refine NX.k 10 ?_; first | refine NX.one (One.lenOwnM hA tabOk rfl rfl rfl rfl) ?_) | (refine NX.k 14 ?_; first | refine NX.one (One.loadRatM hA tabOk rfl rfl rfl rfl rfl rfl ?_) ?_) | (refine NX.k 18 ?_; first | refine NX.one (One.fieldRat tabOk rfl rfl rfl rfl (by decide) rfl rfl) ?_)) <;> (first | refine AOLg.pass ?_ | (((try simp only [zn]) <;> (try simp (disch := omega) only [zz hA, zb, zy, reduceCtorEq, Bool.false_eq_true, Int.reduceLT, Int.reduceLE, Int.reduceNeg]) <;> (try simp only [zw])) <;> omega)))
              | refine NX.raw ?_)
          | refine Thn.exit ?_
          | refine Blk.here ?_
          | refine Blk.other (by decide) ?_
          | refine ⟨.inl rfl, _, RetOk.ev tabOk (by conv => lhs; cbv), ?_⟩
          | fail)
        all_goals (first | (exfalso; omega) | (refine rPV_then (by conv => lhs; cbv) ?_; rfl) | (refine rPV_then (by conv => lhs; cbv) ?_; refine congrArg (fun b => PV.c (IC.lit (Value.bool b))) ?_; ((try simp only [zn]) <;> (try simp (disch := omega) only [zz hA, zb, zy, reduceCtorEq, Bool.false_eq_true, Int.reduceLT, Int.reduceLE, Int.reduceNeg]) <;> (try simp only [zw])); done) | (refine rPV_then (by conv => lhs; cbv) ?_; refine congrArg (fun b => PV.c (IC.lit (Value.bool b))) ?_; ((try simp only [zn]) <;> (try simp (disch := omega) only [zz hA, zb, zy, reduceCtorEq, Bool.false_eq_true, Int.reduceLT, Int.reduceLE, Int.reduceNeg]) <;> (try simp only [zw])); omega) | fail)
    · clear hb3 hb4
      try first | refine AOLg.of [] ?_ | refine QSg.of [] ?_
      repeat' (first
        | (refine AWp.pass ?_; first
            | refine AWp.seq ?_
            | refine AWp.block ?_
            | refine AWp.skip ?_
            | refine AWp.regG [] (by conv => lhs; cbv) ?_
            | refine AWp.cond_t rfl ?_
            | refine AWp.cond_f rfl ?_
            | (refine AWp.cond rfl ?_ ?_ <;> intro hc <;> (try rw [hc]) <;> ((try simp only [zn] at hc) <;> (try simp (disch := omega) only [zz hA, zb, zy, reduceCtorEq, Bool.false_eq_true, Int.reduceLT, Int.reduceLE, Int.reduceNeg] at hc) <;> (try simp only [zw] at hc)) <;> (try (exfalso; omega)))
            | refine AWp.exit ?_
            | refine AWp.ret ⟨.inr rfl, _, RetOk.ev tabOk (by conv => lhs; cbv), ?_⟩)
        | (refine AOLg.pass ?_; refine AOLg.nx hA tabOk (by conv => lhs; cbv) ?_; first
            | refine NX.done ?_
            | refine NX.gt ?_
            | refine NX.gf ?_
            | (refine NX.gs ?_ ?_ <;> intro hc <;> rw [hc] <;> ((try simp only [zn] at hc) <;> (try simp (disch := omega) only [zz hA, zb, zy, reduceCtorEq, Bool.false_eq_true, Int.reduceLT, Int.reduceLE, Int.reduceNeg] at hc) <;> (try simp only [zw] at hc)) <;> (try (exfalso; omega)))
            | (refine NX.kC ?_; first | (with_reducible refine NX.call (hsh) ?_) | (with_reducible refine NX.call (hof) ?_) | (with_reducible refine NX.call (o1) ?_) | (with_reducible refine NX.call (o2) ?_) | (with_reducible refine NX.call (o3) ?_) | ((first | refine NX.call (hsh) ?_ | refine NX.call (hof) ?_ | refine NX.call (o1) ?_ | refine NX.call (o2) ?_ | refine NX.call (o3) ?_)) | fail)
            | (refine NX.kO ?_; (first | refine NX.callO (hsh) (by simp [allEq]) rfl ?_ | refine NX.callO (hof) (by simp [allEq]) rfl ?_ | refine NX.callO (o1) (by simp [allEq]) rfl ?_ | refine NX.callO (o2) (by simp [allEq]) rfl ?_ | refine NX.callO (o3) (by simp [allEq]) rfl ?_))
            | ((first | (refine NX.k 1 ?_; first | refine NX.one (One.elemM hA tabOk rfl rfl rfl rfl ?_ ?_) ?_ | refine NX.one (One.elemOwnM hA tabOk rfl rfl rfl rfl rfl ?_ ?_) ?_) | (refine NX.k 7 ?_; first | refine NX.one (One.concatM hA rfl rfl rfl ?_) ?_) | (refine NX.k 8 ?_; first | refine NX.one (One.eqBoolM hA tabOk rfl rfl rfl rfl rfl) ?_) | (refine NX.k 9 ?_; first | refine NX.one (One.neBoolM hA tabOk rfl rfl rfl rfl rfl) ?_) | (refine NX.k 10 ?_; first | refine NX.one (One.lenOwnM hA tabOk rfl rfl rfl rfl) ?_) | (refine NX.k 14 ?_; first | refine NX.one (One.loadRatM hA tabOk rfl rfl rfl rfl rfl rfl ?_) ?_) | (refine NX.k 18 ?_; first | refine NX.one (One.fieldRat tabOk rfl rfl rfl rfl (by decide) rfl rfl) ?_)) <;> (first | refine AOLg.pass ?_ | (((try simp only [zn]) <;> (try simp (disch := omega) only [zz hA, zb, zy, reduceCtorEq, Bool.false_eq_true, Int.reduceLT, Int.reduceLE, Int.reduceNeg]) <;> (try simp only [zw])) <;> omega)))
            | refine NX.raw ?_)
        | refine Thn.exit ?_
        | refine Blk.here ?_
        | refine Blk.other (by decide) ?_
        | refine ⟨.inl rfl, _, RetOk.ev tabOk (by conv => lhs; cbv), ?_⟩
        | fail)
      refine AWp.loopU (fun i : Nat => [(12, .ic (.lit (.int .i64 (hid A (cN i)))))]) (fun _ => []) (fun i => E.length - i) (fun i => i ≤ E.length) 0 (by conv => lhs; cbv) (Nat.zero_le _) (.int rfl (by simp [hA, real, hid, cN]) .nil) rfl ?_
      intro i hi0
      by_cases hi : i < E.length
      · try first | refine AOLg.of [] ?_ | refine QSg.of [] ?_
        repeat' (first
          | (refine AWp.pass ?_; first
              | refine AWp.seq ?_
              | refine AWp.block ?_
              | refine AWp.skip ?_
              | refine AWp.regG [] (by conv => lhs; cbv) ?_
              | refine AWp.cond_t rfl ?_
              | refine AWp.cond_f rfl ?_
              | (refine AWp.cond rfl ?_ ?_ <;> intro hc <;> (try rw [hc]) <;> ((try simp only [zn] at hc) <;> (try simp (disch := omega) only [zz hA, zb, zy, reduceCtorEq, Bool.false_eq_true, Int.reduceLT, Int.reduceLE, Int.reduceNeg] at hc) <;> (try simp only [zw] at hc)) <;> (try (exfalso; omega)))
              | refine AWp.exit ?_
              | refine AWp.ret ⟨.inr rfl, _, RetOk.ev tabOk (by conv => lhs; cbv), ?_⟩)
          | (refine AOLg.pass ?_; refine AOLg.nx hA tabOk (by conv => lhs; cbv) ?_; first
              | refine NX.done ?_
              | refine NX.gt ?_
              | refine NX.gf ?_
              | (refine NX.gs ?_ ?_ <;> intro hc <;> rw [hc] <;> ((try simp only [zn] at hc) <;> (try simp (disch := omega) only [zz hA, zb, zy, reduceCtorEq, Bool.false_eq_true, Int.reduceLT, Int.reduceLE, Int.reduceNeg] at hc) <;> (try simp only [zw] at hc)) <;> (try (exfalso; omega)))
              | ((first | (refine NX.k 1 ?_; first | refine NX.one (One.elemM hA tabOk rfl rfl rfl rfl ?_ ?_) ?_ | refine NX.one (One.elemOwnM hA tabOk rfl rfl rfl rfl rfl ?_ ?_) ?_) | (refine NX.k 7 ?_; first | refine NX.one (One.concatM hA rfl rfl rfl ?_) ?_) | (refine NX.k 8 ?_; first | refine NX.one (One.eqBoolM hA tabOk rfl rfl rfl rfl rfl) ?_) | (refine NX.k 9 ?_; first | refine NX.one (One.neBoolM hA tabOk rfl rfl rfl rfl rfl) ?_) | (refine NX.k 10 ?_; first | refine NX.one (One.lenOwnM hA tabOk rfl rfl rfl rfl) ?_) | (refine NX.k 14 ?_; first | refine NX.one (One.loadRatM hA tabOk rfl rfl rfl rfl rfl rfl ?_) ?_) | (refine NX.k 18 ?_; first | refine NX.one (One.fieldRat tabOk rfl rfl rfl rfl (by decide) rfl rfl) ?_)) <;> (first | refine AOLg.pass ?_ | (((try simp only [zn]) <;> (try simp (disch := omega) only [zz hA, zb, zy, reduceCtorEq, Bool.false_eq_true, Int.reduceLT, Int.reduceLE, Int.reduceNeg]) <;> (try simp only [zw])) <;> omega)))
              | refine NX.raw ?_)
          | refine Thn.exit ?_
          | refine Blk.here ?_
          | refine Blk.other (by decide) ?_
          | refine ⟨.inl rfl, _, RetOk.ev tabOk (by conv => lhs; cbv), ?_⟩
          | fail)
        all_goals first
          | (exfalso; omega)
          | (refine ⟨i + 1, by omega, by omega, rfl, rfl, ?_, (by repeat' (first | exact subE.nil | refine subE.cons rfl ?_))⟩
             exact .int rfl (by (((try simp only [zn]) <;> (try simp (disch := omega) only [zz hA, zb, zy, reduceCtorEq, Bool.false_eq_true, Int.reduceLT, Int.reduceLE, Int.reduceNeg]) <;> (try simp only [zw])) <;> omega)) .nil)
      · obtain rfl : i = E.length := by omega
        try first | refine AOLg.of [] ?_ | refine QSg.of [] ?_
        repeat' (first
          | (refine AWp.pass ?_; first
              | refine AWp.seq ?_
              | refine AWp.block ?_
              | refine AWp.skip ?_
              | refine AWp.regG [] (by conv => lhs; cbv) ?_
              | refine AWp.cond_t rfl ?_
              | refine AWp.cond_f rfl ?_
              | (refine AWp.cond rfl ?_ ?_ <;> intro hc <;> (try rw [hc]) <;> ((try simp only [zn] at hc) <;> (try simp (disch := omega) only [zz hA, zb, zy, reduceCtorEq, Bool.false_eq_true, Int.reduceLT, Int.reduceLE, Int.reduceNeg] at hc) <;> (try simp only [zw] at hc)) <;> (try (exfalso; omega)))
              | refine AWp.exit ?_
              | refine AWp.ret ⟨.inr rfl, _, RetOk.ev tabOk (by conv => lhs; cbv), ?_⟩)
          | (refine AOLg.pass ?_; refine AOLg.nx hA tabOk (by conv => lhs; cbv) ?_; first
              | refine NX.done ?_
              | refine NX.gt ?_
              | refine NX.gf ?_
              | (refine NX.gs ?_ ?_ <;> intro hc <;> rw [hc] <;> ((try simp only [zn] at hc) <;> (try simp (disch := omega) only [zz hA, zb, zy, reduceCtorEq, Bool.false_eq_true, Int.reduceLT, Int.reduceLE, Int.reduceNeg] at hc) <;> (try simp only [zw] at hc)) <;> (try (exfalso; omega)))
              | ((first | (refine NX.k 1 ?_; first | refine NX.one (One.elemM hA tabOk rfl rfl rfl rfl ?_ ?_) ?_ | refine NX.one (One.elemOwnM hA tabOk rfl rfl rfl rfl rfl ?_ ?_) ?_) | (refine NX.k 7 ?_; first | refine NX.one (One.concatM hA rfl rfl rfl ?_) ?_) | (refine NX.k 8 ?_; first | refine NX.one (One.eqBoolM hA tabOk rfl rfl rfl rfl rfl) ?_) | (refine NX.k 9 ?_; first | refine NX.one (One.neBoolM hA tabOk rfl rfl rfl rfl rfl) ?_) | (refine NX.k 10 ?_; first | refine NX.one (One.lenOwnM hA tabOk rfl rfl rfl rfl) ?_) | (refine NX.k 14 ?_; first | refine NX.one (One.loadRatM hA tabOk rfl rfl rfl rfl rfl rfl ?_) ?_) | (refine NX.k 18 ?_; first | refine NX.one (One.fieldRat tabOk rfl rfl rfl rfl (by decide) rfl rfl) ?_)) <;> (first | refine AOLg.pass ?_ | (((try simp only [zn]) <;> (try simp (disch := omega) only [zz hA, zb, zy, reduceCtorEq, Bool.false_eq_true, Int.reduceLT, Int.reduceLE, Int.reduceNeg]) <;> (try simp only [zw])) <;> omega)))
              | refine NX.raw ?_)
          | refine Thn.exit ?_
          | refine Blk.here ?_
          | refine Blk.other (by decide) ?_
          | refine ⟨.inl rfl, _, RetOk.ev tabOk (by conv => lhs; cbv), ?_⟩
          | fail)
        all_goals (first | (exfalso; omega) | (refine rPV_then (by conv => lhs; cbv) ?_; rfl) | (refine rPV_then (by conv => lhs; cbv) ?_; refine congrArg (fun b => PV.c (IC.lit (Value.bool b))) ?_; ((try simp only [zn]) <;> (try simp (disch := omega) only [zz hA, zb, zy, reduceCtorEq, Bool.false_eq_true, Int.reduceLT, Int.reduceLE, Int.reduceNeg]) <;> (try simp only [zw])); done) | (refine rPV_then (by conv => lhs; cbv) ?_; refine congrArg (fun b => PV.c (IC.lit (Value.bool b))) ?_; ((try simp only [zn]) <;> (try simp (disch := omega) only [zz hA, zb, zy, reduceCtorEq, Bool.false_eq_true, Int.reduceLT, Int.reduceLE, Int.reduceNeg]) <;> (try simp only [zw])); omega) | fail)
end Go.Proofs.Ytgemcogfpkolfaa.Aw

/- The abstract walk, part 42: an argument that is a text, read from the row's data. -/
set_option linter.unusedVariables false
namespace Go.Proofs.Ytgemcogfpkolfaa.Aw
open Go Go.RowKit Go.ChangeShapes Go.WideShapes
theorem open_str {H : Type} {enc : TypeId × Value → H} {P : Program} {w : World} {base : Nat} {sp : Nat → Bool} {held : Bool} {r : Reach} {b0 : Nat} {t : TypeId} {v : Value} {d : DataW H} {ps : List MemPlace} (ht : P.underlying t = some .string) (hval : Value.okWide P w r b0 t v) (hd : DataW.Trod enc P w base sp held t v d ps) :
    ∃ s : ByteArray, v = .string s ∧ d = .lit (.string s.data.toList) ∧ ps = [] ∧ s.size ≤ maxLen := by
  obtain ⟨s, rfl⟩ := okWide_string ht hval
  obtain ⟨fuel, hf⟩ := hd
  obtain ⟨s', h, hx, hw⟩ := DataW.trod_string ht hf
  simp [Value.cells] at h
  subst h
  simp only [Prod.mk.injEq] at hx
  exact ⟨s, rfl, hx.1, hx.2, hw⟩
theorem shut_str {H : Type} {enc : TypeId × Value → H} {P : Program} {w : World} {base : Nat} {sp : Nat → Bool} {held : Bool} {t : TypeId} {s : ByteArray} (ht : P.underlying t = some .string) (hw : s.size ≤ maxLen) : DataW.Trod enc P w base sp held t (.string s) (.lit (.string s.data.toList)) [] :=
  ⟨1, by simp [DataW.trod, Value.cells, ht, hw]⟩
theorem str_size {H : Type} {P : Program} {t : TypeId} {s : ByteArray} (hw : ((DataW.lit (.string s.data.toList) : DataW H).weights P t).all (· ≤ reachBytes) = true) : s.size ≤ 140737488351232 := by
  simp only [DataW.weights, List.all_cons, List.all_nil, Bool.and_true, decide_eq_true_eq] at hw
  have : s.data.toList.length = s.size := by rw [Array.length_toList]; rfl
  rw [this] at hw
  exact hw
end Go.Proofs.Ytgemcogfpkolfaa.Aw

/- Laws of side over the row's data. -/
set_option linter.unusedVariables false
set_option linter.unusedSectionVars false
namespace Go.Proofs.Ytgemcogfpkolfaa.Aw
open Go Go.RowKit
variable {A : Ar} (hA : A = real)
include hA
theorem varsL (E : List Nd) (hE : FitD E) (s : ByteArray) (hs : s.size ≤ 140737488351232) : PureCalls Try.prog 6 [slP A 3 (encD A) E, SP s] (BP true) := vars_law hA E s hE (by omega)
theorem unknownL (E : List Nd) (hE : FitD E) (s : Int) : PureCalls Try.prog 9 [slP A 3 (encD A) E, UP s] (BP true) := unknown_law hA E s hE
theorem turnsL (l : List Sg) (hl : FitG l) (E : List Nd) (hE : FitD E) : PureCalls Try.prog 7 [slP A 2 (encG A) l, slP A 3 (encD A) E] (BP true) := turns_law hA l E hl hE
theorem bothL (l : List Sg) (hl : FitG l) (E : List Nd) (hE : FitD E) : PureCalls Try.prog 4 [slP A 2 (encG A) l, slP A 3 (encD A) E] (BP true) := both_law hA l E hl hE
end Go.Proofs.Ytgemcogfpkolfaa.Aw
