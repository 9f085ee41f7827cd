/- Contracts of the document's answer, part 3: what cells were. -/
import Derived.Test.YtinehodamekjgaaRf2
set_option linter.unusedVariables false
namespace Go.Proofs.Ytinehodamekjgaa.Aw
open Go Go.RowKit
set_option maxRecDepth 10000
variable {A : Ar} (hA : A = real)
include hA
theorem refCells (V : List Int) (N : List (Int × Int)) (M : List (List IC)) (many : Nat) (hf : many ≤ N.length) (hV : V.length ≤ 1000000) (hN : N.length ≤ 1000000) :
    PureCalls Try.prog 34 [cellsPV (ints V) (nts N) M, .c (I many)] (undoneR (undoAll (N.drop many) V)) := by
  refine PureCalls.of Try.func34 rfl (by kernel_rfl) rfl ?_
  have hng := nts_get? N
  generalize hVr : ints V = Vr
  generalize hNr : nts N = Nr at hng ⊢
  generalize hmn : (many : Int) = mn
  have hVl : Vr.length = V.length := by rw [← hVr]; simp
  have hNl : Nr.length = N.length := by rw [← hNr]; simp
  refine AWp.seq (AWp.region (AOL.to hA tabOk (by conv => lhs; cbv) (AOL.nil ?_)))
  refine AWp.seq (AWp.region (AOL.to hA tabOk (by conv => lhs; cbv) ?_))
  refine One.build0 tabOk rfl rfl _ _ ?_
  refine AOL.to hA tabOk (by conv => lhs; cbv) ?_
  refine One.appendOwn tabOk rfl rfl rfl rfl rfl rfl ?_ ?_ _ _ ?_
  · show (0 + Vr.length) * 8 ≤ _; omega
  · show 0 + Vr.length ≤ _; simp only [maxLen]; omega
  refine AOL.to hA tabOk (by conv => lhs; cbv) (AOL.nil ?_)
  refine AWp.seq (AWp.seq (AWp.region (AOL.to hA tabOk (by conv => lhs; cbv) (AOL.nil ?_))))
  have hs : A .sub .i64 (A .len Nr) 1 = (N.length : Int) - 1 := by rw [rsub hA, rlen hA, hNl, wok (by omega) (by omega)]
  rw [hs]
  refine AWp.block ?_
  refine AWp.loop (fun m s => ∃ (k ver : Nat) (Vk : List Int), m + many = k ∧ k ≤ N.length ∧ undoAll (N.drop k) V = some Vk ∧ Vk.length ≤ V.length ∧ Sub ⟨57, [(1, .ic (I mn)), (2, .ptr 0 0), (6, .own 1 ver), (7, .ic (I ((k : Int) - 1)))],
    [.var true 25 [.ic (.sl 1 false Vr), .ic (.sl 2 false Nr), .ic (.sl 1 false M)], .row true ver 3 1 (ints Vk)]⟩ s) (N.length - many)
    ⟨N.length, 1, V, by omega, Nat.le_refl _, by simp [undoAll], Nat.le_refl _, Sub.of rfl (by rw [hVr]) (.cons rfl (.cons rfl (.cons rfl (.cons rfl .nil))))⟩ ?_
  rintro m s ⟨k, ver, Vk, hm, hk, hu, hle, hsub⟩
  refine AWp.sub hsub (AWp.trim 2 (Nat.le_refl _) ?_)
  have hIl : (ints Vk).length = Vk.length := by simp
  have hIg := ints_get? Vk
  generalize hI : ints Vk = Ik at hIl hIg
  generalize hz : (k : Int) - 1 = z
  refine AWp.seq (AWp.seq (AWp.region (AOL.to hA tabOk (by conv => lhs; cbv) (AOL.nil ?_))))
  cases m with
  | zero =>
    rw [show A .le mn z = false by rw [rle hA]; exact decide_eq_false (by omega)]
    refine AWp.cond_f rfl (AWp.exit (Thn.exit ?_))
    refine ⟨[(6, .own 1 ver)], Trim.of rfl (.same (.same .nil)) rfl (.cons rfl .nil), Thn.exit (Blk.here ?_)⟩
    have hkm : k = many := by omega
    rw [hkm] at hu
    rw [hu]
    simp only [undoneR]
    rw [hI]
    refine AWp.seq (AWp.region (AOL.to hA tabOk (by conv => lhs; cbv) (AOL.nil ?_)))
    exact AWp.ret ⟨.inr rfl, _, RetOk.two rfl (Res1.tmp _) (Res1.tmp _), rPV_own2 rfl rfl⟩
  | succ m =>
    rw [show A .le mn z = true by rw [rle hA]; exact decide_eq_true (by omega)]
    refine AWp.cond_t rfl (AWp.skip ?_)
    obtain ⟨k, rfl⟩ : ∃ k', k = k' + 1 := ⟨k - 1, by omega⟩
    have hn : N[k]? = some N[k] := List.getElem?_eq_getElem (by omega)
    have hd : N.drop k = N[k] :: N.drop (k + 1) := List.drop_eq_getElem_cons (by omega)
    generalize N[k] = n at hn hd
    obtain ⟨a, b⟩ := n
    have hstep : undoAll (N.drop k) V = undo1 (a, b) Vk := by rw [hd]; simp [undoAll, hu]
    have hzk : z.toNat = k := by omega
    have hdec : A .sub .i64 z 1 = (k : Int) - 1 := by rw [rsub hA, wok (by omega) (by omega)]; omega
    refine AWp.seq (AWp.block (AWp.seq (AWp.region (AOL.to hA tabOk (by conv => lhs; cbv) ?_))))
    refine One.elem tabOk rfl rfl rfl rfl (by omega) (by rw [hzk]; exact hng k a b hn) _ _ ?_
    refine AOL.to hA tabOk (by conv => lhs; cbv) (AOL.nil ?_)
    by_cases h1 : a = -1 ∧ 0 < Vk.length
    · have hun : undo1 (a, b) Vk = some Vk.dropLast := by simp [undo1, h1.1, h1.2]
      refine AWp.seq (AWp.region (AOL.upto hA tabOk 4 (by conv => lhs; cbv) ?_))
      rw [show A .eq a (-1) = true by rw [req hA]; exact decide_eq_true h1.1]
      refine AOL.to hA tabOk (by conv => lhs; cbv) ?_
      refine One.lenOwn tabOk rfl rfl rfl rfl (rlen hA Ik).symm _ _ ?_
      refine AOL.to hA tabOk (by conv => lhs; cbv) (AOL.nil ?_)
      rw [show A .lt 0 (A .len Ik) = true by rw [rlt hA, rlen hA]; exact decide_eq_true (by omega)]
      refine AWp.cond_t rfl (AWp.region (AOL.to hA tabOk (by conv => lhs; cbv) ?_))
      refine One.lenOwn tabOk rfl rfl rfl rfl (rlen hA Ik).symm _ _ ?_
      refine AOL.to hA tabOk (by conv => lhs; cbv) ?_
      have hs : A .sub .i64 (A .len Ik) 1 = ((Vk.length - 1 : Nat) : Int) := by rw [rsub hA, rlen hA, wok (by omega) (by omega)]; omega
      refine One.takeOwn tabOk rfl rfl rfl rfl rfl (by rw [hs]; omega) (by rw [hs]; omega) _ _ ?_
      rw [hs]
      have hd2 : Ik.take (((Vk.length - 1 : Nat) : Int)).toNat = ints Vk.dropLast := by rw [← hI, Int.toNat_natCast, List.dropLast_eq_take]; simp [ints, List.map_take]
      rw [hd2]
      generalize hI2 : ints Vk.dropLast = Ik2
      generalize ver + 1 = ver'
      refine AOL.to hA tabOk (by conv => lhs; cbv) (AOL.nil ?_)
      refine AWp.region (AOL.to hA tabOk (by conv => lhs; cbv) (AOL.nil ?_))
      rw [hdec]
      refine ⟨[(1, .ic (I mn)), (2, .ptr 0 0), (6, .own 1 ver'), (7, .ic (I ((k : Int) - 1)))], Trim.of rfl (.same (.turn rfl .nil)) rfl (.cons rfl (.cons rfl (.cons rfl (.cons rfl .nil)))), ?_⟩
      exact ⟨m, by omega, k, ver', Vk.dropLast, by omega, by omega, by rw [hstep, hun], by simp; omega, Sub.of rfl (by rw [hI2]; rfl) (.cons rfl (.cons rfl (.cons rfl (.cons rfl .nil))))⟩
    · by_cases h2 : 0 ≤ a ∧ a < Vk.length
      · have hun : undo1 (a, b) Vk = some (Vk.set a.toNat b) := by simp only [undo1]; rw [if_neg h1, if_pos h2]
        have hlt : a.toNat < Vk.length := by omega
        have hu2 : Ik[a.toNat]? = some [I (Vk[a.toNat]'hlt)] := hIg _ _ (List.getElem?_eq_getElem hlt)
        refine AWp.seq (AWp.region (AOL.upto hA tabOk 4 (by conv => lhs; cbv) ?_))
        rw [show A .eq a (-1) = false by rw [req hA]; exact decide_eq_false (by omega)]
        refine AOL.to hA tabOk (by conv => lhs; cbv) (AOL.nil ?_)
        refine AWp.cond_f rfl ?_
        refine AWp.seq (AWp.region (AOL.upto hA tabOk 4 (by conv => lhs; cbv) ?_))
        rw [show A .le 0 a = true by rw [rle hA]; exact decide_eq_true (by omega)]
        refine AOL.to hA tabOk (by conv => lhs; cbv) ?_
        refine One.lenOwn tabOk rfl rfl rfl rfl (rlen hA Ik).symm _ _ ?_
        refine AOL.to hA tabOk (by conv => lhs; cbv) (AOL.nil ?_)
        rw [show A .lt a (A .len Ik) = true by rw [rlt hA, rlen hA]; exact decide_eq_true (by omega)]
        refine AWp.cond_t rfl (AWp.region (AOL.to hA tabOk (by conv => lhs; cbv) ?_))
        refine One.elemOwn tabOk rfl rfl rfl rfl rfl (by omega) (by omega) _ _ ?_
        refine One.storeRat tabOk rfl rfl rfl rfl hu2 rfl rfl rfl (Nat.le_refl 1) _ _ ?_
        generalize hV' : Ik.set a.toNat _ = Ik2
        have hd2 : ints (Vk.set a.toNat b) = Ik2 := by rw [← hV', ← hI]; simp [ints, List.map_set]
        refine AOL.to hA tabOk (by conv => lhs; cbv) (AOL.nil ?_)
        refine AWp.region (AOL.to hA tabOk (by conv => lhs; cbv) (AOL.nil ?_))
        rw [hdec]
        refine ⟨[(1, .ic (I mn)), (2, .ptr 0 0), (6, .own 1 ver), (7, .ic (I ((k : Int) - 1)))], Trim.of rfl (.same (.turn rfl .nil)) rfl (.cons rfl (.cons rfl (.cons rfl (.cons rfl .nil)))), ?_⟩
        exact ⟨m, by omega, k, ver, Vk.set a.toNat b, by omega, by omega, by rw [hstep, hun], by simpa using hle, Sub.of rfl (by rw [hd2]; rfl) (.cons rfl (.cons rfl (.cons rfl (.cons rfl .nil))))⟩
      · have hun : undo1 (a, b) Vk = none := by simp only [undo1]; rw [if_neg h1, if_neg h2]
        have hnone : undoAll (N.drop many) V = none := by
          refine undoAll_none (k - many) ?_
          rw [List.drop_drop, show many + (k - many) = k by omega, hstep, hun]
        rw [hnone]
        refine AWp.seq (AWp.region (AOL.upto hA tabOk 4 (by conv => lhs; cbv) ?_))
        by_cases h3 : a = -1
        · rw [show A .eq a (-1) = true by rw [req hA]; exact decide_eq_true h3]
          refine AOL.to hA tabOk (by conv => lhs; cbv) ?_
          refine One.lenOwn tabOk rfl rfl rfl rfl (rlen hA Ik).symm _ _ ?_
          refine AOL.to hA tabOk (by conv => lhs; cbv) (AOL.nil ?_)
          rw [show A .lt 0 (A .len Ik) = false by rw [rlt hA, rlen hA]; exact decide_eq_false (by omega)]
          refine AWp.cond_f rfl ?_
          refine AWp.seq (AWp.region (AOL.upto hA tabOk 4 (by conv => lhs; cbv) ?_))
          rw [show A .le 0 a = false by rw [rle hA]; exact decide_eq_false (by omega)]
          refine AOL.to hA tabOk (by conv => lhs; cbv) (AOL.nil ?_)
          refine AWp.cond_f rfl ?_
          refine AWp.seq (AWp.region (AOL.to hA tabOk (by conv => lhs; cbv) (AOL.nil ?_)))
          refine AWp.ret ⟨[(4, .ic (.sl 0 true [])), (5, .ic (Bo false))], Trim.of rfl (.same (.same .nil)) rfl (.cons rfl (.cons rfl .nil)), ?_⟩
          exact ⟨.inr rfl, _, RetOk.two rfl (Res1.tmp _) (Res1.tmp _), rfl⟩
        · rw [show A .eq a (-1) = false by rw [req hA]; exact decide_eq_false h3]
          refine AOL.to hA tabOk (by conv => lhs; cbv) (AOL.nil ?_)
          refine AWp.cond_f rfl ?_
          refine AWp.seq (AWp.region (AOL.upto hA tabOk 4 (by conv => lhs; cbv) ?_))
          by_cases h4 : 0 ≤ a
          · rw [show A .le 0 a = true by rw [rle hA]; exact decide_eq_true h4]
            refine AOL.to hA tabOk (by conv => lhs; cbv) ?_
            refine One.lenOwn tabOk rfl rfl rfl rfl (rlen hA Ik).symm _ _ ?_
            refine AOL.to hA tabOk (by conv => lhs; cbv) (AOL.nil ?_)
            rw [show A .lt a (A .len Ik) = false by rw [rlt hA, rlen hA]; exact decide_eq_false (by omega)]
            refine AWp.cond_f rfl ?_
            refine AWp.seq (AWp.region (AOL.to hA tabOk (by conv => lhs; cbv) (AOL.nil ?_)))
            refine AWp.ret ⟨[(4, .ic (.sl 0 true [])), (5, .ic (Bo false))], Trim.of rfl (.same (.same .nil)) rfl (.cons rfl (.cons rfl .nil)), ?_⟩
            exact ⟨.inr rfl, _, RetOk.two rfl (Res1.tmp _) (Res1.tmp _), rfl⟩
          · rw [show A .le 0 a = false by rw [rle hA]; exact decide_eq_false h4]
            refine AOL.to hA tabOk (by conv => lhs; cbv) (AOL.nil ?_)
            refine AWp.cond_f rfl ?_
            refine AWp.seq (AWp.region (AOL.to hA tabOk (by conv => lhs; cbv) (AOL.nil ?_)))
            refine AWp.ret ⟨[(4, .ic (.sl 0 true [])), (5, .ic (Bo false))], Trim.of rfl (.same (.same .nil)) rfl (.cons rfl (.cons rfl .nil)), ?_⟩
            exact ⟨.inr rfl, _, RetOk.two rfl (Res1.tmp _) (Res1.tmp _), rfl⟩
end Go.Proofs.Ytinehodamekjgaa.Aw
