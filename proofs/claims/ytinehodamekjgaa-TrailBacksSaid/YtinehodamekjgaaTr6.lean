/- Contracts of package trail, part 6: Back, Right. -/
import Derived.Test.YtinehodamekjgaaTr5
import Derived.Test.YtinehodamekjgaaRf4
set_option linter.unusedVariables false
namespace Go.Proofs.Ytinehodamekjgaa.Aw
open Go Go.RowKit
set_option maxRecDepth 10000
variable {A : Ar} (hA : A = real)
include hA
theorem back_c0 (V N M : List (List IC)) (h : M = []) : PureCalls Try.prog 18 [cellsPV V N M] (.tup [cellsPV V N M, .c (I 10)]) := by
  refine PureCalls.of Try.func18 rfl (by kernel_rfl) rfl ?_
  refine AWp.seq (AWp.region (AOL.to hA tabOk (by conv => lhs; cbv) (AOL.nil ?_)))
  refine AWp.seq (AWp.region (AOL.to hA tabOk (by conv => lhs; cbv) ?_))
  refine One.call false rfl rfl rfl (keep_c0 hA V N M h) rfl _ _ ?_
  refine AOL.to hA tabOk (by conv => lhs; cbv) (AOL.nil ?_)
  refine AWp.seq (AWp.seq (AWp.region (AOL.to hA tabOk (by conv => lhs; cbv) (AOL.nil ?_))))
  rw [show A .no (A .eq 10 0) = true by rw [rno hA, req hA]; rfl]
  refine AWp.cond_t rfl ?_
  refine AWp.seq (AWp.region (AOL.to hA tabOk (by conv => lhs; cbv) (AOL.nil ?_)))
  exact AWp.ret ⟨.inr rfl, _, RetOk.two rfl (Res1.cell _ _ _ _ _ _ _ _ rfl rfl rfl ⟨rfl, rfl⟩) (Res1.tmp _), rfl⟩
theorem back_c1 (V : List Int) (N : List (Int × Int)) (M : List Int) (m : Nat) (h : M[M.length - 1]? = some (m : Int)) (hm : m ≤ N.length) (hV : V.length ≤ 100000) (hN : N.length ≤ 100000) (hM : M.length ≤ 200000) (V' : List Int) (hu : undoAll (N.drop m) V = some V') :
    PureCalls Try.prog 18 [cellsPV (ints V) (nts N) (ints M)] (.tup [cellsPV (ints V') (nts (N.take m)) (ints M.dropLast), .c (I 0)]) := by
  have hne : M ≠ [] := fun e => by rw [e] at h; simp at h
  have hpos : 0 < M.length := List.length_pos_iff.2 hne
  refine PureCalls.of Try.func18 rfl (by kernel_rfl) rfl ?_
  have hk := keep_c1 hA (ints V) (nts N) (ints M) (by simpa using hne) (by simp; omega)
  have hun := undone_c hA V N (ints M) m hm (by omega) (by omega)
  rw [hu] at hun
  simp only [undoneR] at hun
  have hdl : (ints M).dropLast = ints M.dropLast := by simp [ints, List.map_dropLast]
  rw [hdl] at hk
  have htk : nts (N.take m) = (nts N).take m := by simp [nts, List.map_take]
  rw [htk]
  have hMg := ints_get? M _ _ h
  have hMl : (ints M).length = M.length := by simp
  have hNl : (nts N).length = N.length := by simp
  generalize ints V = Vr at hk hun ⊢
  generalize nts N = Nr at hk hun hNl ⊢
  generalize ints M = Mr at hk hun hMg hMl ⊢
  generalize ints M.dropLast = Mr' at hk ⊢
  generalize ints V' = Vr' at hun ⊢
  generalize hz : (m : Int) = z at hun hMg
  refine AWp.seq (AWp.region (AOL.to hA tabOk (by conv => lhs; cbv) (AOL.nil ?_)))
  refine AWp.seq (AWp.region (AOL.to hA tabOk (by conv => lhs; cbv) ?_))
  refine One.call false rfl rfl rfl hk rfl _ _ ?_
  refine AOL.to hA tabOk (by conv => lhs; cbv) (AOL.nil ?_)
  refine AWp.seq (AWp.seq (AWp.region (AOL.to hA tabOk (by conv => lhs; cbv) (AOL.nil ?_))))
  rw [show A .no (A .eq 0 0) = false by rw [rno hA, req hA]; rfl]
  refine AWp.cond_f rfl (AWp.skip ?_)
  have hs : A .sub .i64 (A .len Mr) 1 = ((M.length - 1 : Nat) : Int) := by rw [rsub hA, rlen hA, hMl, wok (by omega) (by omega)]; omega
  refine AWp.seq (AWp.region (AOL.to hA tabOk (by conv => lhs; cbv) ?_))
  refine One.elem tabOk rfl rfl rfl rfl (by rw [hs]; omega) (by rw [hs, Int.toNat_natCast]; exact hMg) _ _ ?_
  refine AOL.to hA tabOk (by conv => lhs; cbv) (AOL.nil ?_)
  refine AWp.seq (AWp.region (AOL.to hA tabOk (by conv => lhs; cbv) ?_))
  refine One.call false rfl rfl rfl hun rfl _ _ ?_
  refine AOL.to hA tabOk (by conv => lhs; cbv) (AOL.nil ?_)
  have hcut : Nr.take z.toNat = Nr.take m := by rw [show z.toNat = m by omega]
  generalize Nr.take m = Nr' at hcut ⊢
  refine AWp.seq (AWp.drawA [0, 3] _ 7 rfl (by kernel_rfl) (by kernel_rfl) rfl rfl rfl ?_)
  repeat' first
    | exact AllR.nil
    | refine AllR.cons (One.ev hA tabOk (by conv => lhs; cbv)) ?_ ?_
    | refine AllR.cons (One.cut_hv tabOk rfl rfl rfl rfl (by omega) (by omega) hcut) ?_ ?_
    | refine AnyQ.all (by conv => lhs; cbv) ?_
    | refine AnyQ.fin (by conv => lhs; cbv) ?_
  all_goals refine AWp.seq (AWp.region (AOL.to hA tabOk (by conv => lhs; cbv) (AOL.nil ?_)))
  all_goals exact AWp.ret ⟨.inr rfl, _, RetOk.two rfl (Res1.cell _ _ _ _ _ _ _ _ rfl rfl rfl ⟨rfl, rfl⟩) (Res1.tmp _), rfl⟩
end Go.Proofs.Ytinehodamekjgaa.Aw
