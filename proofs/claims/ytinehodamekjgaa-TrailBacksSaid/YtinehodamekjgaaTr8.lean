/- The document's example. -/
import Derived.Test.YtinehodamekjgaaTr7
set_option linter.unusedVariables false
namespace Go.Proofs.Ytinehodamekjgaa.Aw
open Go Go.RowKit
set_option maxRecDepth 10000
variable {A : Ar} (hA : A = real)
include hA
theorem shown_c : PureCalls Try.prog 13 [] (.c (Bo true)) := by
  refine PureCalls.of Try.func13 rfl (by kernel_rfl) rfl ?_
  have h1 := mark_c hA [[I 5]] [] [] (by simp)
  have h2 := set_c1 hA [[I 5]] [] [[I 0]] 0 5 7 (by simp) (by simp) rfl
  have h3 := back_c1 hA [7] [(0, 5)] [0] 0 rfl (Nat.zero_le _) (by simp) (by simp) (by simp) [5] rfl
  have h4 := trailRight hA ⟨[7], [(0, 5)], [0]⟩ ⟨by simp, by simp, by simp⟩
  rw [show Cl.right ⟨[7], [(0, 5)], [0]⟩ = true by decide] at h4
  have e1 : A .eq 0 0 = true := by rw [req hA]; rfl
  have e2 : A .len [[I 7]] = 1 := by rw [rlen hA]; rfl
  have e3 : A .eq 1 1 = true := by rw [req hA]; rfl
  have e4 : A .len [[I 5]] = 1 := by rw [rlen hA]; rfl
  have e5 : A .eq 7 7 = true := by rw [req hA]; rfl
  have e6 : A .eq 5 5 = true := by rw [req hA]; rfl
  have e7 : A .len [] = 0 := by rw [rlen hA]; rfl
  refine AWp.seq (AWp.region (AOL.to hA tabOk (by conv => lhs; cbv) (AOL.nil ?_)))
  refine AWp.seq (AWp.region (AOL.to hA tabOk (by conv => lhs; cbv) ?_))
  refine One.call false rfl rfl rfl (h1.weaken (.cons (.agg (.cons (.refl _) (.cons (.nil _ _ _) (.cons (.nil _ _ _) .nil)))) .nil)) rfl _ _ ?_
  refine AOL.to hA tabOk (by conv => lhs; cbv) (AOL.nil ?_)
  refine AWp.seq (AWp.region (AOL.to hA tabOk (by conv => lhs; cbv) ?_))
  refine One.call false rfl rfl rfl h2 rfl _ _ ?_
  refine AOL.to hA tabOk (by conv => lhs; cbv) (AOL.nil ?_)
  refine AWp.seq (AWp.region (AOL.to hA tabOk (by conv => lhs; cbv) ?_))
  refine One.call false rfl rfl rfl h3 rfl _ _ ?_
  refine AOL.to hA tabOk (by conv => lhs; cbv) (AOL.nil ?_)
  refine AWp.seq (AWp.region (AOL.upto hA tabOk 3 (by conv => lhs; cbv) ?_))
  rw [e1]
  refine AOL.upto hA tabOk 3 (by conv => lhs; cbv) ?_
  rw [e1]
  refine AOL.upto hA tabOk 7 (by conv => lhs; cbv) ?_
  rw [e2, e3]
  refine AOL.to hA tabOk (by conv => lhs; cbv) ?_
  refine One.elem tabOk rfl rfl rfl rfl (Int.le_refl 0) rfl _ _ ?_
  refine AOL.upto hA tabOk 4 (by conv => lhs; cbv) ?_
  rw [e5]
  refine AOL.upto hA tabOk 6 (by conv => lhs; cbv) ?_
  rw [e4, e3]
  refine AOL.to hA tabOk (by conv => lhs; cbv) ?_
  refine One.elem tabOk rfl rfl rfl rfl (Int.le_refl 0) rfl _ _ ?_
  refine AOL.upto hA tabOk 4 (by conv => lhs; cbv) ?_
  rw [e6]
  refine AOL.upto hA tabOk 6 (by conv => lhs; cbv) ?_
  rw [e7, e1]
  refine AOL.to hA tabOk (by conv => lhs; cbv) ?_
  refine One.call false rfl rfl rfl h4 rfl _ _ ?_
  refine AOL.to hA tabOk (by conv => lhs; cbv) (AOL.nil ?_)
  exact AWp.ret ⟨.inr rfl, _, RetOk.one rfl (Res1.tmp _), rfl⟩
end Go.Proofs.Ytinehodamekjgaa.Aw
