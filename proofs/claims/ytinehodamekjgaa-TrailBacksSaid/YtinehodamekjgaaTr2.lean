/- Contracts of package trail, part 2. -/
import Derived.Test.YtinehodamekjgaaTr1
set_option linter.unusedVariables false
namespace Go.Proofs.Ytinehodamekjgaa.Aw
open Go Go.RowKit
set_option maxRecDepth 10000
variable {A : Ar} (hA : A = real)
include hA
theorem grow_c (V N M : List (List IC)) (v : Int) (hN : N.length ≤ 1000000) (hV : V.length ≤ 1000000) : PureCalls Try.prog 21 [cellsPV V N M, .c (I v)] (cellsPV (V ++ [[I v]]) (N ++ [[I (-1), I 0]]) M) := by
  refine PureCalls.of Try.func21 rfl (by kernel_rfl) rfl ?_
  refine AWp.seq (AWp.region (AOL.to hA tabOk (by conv => lhs; cbv) (AOL.nil ?_)))
  refine AWp.seq (AWp.region (AOL.to hA tabOk (by conv => lhs; cbv) ?_))
  refine One.call false rfl rfl rfl (noted_c hA V N M (-1) 0 hN) rfl _ _ ?_
  generalize N ++ _ = R
  refine AOL.to hA tabOk (by conv => lhs; cbv) (AOL.nil ?_)
  refine AWp.seq (AWp.region (AOL.to hA tabOk (by conv => lhs; cbv) ?_))
  refine One.call false rfl rfl rfl (clip_c hA V) rfl _ _ ?_
  refine AOL.to hA tabOk (by conv => lhs; cbv) ?_
  refine One.append tabOk rfl rfl rfl rfl (.inl rfl) rfl ?_ ?_ _ _ ?_
  · show (V.length + 1) * 8 ≤ _; omega
  · show V.length + 1 ≤ _; simp only [maxLen]; omega
  generalize V ++ _ = R'
  refine AOL.to hA tabOk (by conv => lhs; cbv) (AOL.nil ?_)
  refine AWp.seq (AWp.region (AOL.to hA tabOk (by conv => lhs; cbv) (AOL.nil ?_)))
  exact AWp.ret ⟨.inr rfl, _, RetOk.one rfl (Res1.cell _ _ _ _ _ _ _ _ rfl rfl rfl ⟨rfl, rfl⟩), rfl⟩

theorem keep_c0 (V N M : List (List IC)) (h : M = []) : PureCalls Try.prog 20 [cellsPV V N M] (.tup [cellsPV V N M, .c (I 10)]) := by
  refine PureCalls.of Try.func20 rfl (by kernel_rfl) rfl ?_
  refine AWp.seq (AWp.region (AOL.to hA tabOk (by conv => lhs; cbv) (AOL.nil ?_)))
  refine AWp.seq (AWp.region (AOL.to hA tabOk (by conv => lhs; cbv) (AOL.nil ?_)))
  refine AWp.seq (AWp.seq (AWp.region (AOL.to hA tabOk (by conv => lhs; cbv) (AOL.nil ?_))))
  have hc : A .eq (A .len M) 0 = true := by rw [hA, h]; rfl
  rw [hc]
  refine AWp.cond_t rfl ?_
  refine AWp.seq (AWp.region (AOL.to hA tabOk (by conv => lhs; cbv) (AOL.nil ?_)))
  exact AWp.ret ⟨.inr rfl, _, RetOk.two rfl (Res1.cell _ _ _ _ _ _ _ _ rfl rfl rfl ⟨rfl, rfl⟩) (Res1.tmp _), rfl⟩
theorem keep_c1 (V N M : List (List IC)) (h : M ≠ []) (hM : M.length ≤ 1000000) : PureCalls Try.prog 20 [cellsPV V N M] (.tup [cellsPV V N M.dropLast, .c (I 0)]) := by
  have hp : 0 < M.length := List.length_pos_iff.2 h
  refine PureCalls.of Try.func20 rfl (by kernel_rfl) rfl ?_
  refine AWp.seq (AWp.region (AOL.to hA tabOk (by conv => lhs; cbv) (AOL.nil ?_)))
  refine AWp.seq (AWp.region (AOL.to hA tabOk (by conv => lhs; cbv) (AOL.nil ?_)))
  refine AWp.seq (AWp.seq (AWp.region (AOL.to hA tabOk (by conv => lhs; cbv) (AOL.nil ?_))))
  have hc : A .eq (A .len M) 0 = false := by rw [req hA, rlen hA]; exact decide_eq_false (by omega)
  rw [hc]
  refine AWp.cond_f rfl (AWp.skip ?_)
  have hs : A .sub .i64 (A .len M) 1 = ((M.length - 1 : Nat) : Int) := by rw [rsub hA, rlen hA, wok (by omega) (by omega)]; omega
  refine AWp.seq (AWp.region (AOL.to hA tabOk (by conv => lhs; cbv) ?_))
  refine One.cut_h tabOk rfl rfl rfl rfl (by rw [hs]; omega) (by rw [hs]; omega) _ _ ?_
  rw [hs]
  rw [show M.dropLast = M.take (((M.length - 1 : Nat) : Int)).toNat by rw [List.dropLast_eq_take, Int.toNat_natCast]]
  generalize M.take _ = R
  refine AOL.to hA tabOk (by conv => lhs; cbv) (AOL.nil ?_)
  refine AWp.seq (AWp.region (AOL.to hA tabOk (by conv => lhs; cbv) (AOL.nil ?_)))
  exact AWp.ret ⟨.inr rfl, _, RetOk.two rfl (Res1.cell _ _ _ _ _ _ _ _ rfl rfl rfl ⟨rfl, rfl⟩) (Res1.tmp _), rfl⟩

theorem set_c0 (V N M : List (List IC)) (i v : Int) (h : i < 0 ∨ V.length ≤ i) : PureCalls Try.prog 16 [cellsPV V N M, .c (I i), .c (I v)] (.tup [cellsPV V N M, .c (I 1)]) := by
  refine PureCalls.of Try.func16 rfl (by kernel_rfl) rfl ?_
  refine AWp.seq (AWp.region (AOL.to hA tabOk (by conv => lhs; cbv) (AOL.nil ?_)))
  refine AWp.seq (AWp.seq (AWp.region (AOL.upto hA tabOk 3 (by conv => lhs; cbv) ?_)))
  rcases Bool.eq_false_or_eq_true (A .lt i 0) with hc | hc <;> rw [hc]
  · refine AOL.to hA tabOk (by conv => lhs; cbv) (AOL.nil ?_)
    refine AWp.cond_t rfl ?_
    refine AWp.seq (AWp.region (AOL.to hA tabOk (by conv => lhs; cbv) (AOL.nil ?_)))
    exact AWp.ret ⟨.inr rfl, _, RetOk.two rfl (Res1.cell _ _ _ _ _ _ _ _ rfl rfl rfl ⟨rfl, rfl⟩) (Res1.tmp _), rfl⟩
  · refine AOL.to hA tabOk (by conv => lhs; cbv) (AOL.nil ?_)
    have hd : A .le (A .len V) i = true := by
      rw [rlt hA, decide_eq_false_iff_not] at hc
      rw [rle hA, rlen hA, decide_eq_true_eq]
      omega
    rw [hd]
    refine AWp.cond_t rfl ?_
    refine AWp.seq (AWp.region (AOL.to hA tabOk (by conv => lhs; cbv) (AOL.nil ?_)))
    exact AWp.ret ⟨.inr rfl, _, RetOk.two rfl (Res1.cell _ _ _ _ _ _ _ _ rfl rfl rfl ⟨rfl, rfl⟩) (Res1.tmp _), rfl⟩
theorem set_c1 (V N M : List (List IC)) (i : Nat) (u v : Int) (hN : N.length ≤ 1000000) (hV : V.length ≤ 1000000) (h : V[i]? = some [I u]) : PureCalls Try.prog 16 [cellsPV V N M, .c (I i), .c (I v)] (.tup [cellsPV (V.set i [I v]) (N ++ [[I i, I u]]) M, .c (I 0)]) := by
  have hi : i < V.length := (List.getElem?_eq_some_iff.1 h).1
  refine PureCalls.of Try.func16 rfl (by kernel_rfl) rfl ?_
  generalize hz : (i : Int) = z
  refine AWp.seq (AWp.region (AOL.to hA tabOk (by conv => lhs; cbv) (AOL.nil ?_)))
  refine AWp.seq (AWp.seq (AWp.region (AOL.upto hA tabOk 3 (by conv => lhs; cbv) ?_)))
  have hc : A .lt z 0 = false := by rw [rlt hA]; exact decide_eq_false (by omega)
  have hd : A .le (A .len V) z = false := by rw [rle hA, rlen hA]; exact decide_eq_false (by omega)
  rw [hc]
  refine AOL.to hA tabOk (by conv => lhs; cbv) (AOL.nil ?_)
  rw [hd]
  refine AWp.cond_f rfl (AWp.skip ?_)
  refine AWp.seq (AWp.drawQ 9 rfl (by kernel_rfl) ?_)
  refine QS.to hA tabOk (by conv => lhs; cbv) ?_
  refine QS.one rfl (One.elem tabOk rfl rfl rfl rfl (by omega) (by rw [← hz]; exact h)) ?_
  refine QS.to hA tabOk (by conv => lhs; cbv) ?_
  refine QS.one rfl (One.call false rfl rfl rfl (noted_c hA V N M z u hN) rfl) ?_
  generalize N ++ _ = R
  refine QS.to hA tabOk (by conv => lhs; cbv) ?_
  refine AOL.to hA tabOk (by conv => lhs; cbv) (AOL.nil ?_)
  refine AWp.seq (AWp.region (AOL.to hA tabOk (by conv => lhs; cbv) ?_))
  refine AOL.scall rfl rfl (copied_2 hA _ _ V hV) ?_
  rintro y st' ⟨rfl, rfl⟩
  refine AOL.to hA tabOk (by conv => lhs; cbv) (AOL.nil ?_)
  refine AWp.seq (AWp.region (AOL.to hA tabOk (by conv => lhs; cbv) ?_))
  refine One.elemOwn tabOk rfl rfl rfl rfl rfl (by omega) (by omega) _ _ ?_
  have hzi : z.toNat = i := by omega
  rw [hzi]
  refine One.storeRat tabOk rfl rfl rfl rfl h rfl rfl rfl (Nat.le_refl 1) _ _ ?_
  generalize hV' : V.set i _ = V'
  replace hV' : V.set i [I v] = V' := hV'
  rw [hV']
  refine AOL.to hA tabOk (by conv => lhs; cbv) (AOL.nil ?_)
  refine AWp.seq (AWp.region (AOL.to hA tabOk (by conv => lhs; cbv) (AOL.nil ?_)))
  exact AWp.ret ⟨.inr rfl, _, RetOk.two rfl (Res1.cell _ _ _ _ _ _ _ _ rfl rfl rfl ⟨rfl, rfl⟩) (Res1.tmp _), rfl⟩
end Go.Proofs.Ytinehodamekjgaa.Aw
