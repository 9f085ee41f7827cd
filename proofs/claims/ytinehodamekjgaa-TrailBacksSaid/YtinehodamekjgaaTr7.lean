/- Contracts of package trail, part 7: Right. -/
import Derived.Test.YtinehodamekjgaaTr6
set_option linter.unusedVariables false
namespace Go.Proofs.Ytinehodamekjgaa.Aw
open Go Go.RowKit
set_option maxRecDepth 10000
variable {A : Ar} (hA : A = real)
include hA
theorem trailRight (c : Cl) (hc : c.small) : PureCalls Try.prog 33 [c.pv] (.c (Bo c.right)) := by
  obtain ⟨V, N, M⟩ := c
  obtain ⟨hv, hn, hm⟩ := hc
  simp only at hv hn hm
  simp only [Cl.right, Cl.pv]
  refine PureCalls.of Try.func33 rfl (by kernel_rfl) rfl ?_
  have hcl := undone_c hA V N (ints M) 0 (Nat.zero_le _) (by omega) (by omega)
  rw [List.drop_zero] at hcl
  have hMg := ints_get? M
  have hMl : (ints M).length = M.length := by simp
  have hNl : (nts N).length = N.length := by simp
  generalize ints V = Vr at hcl ⊢
  generalize nts N = Nr at hNl hcl ⊢
  generalize ints M = Mr at hMl hMg hcl ⊢
  refine AWp.seq (AWp.region (AOL.to hA tabOk (by conv => lhs; cbv) (AOL.nil ?_)))
  refine AWp.seq (AWp.region (AOL.to hA tabOk (by conv => lhs; cbv) (AOL.nil ?_)))
  refine AWp.seq (AWp.seq (AWp.region (AOL.to hA tabOk (by conv => lhs; cbv) (AOL.nil ?_))))
  refine AWp.block ?_
  refine AWp.loop (fun q s => ∃ (k : Nat) (p : Int), q + k = M.length ∧ mOk N.length 0 M = mOk N.length p (M.drop k) ∧ Sub ⟨33, [(1, .ptr 0 0), (3, .ic (I p)), (9, .ic (.sl 1 false Mr)), (10, .ic (I (A .len Mr))), (11, .ic (I (k : Int)))],
    [.var true 25 [.ic (.sl 1 false Vr), .ic (.sl 2 false Nr), .ic (.sl 1 false Mr)]]⟩ s) M.length
    ⟨0, 0, by omega, by simp, Sub.of rfl rfl (.cons rfl (.cons rfl (.cons rfl (.cons rfl (.cons rfl .nil)))))⟩ ?_
  rintro q s ⟨k, p, hk, hmk, hsub⟩
  refine AWp.sub hsub ?_
  generalize hz : (k : Int) = z
  refine AWp.seq (AWp.region (AOL.to hA tabOk (by conv => lhs; cbv) (AOL.nil ?_)))
  rcases Nat.lt_or_ge k M.length with hkl | hkl
  · rw [show A .lt z (A .len Mr) = true by rw [rlt hA, rlen hA]; exact decide_eq_true (by omega)]
    refine AWp.seq (AWp.cond_t rfl (AWp.skip ?_))
    have hmm : M[k]? = some M[k] := List.getElem?_eq_getElem hkl
    have hdm : M.drop k = M[k] :: M.drop (k + 1) := List.drop_eq_getElem_cons hkl
    generalize M[k] = m at hmm hdm
    have hzk : z.toNat = k := by omega
    have hel := hMg k m hmm
    have hadd : A .add .i64 z 1 = ((k + 1 : Nat) : Int) := by rw [radd hA, wok (by omega) (by omega)]; omega
    rw [hdm] at hmk
    simp only [mOk] at hmk
    refine AWp.seq (AWp.block (AWp.seq (AWp.region (AOL.to hA tabOk (by conv => lhs; cbv) ?_))))
    refine One.elem tabOk rfl rfl rfl rfl (by omega) (by rw [hzk]; exact hel) _ _ ?_
    refine AOL.to hA tabOk (by conv => lhs; cbv) (AOL.nil ?_)
    refine AWp.seq (AWp.seq (AWp.region (AOL.upto hA tabOk 4 (by conv => lhs; cbv) ?_)))
    by_cases h1 : m < p
    · rw [show A .lt m p = true by rw [rlt hA]; exact decide_eq_true h1]
      refine AOL.to hA tabOk (by conv => lhs; cbv) (AOL.nil ?_)
      refine AWp.cond_t rfl ?_
      refine AWp.seq (AWp.region (AOL.to hA tabOk (by conv => lhs; cbv) (AOL.nil ?_)))
      rw [hmk, show decide (p ≤ m) = false from decide_eq_false (by omega)]
      exact AWp.ret ⟨.inr rfl, _, RetOk.one rfl (Res1.tmp _), rfl⟩
    · rw [show A .lt m p = false by rw [rlt hA]; exact decide_eq_false h1]
      refine AOL.to hA tabOk (by conv => lhs; cbv) (AOL.nil ?_)
      rw [show decide (p ≤ m) = true from decide_eq_true (by omega)] at hmk
      by_cases h2 : (N.length : Int) < m
      · rw [show A .lt (A .len Nr) m = true by rw [rlt hA, rlen hA, hNl]; exact decide_eq_true h2]
        refine AWp.cond_t rfl ?_
        refine AWp.seq (AWp.region (AOL.to hA tabOk (by conv => lhs; cbv) (AOL.nil ?_)))
        rw [hmk, show decide (m ≤ (N.length : Int)) = false from decide_eq_false (by omega)]
        exact AWp.ret ⟨.inr rfl, _, RetOk.one rfl (Res1.tmp _), rfl⟩
      · rw [show A .lt (A .len Nr) m = false by rw [rlt hA, rlen hA, hNl]; exact decide_eq_false h2]
        refine AWp.cond_f rfl (AWp.skip ?_)
        refine AWp.region (AOL.to hA tabOk (by conv => lhs; cbv) (AOL.nil ?_))
        refine AWp.region (AOL.to hA tabOk (by conv => lhs; cbv) (AOL.nil ?_))
        rw [hadd]
        rw [show decide (m ≤ (N.length : Int)) = true from decide_eq_true (by omega)] at hmk
        simp only [Bool.true_and] at hmk
        exact ⟨q - 1, by omega, k + 1, m, by omega, hmk, Sub.of rfl rfl (.cons rfl (.cons rfl (.cons rfl (.cons rfl (.cons rfl .nil)))))⟩
  · rw [show A .lt z (A .len Mr) = false by rw [rlt hA, rlen hA]; exact decide_eq_false (by omega)]
    refine AWp.seq (AWp.cond_f rfl (AWp.exit (Thn.exit (Thn.exit (Blk.here ?_)))))
    rw [List.drop_of_length_le hkl] at hmk
    rw [hmk]
    simp only [mOk, Bool.true_and]
    obtain ⟨x, hx⟩ := undoneR_tup (undoAll N V)
    rw [hx] at hcl
    generalize (undoAll N V).isSome = r at hcl ⊢
    refine AWp.seq (AWp.region (AOL.to hA tabOk (by conv => lhs; cbv) ?_))
    refine One.call false rfl rfl rfl hcl rfl _ _ ?_
    refine AOL.to hA tabOk (by conv => lhs; cbv) (AOL.nil ?_)
    refine AWp.seq (AWp.region (AOL.to hA tabOk (by conv => lhs; cbv) (AOL.nil ?_)))
    exact AWp.ret ⟨.inr rfl, _, RetOk.one rfl (Res1.tmp _), rfl⟩
end Go.Proofs.Ytinehodamekjgaa.Aw
