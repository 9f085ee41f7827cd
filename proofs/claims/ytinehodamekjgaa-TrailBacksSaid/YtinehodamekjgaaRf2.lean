/- Contracts of the document's answer, part 2: cells that are the same, few. -/
import Derived.Test.YtinehodamekjgaaRf1
set_option linter.unusedVariables false
namespace Go.Proofs.Ytinehodamekjgaa.Aw
open Go Go.RowKit
set_option maxRecDepth 10000
structure Cl where
  V : List Int
  N : List (Int × Int)
  M : List Int
  deriving DecidableEq
abbrev Cl.pv (c : Cl) : PV := cellsPV (ints c.V) (nts c.N) (ints c.M)
structure Cl.small (c : Cl) : Prop where
  v : c.V.length ≤ 100000
  n : c.N.length ≤ 100000
  m : c.M.length ≤ 100000
variable {A : Ar} (hA : A = real)
include hA
theorem few_c (V N M : List (List IC)) (hV : V.length ≤ 140737488351232) (hN : N.length ≤ 140737488351232) (hM : M.length ≤ 140737488351232) : PureCalls Try.prog 14 [cellsPV V N M] (.c (Bo (decide (V.length + N.length + M.length ≤ 500)))) := by
  refine PureCalls.of Try.func14 rfl (by kernel_rfl) rfl ?_
  refine AWp.seq (AWp.region (AOL.to hA tabOk (by conv => lhs; cbv) (AOL.nil ?_)))
  refine AWp.seq (AWp.region (AOL.to hA tabOk (by conv => lhs; cbv) (AOL.nil ?_)))
  rw [show A .le (A .add .i64 (A .add .i64 (A .len V) (A .len N)) (A .len M)) 500 = decide (V.length + N.length + M.length ≤ 500) by
    rw [rle hA, rlen hA, rlen hA, rlen hA, radd hA .i64 (V.length : Int), wok (z := (V.length : Int) + N.length) (by omega) (by omega), radd hA, wok (by omega) (by omega)]
    exact decide_eq_decide.2 (by omega)]
  exact AWp.ret ⟨.inr rfl, _, RetOk.one rfl (Res1.tmp _), rfl⟩
theorem refSame (a b : Cl) (ha : a.small) (hb : b.small) : PureCalls Try.prog 19 [a.pv, b.pv] (.c (Bo (decide (a = b)))) := by
  obtain ⟨aV, aN, aM⟩ := a
  obtain ⟨bV, bN, bM⟩ := b
  obtain ⟨a1, a2, a3⟩ := ha
  obtain ⟨b1, b2, b3⟩ := hb
  simp only at a1 a2 a3 b1 b2 b3
  have hab : (⟨aV, aN, aM⟩ : Cl) = ⟨bV, bN, bM⟩ ↔ aV = bV ∧ aN = bN ∧ aM = bM := by simp
  rw [show decide ((⟨aV, aN, aM⟩ : Cl) = ⟨bV, bN, bM⟩) = decide (aV = bV ∧ aN = bN ∧ aM = bM) from decide_eq_decide.2 hab]
  refine PureCalls.of Try.func19 rfl (by kernel_rfl) rfl ?_
  have hI1 := refInts hA aV bV (by omega) (by omega)
  have hI2 := refInts hA aM bM (by omega) (by omega)
  have hal : (nts aN).length = aN.length := by simp
  have hbl : (nts bN).length = bN.length := by simp
  have hag := nts_get? aN
  have hbg := nts_get? bN
  simp only [Cl.pv]
  generalize nts aN = X at hal hag ⊢
  generalize nts bN = Y at hbl hbg ⊢
  generalize ints aV = XV at hI1 ⊢
  generalize ints bV = YV at hI1 ⊢
  generalize ints aM = XM at hI2 ⊢
  generalize ints bM = YM at hI2 ⊢
  refine AWp.seq (AWp.region (AOL.to hA tabOk (by conv => lhs; cbv) (AOL.nil ?_)))
  refine AWp.seq (AWp.seq (AWp.region (AOL.to hA tabOk (by conv => lhs; cbv) (AOL.nil ?_))))
  by_cases hl : aN.length = bN.length
  · rw [show A .no (A .eq (A .len X) (A .len Y)) = false by rw [rno hA, req hA, rlen hA, rlen hA, hal, hbl, hl]; simp]
    refine AWp.cond_f rfl (AWp.skip ?_)
    refine AWp.seq (AWp.seq (AWp.region (AOL.to hA tabOk (by conv => lhs; cbv) (AOL.nil ?_))))
    refine AWp.block ?_
    refine AWp.loop (fun m s => ∃ k : Nat, m + k = aN.length ∧ aN.take k = bN.take k ∧ Sub ⟨45, [(2, .ptr 0 0), (3, .ptr 1 0), (5, .ic (I (k : Int)))], [.var true 25 [.ic (.sl 1 false XV), .ic (.sl 2 false X), .ic (.sl 1 false XM)], .var true 25 [.ic (.sl 1 false YV), .ic (.sl 2 false Y), .ic (.sl 1 false YM)]]⟩ s)
      aN.length ⟨0, by omega, by simp, Sub.of rfl rfl (.cons rfl (.cons rfl (.cons rfl .nil)))⟩ ?_
    rintro m s ⟨k, hm, htk, hsub⟩
    refine AWp.sub hsub ?_
    generalize hz : (k : Int) = z
    refine AWp.seq (AWp.seq (AWp.region (AOL.to hA tabOk (by conv => lhs; cbv) (AOL.nil ?_))))
    rcases Nat.lt_or_ge k aN.length with hk | hk
    · rw [show A .lt z (A .len X) = true by rw [rlt hA, rlen hA, hal]; exact decide_eq_true (by omega)]
      refine AWp.cond_t rfl (AWp.skip ?_)
      have h1 : aN[k]? = some aN[k] := List.getElem?_eq_getElem hk
      have h2 : bN[k]? = some (bN[k]'(by omega)) := List.getElem?_eq_getElem (by omega)
      generalize aN[k] = u at h1
      generalize bN[k]'(by omega) = v at h2
      obtain ⟨u1, u2⟩ := u
      obtain ⟨v1, v2⟩ := v
      have hzk : z.toNat = k := by omega
      refine AWp.seq (AWp.block (AWp.seq (AWp.drawQ 11 rfl (by kernel_rfl) ?_)))
      refine QS.to hA tabOk (by conv => lhs; cbv) ?_
      refine QS.one rfl (One.elem tabOk rfl rfl rfl rfl (by omega) (by rw [hzk]; exact hag k u1 u2 h1)) ?_
      refine QS.to hA tabOk (by conv => lhs; cbv) ?_
      refine QS.one rfl (One.elem tabOk rfl rfl rfl rfl (by omega) (by rw [hzk]; exact hbg k v1 v2 h2)) ?_
      refine QS.to hA tabOk (by conv => lhs; cbv) ?_
      by_cases huv : (u1, u2) = (v1, v2)
      · refine QS.one rfl (One.neInts [u1, u2] [v1, v2] (b := false) rfl (by kernel_rfl) rfl rfl rfl (by simp only [Prod.mk.injEq] at huv; simp [huv])) ?_
        refine QS.to hA tabOk (by conv => lhs; cbv) ?_
        refine AOL.to hA tabOk (by conv => lhs; cbv) (AOL.nil ?_)
        refine AWp.cond_f rfl (AWp.skip ?_)
        refine AWp.region (AOL.to hA tabOk (by conv => lhs; cbv) (AOL.nil ?_))
        rw [show A .add .i64 z 1 = ((k + 1 : Nat) : Int) by rw [radd hA, wok (by omega) (by omega)]; omega]
        exact ⟨m - 1, by omega, k + 1, by omega, take_succ_eq htk h1 h2 huv, Sub.of rfl rfl (.cons rfl (.cons rfl (.cons rfl .nil)))⟩
      · refine QS.one rfl (One.neInts [u1, u2] [v1, v2] (b := true) rfl (by kernel_rfl) rfl rfl rfl (by simp only [Prod.mk.injEq] at huv; simp [huv])) ?_
        refine QS.to hA tabOk (by conv => lhs; cbv) ?_
        refine AOL.to hA tabOk (by conv => lhs; cbv) (AOL.nil ?_)
        refine AWp.cond_t rfl ?_
        refine AWp.seq (AWp.region (AOL.to hA tabOk (by conv => lhs; cbv) (AOL.nil ?_)))
        rw [show decide (aV = bV ∧ aN = bN ∧ aM = bM) = false from decide_eq_false fun e => huv (by rw [e.2.1, h2] at h1; simpa using h1.symm)]
        exact AWp.ret ⟨.inr rfl, _, RetOk.one rfl (Res1.tmp _), rfl⟩
    · rw [show A .lt z (A .len X) = false by rw [rlt hA, rlen hA, hal]; exact decide_eq_false (by omega)]
      refine AWp.cond_f rfl (AWp.exit (Thn.exit (Thn.exit (Blk.here ?_))))
      have heq : aN = bN := by rwa [List.take_of_length_le hk, List.take_of_length_le (by omega)] at htk
      refine AWp.seq (AWp.region (AOL.to hA tabOk (by conv => lhs; cbv) ?_))
      refine One.call false rfl rfl rfl hI1 rfl _ _ ?_
      rw [show decide (aV = bV ∧ aN = bN ∧ aM = bM) = decide (aV = bV ∧ aM = bM) from decide_eq_decide.2 (by simp [heq])]
      generalize hq : decide (aV = bV) = q
      refine AOL.to hA tabOk (by conv => lhs; cbv) (AOL.nil ?_)
      cases q with
      | true =>
        have e1 := of_decide_eq_true hq
        refine AWp.seq (AWp.region (AOL.to hA tabOk (by conv => lhs; cbv) ?_))
        refine One.call false rfl rfl rfl hI2 rfl _ _ ?_
        rw [show decide (aV = bV ∧ aM = bM) = decide (aM = bM) from decide_eq_decide.2 (by simp [e1])]
        generalize decide (aM = bM) = q2
        refine AOL.to hA tabOk (by conv => lhs; cbv) (AOL.nil ?_)
        exact AWp.ret ⟨.inr rfl, _, RetOk.one rfl (Res1.tmp _), rfl⟩
      | false =>
        have e1 := of_decide_eq_false hq
        refine AWp.seq (AWp.region (AOL.to hA tabOk (by conv => lhs; cbv) (AOL.nil ?_)))
        rw [show decide (aV = bV ∧ aM = bM) = false from decide_eq_false fun e => e1 e.1]
        exact AWp.ret ⟨.inr rfl, _, RetOk.one rfl (Res1.tmp _), rfl⟩
  · rw [show A .no (A .eq (A .len X) (A .len Y)) = true by rw [rno hA, req hA, rlen hA, rlen hA, hal, hbl]; simp; omega]
    refine AWp.cond_t rfl ?_
    refine AWp.seq (AWp.region (AOL.to hA tabOk (by conv => lhs; cbv) (AOL.nil ?_)))
    rw [show decide (aV = bV ∧ aN = bN ∧ aM = bM) = false from decide_eq_false fun e => hl (by rw [e.2.1])]
    exact AWp.ret ⟨.inr rfl, _, RetOk.one rfl (Res1.tmp _), rfl⟩
end Go.Proofs.Ytinehodamekjgaa.Aw
