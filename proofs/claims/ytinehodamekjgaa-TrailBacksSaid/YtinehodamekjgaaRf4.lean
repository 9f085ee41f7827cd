/- Contracts of the document's answer, part 4: which cells are right. -/
import Derived.Test.YtinehodamekjgaaRf3
set_option linter.unusedVariables false
namespace Go.Proofs.Ytinehodamekjgaa.Aw
open Go Go.RowKit
set_option maxRecDepth 10000
def mOk (n : Int) : Int → List Int → Bool
  | _, [] => true
  | p, m :: r => decide (p ≤ m) && decide (m ≤ n) && mOk n m r
def Cl.right (c : Cl) : Bool := mOk c.N.length 0 c.M && (undoAll c.N c.V).isSome
theorem undoneR_tup (o : Option (List Int)) : ∃ x, undoneR o = .tup [.c x, .c (Bo o.isSome)] := by cases o <;> exact ⟨_, rfl⟩
variable {A : Ar} (hA : A = real)
include hA
theorem refRight (c : Cl) (hc : c.small) : PureCalls Try.prog 15 [c.pv] (.c (Bo c.right)) := by
  obtain ⟨V, N, M⟩ := c
  obtain ⟨hv, hn, hm⟩ := hc
  simp only at hv hn hm
  simp only [Cl.right, Cl.pv]
  refine PureCalls.of Try.func15 rfl (by kernel_rfl) rfl ?_
  have hcl := refCells hA V N (ints M) 0 (Nat.zero_le _) (by omega) (by omega)
  rw [List.drop_zero] at hcl
  have hMg := ints_get? M
  have hMl : (ints M).length = M.length := by simp
  have hNl : (nts N).length = N.length := by simp
  generalize ints V = Vr at hcl ⊢
  generalize nts N = Nr at hNl hcl ⊢
  generalize ints M = Mr at hMl hMg hcl ⊢
  refine AWp.seq (AWp.region (AOL.to hA tabOk (by conv => lhs; cbv) (AOL.nil ?_)))
  refine AWp.seq (AWp.seq (AWp.region (AOL.to hA tabOk (by conv => lhs; cbv) (AOL.nil ?_))))
  refine AWp.block ?_
  refine AWp.loop (fun q s => ∃ (k : Nat) (p : Int), q + k = M.length ∧ 0 ≤ p ∧ (∀ j, k = j + 1 → M[j]? = some p) ∧ (k = 0 → p = 0) ∧ mOk N.length 0 M = mOk N.length p (M.drop k) ∧ Sub ⟨54, [(1, .ptr 0 0), (3, .ic (I (k : Int)))],
    [.var true 25 [.ic (.sl 1 false Vr), .ic (.sl 2 false Nr), .ic (.sl 1 false Mr)]]⟩ s) M.length
    ⟨0, 0, by omega, by omega, by simp, by simp, by simp, Sub.of rfl rfl (.cons rfl (.cons rfl .nil))⟩ ?_
  rintro q s ⟨k, p, hk, hp0, hpk, hpz, hmk, hsub⟩
  refine AWp.sub hsub ?_
  generalize hz : (k : Int) = z
  refine AWp.seq (AWp.seq (AWp.region (AOL.to hA tabOk (by conv => lhs; cbv) (AOL.nil ?_))))
  rcases Nat.lt_or_ge k M.length with hkl | hkl
  · rw [show A .lt z (A .len Mr) = true by rw [rlt hA, rlen hA]; exact decide_eq_true (by omega)]
    refine AWp.cond_t rfl (AWp.skip ?_)
    have hmm : M[k]? = some M[k] := List.getElem?_eq_getElem hkl
    have hdm : M.drop k = M[k] :: M.drop (k + 1) := List.drop_eq_getElem_cons hkl
    generalize M[k] = m at hmm hdm
    have hzk : z.toNat = k := by omega
    have hel := hMg k m hmm
    have hadd : A .add .i64 z 1 = ((k + 1 : Nat) : Int) := by rw [radd hA, wok (by omega) (by omega)]; omega
    rw [hdm] at hmk
    simp only [mOk] at hmk
    refine AWp.seq (AWp.block (AWp.seq (AWp.drawQ 35 rfl (by kernel_rfl) ?_)))
    refine QS.to hA tabOk (by conv => lhs; cbv) ?_
    refine QS.one rfl (One.elem tabOk rfl rfl rfl rfl (by omega) (by rw [hzk]; exact hel)) ?_
    refine QS.upto hA tabOk 3 (by conv => lhs; cbv) ?_
    by_cases h1 : m < 0
    · rw [show A .lt m 0 = true by rw [rlt hA]; exact decide_eq_true h1]
      refine QS.to hA tabOk (by conv => lhs; cbv) ?_
      refine AOL.to hA tabOk (by conv => lhs; cbv) (AOL.nil ?_)
      refine AWp.cond_t rfl ?_
      refine AWp.seq (AWp.region (AOL.to hA tabOk (by conv => lhs; cbv) (AOL.nil ?_)))
      rw [hmk, show decide (p ≤ m) = false from decide_eq_false (by omega)]
      exact AWp.ret ⟨.inr rfl, _, RetOk.one rfl (Res1.tmp _), rfl⟩
    · rw [show A .lt m 0 = false by rw [rlt hA]; exact decide_eq_false h1]
      refine QS.to hA tabOk (by conv => lhs; cbv) ?_
      refine QS.one rfl (One.elem tabOk rfl rfl rfl rfl (by omega) (by rw [hzk]; exact hel)) ?_
      refine QS.upto hA tabOk 7 (by conv => lhs; cbv) ?_
      by_cases h2 : (N.length : Int) < m
      · rw [show A .lt (A .len Nr) m = true by rw [rlt hA, rlen hA, hNl]; exact decide_eq_true h2]
        refine QS.to hA tabOk (by conv => lhs; cbv) ?_
        refine AOL.to hA tabOk (by conv => lhs; cbv) (AOL.nil ?_)
        refine AWp.cond_t rfl ?_
        refine AWp.seq (AWp.region (AOL.to hA tabOk (by conv => lhs; cbv) (AOL.nil ?_)))
        rw [hmk, show decide (m ≤ (N.length : Int)) = false from decide_eq_false (by omega)]
        simp only [Bool.and_false, Bool.false_and]
        exact AWp.ret ⟨.inr rfl, _, RetOk.one rfl (Res1.tmp _), rfl⟩
      · rw [show A .lt (A .len Nr) m = false by rw [rlt hA, rlen hA, hNl]; exact decide_eq_false h2]
        rw [show decide (m ≤ (N.length : Int)) = true from decide_eq_true (by omega)] at hmk
        refine QS.upto hA tabOk 3 (by conv => lhs; cbv) ?_
        cases k with
        | zero =>
          rw [show A .lt 0 z = false by rw [rlt hA]; exact decide_eq_false (by omega)]
          refine QS.to hA tabOk (by conv => lhs; cbv) ?_
          refine AOL.to hA tabOk (by conv => lhs; cbv) (AOL.nil ?_)
          refine AWp.cond_f rfl (AWp.skip ?_)
          refine AWp.region (AOL.to hA tabOk (by conv => lhs; cbv) (AOL.nil ?_))
          rw [hadd]
          have hp : p = 0 := hpz rfl
          rw [show decide (p ≤ m) = true from decide_eq_true (by omega)] at hmk
          simp only [Bool.true_and] at hmk
          exact ⟨q - 1, by omega, 1, m, by omega, by omega, fun j hj => (show 0 = j by omega) ▸ hmm, by omega, hmk, Sub.of rfl rfl (.cons rfl (.cons rfl .nil))⟩
        | succ k =>
          rw [show A .lt 0 z = true by rw [rlt hA]; exact decide_eq_true (by omega)]
          have hpe := hMg k p (hpk k rfl)
          refine QS.to hA tabOk (by conv => lhs; cbv) ?_
          refine QS.one rfl (One.elem tabOk rfl rfl rfl rfl (by omega) (by rw [hzk]; exact hel)) ?_
          refine QS.to hA tabOk (by conv => lhs; cbv) ?_
          have hsz : A .sub .i64 z 1 = (k : Int) := by rw [rsub hA, wok (by omega) (by omega)]; omega
          refine QS.one rfl (One.elem tabOk rfl rfl rfl rfl (by rw [hsz]; omega) (by rw [hsz, Int.toNat_natCast]; exact hpe)) ?_
          refine QS.upto hA tabOk 2 (by conv => lhs; cbv) ?_
          by_cases h3 : m < p
          · rw [show A .lt m p = true by rw [rlt hA]; exact decide_eq_true h3]
            refine QS.to hA tabOk (by conv => lhs; cbv) ?_
            refine AOL.to hA tabOk (by conv => lhs; cbv) (AOL.nil ?_)
            refine AWp.cond_t rfl ?_
            refine AWp.seq (AWp.region (AOL.to hA tabOk (by conv => lhs; cbv) (AOL.nil ?_)))
            rw [hmk, show decide (p ≤ m) = false from decide_eq_false (by omega)]
            exact AWp.ret ⟨.inr rfl, _, RetOk.one rfl (Res1.tmp _), rfl⟩
          · rw [show A .lt m p = false by rw [rlt hA]; exact decide_eq_false h3]
            refine QS.to hA tabOk (by conv => lhs; cbv) ?_
            refine AOL.to hA tabOk (by conv => lhs; cbv) (AOL.nil ?_)
            refine AWp.cond_f rfl (AWp.skip ?_)
            refine AWp.region (AOL.to hA tabOk (by conv => lhs; cbv) (AOL.nil ?_))
            rw [hadd]
            rw [show decide (p ≤ m) = true from decide_eq_true (by omega)] at hmk
            simp only [Bool.true_and] at hmk
            exact ⟨q - 1, by omega, k + 1 + 1, m, by omega, by omega, fun j hj => (show k + 1 = j by omega) ▸ hmm, by omega, hmk, Sub.of rfl rfl (.cons rfl (.cons rfl .nil))⟩
  · rw [show A .lt z (A .len Mr) = false by rw [rlt hA, rlen hA]; exact decide_eq_false (by omega)]
    refine AWp.cond_f rfl (AWp.exit (Thn.exit (Thn.exit (Blk.here ?_))))
    rw [List.drop_of_length_le hkl] at hmk
    rw [hmk]
    simp only [mOk, Bool.true_and]
    obtain ⟨x, hx⟩ := undoneR_tup (undoAll N V)
    rw [hx] at hcl
    generalize (undoAll N V).isSome = r at hcl ⊢
    refine AWp.seq (AWp.region (AOL.to hA tabOk (by conv => lhs; cbv) ?_))
    refine One.call false rfl rfl rfl hcl rfl _ _ ?_
    refine AOL.to hA tabOk (by conv => lhs; cbv) (AOL.nil ?_)
    refine AWp.seq (AWp.region (AOL.to hA tabOk (by conv => lhs; cbv) (AOL.nil ?_)))
    exact AWp.ret ⟨.inr rfl, _, RetOk.one rfl (Res1.tmp _), rfl⟩
end Go.Proofs.Ytinehodamekjgaa.Aw
