/- Texts of the proof, put together: the abstract walk, contracts of the functions that the statement reaches, plain laws, part 3 of 5. -/
import Derived.Test.YtinehodamekjgaaWb
/- Contracts of the document's answer, part 4: which cells are right. -/
set_option linter.unusedVariables false
namespace Go.Proofs.Ytinehodamekjgaa.Aw
open Go Go.RowKit
set_option maxRecDepth 10000
def mOk (n : Int) : Int → List Int → Bool
  | _, [] => true
  | p, m :: r => decide (p ≤ m) && decide (m ≤ n) && mOk n m r
def Cl.right (c : Cl) : Bool := mOk c.N.length 0 c.M && (undoAll c.N c.V).isSome
theorem undoneR_tup (o : Option (List Int)) : ∃ x, undoneR o = .tup [.c x, .c (Bo o.isSome)] := by cases o <;> exact ⟨_, rfl⟩
variable {A : Ar} (hA : A = real)
include hA
theorem refRight (c : Cl) (hc : c.small) : PureCalls Try.prog 15 [c.pv] (.c (Bo c.right)) := by
  obtain ⟨V, N, M⟩ := c
  obtain ⟨hv, hn, hm⟩ := hc
  simp only at hv hn hm
  simp only [Cl.right, Cl.pv]
  refine PureCalls.of Try.func15 rfl (by kernel_rfl) rfl ?_
  have hcl := refCells hA V N (ints M) 0 (Nat.zero_le _) (by omega) (by omega)
  rw [List.drop_zero] at hcl
  have hMg := ints_get? M
  have hMl : (ints M).length = M.length := by simp
  have hNl : (nts N).length = N.length := by simp
  generalize ints V = Vr at hcl ⊢
  generalize nts N = Nr at hNl hcl ⊢
  generalize ints M = Mr at hMl hMg hcl ⊢
  refine AWp.seq (AWp.region (AOL.to hA tabOk (by conv => lhs; cbv) (AOL.nil ?_)))
  refine AWp.seq (AWp.seq (AWp.region (AOL.to hA tabOk (by conv => lhs; cbv) (AOL.nil ?_))))
  refine AWp.block ?_
  refine AWp.loop (fun q s => ∃ (k : Nat) (p : Int), q + k = M.length ∧ 0 ≤ p ∧ (∀ j, k = j + 1 → M[j]? = some p) ∧ (k = 0 → p = 0) ∧ mOk N.length 0 M = mOk N.length p (M.drop k) ∧ Sub ⟨54, [(1, .ptr 0 0), (3, .ic (I (k : Int)))],
    [.var true 25 [.ic (.sl 1 false Vr), .ic (.sl 2 false Nr), .ic (.sl 1 false Mr)]]⟩ s) M.length
    ⟨0, 0, by omega, by omega, by simp, by simp, by simp, Sub.of rfl rfl (.cons rfl (.cons rfl .nil))⟩ ?_
  rintro q s ⟨k, p, hk, hp0, hpk, hpz, hmk, hsub⟩
  refine AWp.sub hsub ?_
  generalize hz : (k : Int) = z
  refine AWp.seq (AWp.seq (AWp.region (AOL.to hA tabOk (by conv => lhs; cbv) (AOL.nil ?_))))
  rcases Nat.lt_or_ge k M.length with hkl | hkl
  · rw [show A .lt z (A .len Mr) = true by rw [rlt hA, rlen hA]; exact decide_eq_true (by omega)]
    refine AWp.cond_t rfl (AWp.skip ?_)
    have hmm : M[k]? = some M[k] := List.getElem?_eq_getElem hkl
    have hdm : M.drop k = M[k] :: M.drop (k + 1) := List.drop_eq_getElem_cons hkl
    generalize M[k] = m at hmm hdm
    have hzk : z.toNat = k := by omega
    have hel := hMg k m hmm
    have hadd : A .add .i64 z 1 = ((k + 1 : Nat) : Int) := by rw [radd hA, wok (by omega) (by omega)]; omega
    rw [hdm] at hmk
    simp only [mOk] at hmk
    refine AWp.seq (AWp.block (AWp.seq (AWp.drawQ 35 rfl (by kernel_rfl) ?_)))
    refine QS.to hA tabOk (by conv => lhs; cbv) ?_
    refine QS.one rfl (One.elem tabOk rfl rfl rfl rfl (by omega) (by rw [hzk]; exact hel)) ?_
    refine QS.upto hA tabOk 3 (by conv => lhs; cbv) ?_
    by_cases h1 : m < 0
    · rw [show A .lt m 0 = true by rw [rlt hA]; exact decide_eq_true h1]
      refine QS.to hA tabOk (by conv => lhs; cbv) ?_
      refine AOL.to hA tabOk (by conv => lhs; cbv) (AOL.nil ?_)
      refine AWp.cond_t rfl ?_
      refine AWp.seq (AWp.region (AOL.to hA tabOk (by conv => lhs; cbv) (AOL.nil ?_)))
      rw [hmk, show decide (p ≤ m) = false from decide_eq_false (by omega)]
      exact AWp.ret ⟨.inr rfl, _, RetOk.one rfl (Res1.tmp _), rfl⟩
    · rw [show A .lt m 0 = false by rw [rlt hA]; exact decide_eq_false h1]
      refine QS.to hA tabOk (by conv => lhs; cbv) ?_
      refine QS.one rfl (One.elem tabOk rfl rfl rfl rfl (by omega) (by rw [hzk]; exact hel)) ?_
      refine QS.upto hA tabOk 7 (by conv => lhs; cbv) ?_
      by_cases h2 : (N.length : Int) < m
      · rw [show A .lt (A .len Nr) m = true by rw [rlt hA, rlen hA, hNl]; exact decide_eq_true h2]
        refine QS.to hA tabOk (by conv => lhs; cbv) ?_
        refine AOL.to hA tabOk (by conv => lhs; cbv) (AOL.nil ?_)
        refine AWp.cond_t rfl ?_
        refine AWp.seq (AWp.region (AOL.to hA tabOk (by conv => lhs; cbv) (AOL.nil ?_)))
        rw [hmk, show decide (m ≤ (N.length : Int)) = false from decide_eq_false (by omega)]
        simp only [Bool.and_false, Bool.false_and]
        exact AWp.ret ⟨.inr rfl, _, RetOk.one rfl (Res1.tmp _), rfl⟩
      · rw [show A .lt (A .len Nr) m = false by rw [rlt hA, rlen hA, hNl]; exact decide_eq_false h2]
        rw [show decide (m ≤ (N.length : Int)) = true from decide_eq_true (by omega)] at hmk
        refine QS.upto hA tabOk 3 (by conv => lhs; cbv) ?_
        cases k with
        | zero =>
          rw [show A .lt 0 z = false by rw [rlt hA]; exact decide_eq_false (by omega)]
          refine QS.to hA tabOk (by conv => lhs; cbv) ?_
          refine AOL.to hA tabOk (by conv => lhs; cbv) (AOL.nil ?_)
          refine AWp.cond_f rfl (AWp.skip ?_)
          refine AWp.region (AOL.to hA tabOk (by conv => lhs; cbv) (AOL.nil ?_))
          rw [hadd]
          have hp : p = 0 := hpz rfl
          rw [show decide (p ≤ m) = true from decide_eq_true (by omega)] at hmk
          simp only [Bool.true_and] at hmk
          exact ⟨q - 1, by omega, 1, m, by omega, by omega, fun j hj => (show 0 = j by omega) ▸ hmm, by omega, hmk, Sub.of rfl rfl (.cons rfl (.cons rfl .nil))⟩
        | succ k =>
          rw [show A .lt 0 z = true by rw [rlt hA]; exact decide_eq_true (by omega)]
          have hpe := hMg k p (hpk k rfl)
          refine QS.to hA tabOk (by conv => lhs; cbv) ?_
          refine QS.one rfl (One.elem tabOk rfl rfl rfl rfl (by omega) (by rw [hzk]; exact hel)) ?_
          refine QS.to hA tabOk (by conv => lhs; cbv) ?_
          have hsz : A .sub .i64 z 1 = (k : Int) := by rw [rsub hA, wok (by omega) (by omega)]; omega
          refine QS.one rfl (One.elem tabOk rfl rfl rfl rfl (by rw [hsz]; omega) (by rw [hsz, Int.toNat_natCast]; exact hpe)) ?_
          refine QS.upto hA tabOk 2 (by conv => lhs; cbv) ?_
          by_cases h3 : m < p
          · rw [show A .lt m p = true by rw [rlt hA]; exact decide_eq_true h3]
            refine QS.to hA tabOk (by conv => lhs; cbv) ?_
            refine AOL.to hA tabOk (by conv => lhs; cbv) (AOL.nil ?_)
            refine AWp.cond_t rfl ?_
            refine AWp.seq (AWp.region (AOL.to hA tabOk (by conv => lhs; cbv) (AOL.nil ?_)))
            rw [hmk, show decide (p ≤ m) = false from decide_eq_false (by omega)]
            exact AWp.ret ⟨.inr rfl, _, RetOk.one rfl (Res1.tmp _), rfl⟩
          · rw [show A .lt m p = false by rw [rlt hA]; exact decide_eq_false h3]
            refine QS.to hA tabOk (by conv => lhs; cbv) ?_
            refine AOL.to hA tabOk (by conv => lhs; cbv) (AOL.nil ?_)
            refine AWp.cond_f rfl (AWp.skip ?_)
            refine AWp.region (AOL.to hA tabOk (by conv => lhs; cbv) (AOL.nil ?_))
            rw [hadd]
            rw [show decide (p ≤ m) = true from decide_eq_true (by omega)] at hmk
            simp only [Bool.true_and] at hmk
            exact ⟨q - 1, by omega, k + 1 + 1, m, by omega, by omega, fun j hj => (show k + 1 = j by omega) ▸ hmm, by omega, hmk, Sub.of rfl rfl (.cons rfl (.cons rfl .nil))⟩
  · rw [show A .lt z (A .len Mr) = false by rw [rlt hA, rlen hA]; exact decide_eq_false (by omega)]
    refine AWp.cond_f rfl (AWp.exit (Thn.exit (Thn.exit (Blk.here ?_))))
    rw [List.drop_of_length_le hkl] at hmk
    rw [hmk]
    simp only [mOk, Bool.true_and]
    obtain ⟨x, hx⟩ := undoneR_tup (undoAll N V)
    rw [hx] at hcl
    generalize (undoAll N V).isSome = r at hcl ⊢
    refine AWp.seq (AWp.region (AOL.to hA tabOk (by conv => lhs; cbv) ?_))
    refine One.call false rfl rfl rfl hcl rfl _ _ ?_
    refine AOL.to hA tabOk (by conv => lhs; cbv) (AOL.nil ?_)
    refine AWp.seq (AWp.region (AOL.to hA tabOk (by conv => lhs; cbv) (AOL.nil ?_)))
    exact AWp.ret ⟨.inr rfl, _, RetOk.one rfl (Res1.tmp _), rfl⟩
end Go.Proofs.Ytinehodamekjgaa.Aw

/- Contracts of package trail, part 6: Back, Right. -/
set_option linter.unusedVariables false
namespace Go.Proofs.Ytinehodamekjgaa.Aw
open Go Go.RowKit
set_option maxRecDepth 10000
variable {A : Ar} (hA : A = real)
include hA
theorem back_c0 (V N M : List (List IC)) (h : M = []) : PureCalls Try.prog 18 [cellsPV V N M] (.tup [cellsPV V N M, .c (I 10)]) := by
  refine PureCalls.of Try.func18 rfl (by kernel_rfl) rfl ?_
  refine AWp.seq (AWp.region (AOL.to hA tabOk (by conv => lhs; cbv) (AOL.nil ?_)))
  refine AWp.seq (AWp.region (AOL.to hA tabOk (by conv => lhs; cbv) ?_))
  refine One.call false rfl rfl rfl (keep_c0 hA V N M h) rfl _ _ ?_
  refine AOL.to hA tabOk (by conv => lhs; cbv) (AOL.nil ?_)
  refine AWp.seq (AWp.seq (AWp.region (AOL.to hA tabOk (by conv => lhs; cbv) (AOL.nil ?_))))
  rw [show A .no (A .eq 10 0) = true by rw [rno hA, req hA]; rfl]
  refine AWp.cond_t rfl ?_
  refine AWp.seq (AWp.region (AOL.to hA tabOk (by conv => lhs; cbv) (AOL.nil ?_)))
  exact AWp.ret ⟨.inr rfl, _, RetOk.two rfl (Res1.cell _ _ _ _ _ _ _ _ rfl rfl rfl ⟨rfl, rfl⟩) (Res1.tmp _), rfl⟩
theorem back_c1 (V : List Int) (N : List (Int × Int)) (M : List Int) (m : Nat) (h : M[M.length - 1]? = some (m : Int)) (hm : m ≤ N.length) (hV : V.length ≤ 100000) (hN : N.length ≤ 100000) (hM : M.length ≤ 200000) (V' : List Int) (hu : undoAll (N.drop m) V = some V') :
    PureCalls Try.prog 18 [cellsPV (ints V) (nts N) (ints M)] (.tup [cellsPV (ints V') (nts (N.take m)) (ints M.dropLast), .c (I 0)]) := by
  have hne : M ≠ [] := fun e => by rw [e] at h; simp at h
  have hpos : 0 < M.length := List.length_pos_iff.2 hne
  refine PureCalls.of Try.func18 rfl (by kernel_rfl) rfl ?_
  have hk := keep_c1 hA (ints V) (nts N) (ints M) (by simpa using hne) (by simp; omega)
  have hun := undone_c hA V N (ints M) m hm (by omega) (by omega)
  rw [hu] at hun
  simp only [undoneR] at hun
  have hdl : (ints M).dropLast = ints M.dropLast := by simp [ints, List.map_dropLast]
  rw [hdl] at hk
  have htk : nts (N.take m) = (nts N).take m := by simp [nts, List.map_take]
  rw [htk]
  have hMg := ints_get? M _ _ h
  have hMl : (ints M).length = M.length := by simp
  have hNl : (nts N).length = N.length := by simp
  generalize ints V = Vr at hk hun ⊢
  generalize nts N = Nr at hk hun hNl ⊢
  generalize ints M = Mr at hk hun hMg hMl ⊢
  generalize ints M.dropLast = Mr' at hk ⊢
  generalize ints V' = Vr' at hun ⊢
  generalize hz : (m : Int) = z at hun hMg
  refine AWp.seq (AWp.region (AOL.to hA tabOk (by conv => lhs; cbv) (AOL.nil ?_)))
  refine AWp.seq (AWp.region (AOL.to hA tabOk (by conv => lhs; cbv) ?_))
  refine One.call false rfl rfl rfl hk rfl _ _ ?_
  refine AOL.to hA tabOk (by conv => lhs; cbv) (AOL.nil ?_)
  refine AWp.seq (AWp.seq (AWp.region (AOL.to hA tabOk (by conv => lhs; cbv) (AOL.nil ?_))))
  rw [show A .no (A .eq 0 0) = false by rw [rno hA, req hA]; rfl]
  refine AWp.cond_f rfl (AWp.skip ?_)
  have hs : A .sub .i64 (A .len Mr) 1 = ((M.length - 1 : Nat) : Int) := by rw [rsub hA, rlen hA, hMl, wok (by omega) (by omega)]; omega
  refine AWp.seq (AWp.region (AOL.to hA tabOk (by conv => lhs; cbv) ?_))
  refine One.elem tabOk rfl rfl rfl rfl (by rw [hs]; omega) (by rw [hs, Int.toNat_natCast]; exact hMg) _ _ ?_
  refine AOL.to hA tabOk (by conv => lhs; cbv) (AOL.nil ?_)
  refine AWp.seq (AWp.region (AOL.to hA tabOk (by conv => lhs; cbv) ?_))
  refine One.call false rfl rfl rfl hun rfl _ _ ?_
  refine AOL.to hA tabOk (by conv => lhs; cbv) (AOL.nil ?_)
  have hcut : Nr.take z.toNat = Nr.take m := by rw [show z.toNat = m by omega]
  generalize Nr.take m = Nr' at hcut ⊢
  refine AWp.seq (AWp.drawA [0, 3] _ 7 rfl (by kernel_rfl) (by kernel_rfl) rfl rfl rfl ?_)
  repeat' first
    | exact AllR.nil
    | refine AllR.cons (One.ev hA tabOk (by conv => lhs; cbv)) ?_ ?_
    | refine AllR.cons (One.cut_hv tabOk rfl rfl rfl rfl (by omega) (by omega) hcut) ?_ ?_
    | refine AnyQ.all (by conv => lhs; cbv) ?_
    | refine AnyQ.fin (by conv => lhs; cbv) ?_
  all_goals refine AWp.seq (AWp.region (AOL.to hA tabOk (by conv => lhs; cbv) (AOL.nil ?_)))
  all_goals exact AWp.ret ⟨.inr rfl, _, RetOk.two rfl (Res1.cell _ _ _ _ _ _ _ _ rfl rfl rfl ⟨rfl, rfl⟩) (Res1.tmp _), rfl⟩
end Go.Proofs.Ytinehodamekjgaa.Aw

/- Contracts of package trail, part 7: Right. -/
set_option linter.unusedVariables false
namespace Go.Proofs.Ytinehodamekjgaa.Aw
open Go Go.RowKit
set_option maxRecDepth 10000
variable {A : Ar} (hA : A = real)
include hA
theorem trailRight (c : Cl) (hc : c.small) : PureCalls Try.prog 33 [c.pv] (.c (Bo c.right)) := by
  obtain ⟨V, N, M⟩ := c
  obtain ⟨hv, hn, hm⟩ := hc
  simp only at hv hn hm
  simp only [Cl.right, Cl.pv]
  refine PureCalls.of Try.func33 rfl (by kernel_rfl) rfl ?_
  have hcl := undone_c hA V N (ints M) 0 (Nat.zero_le _) (by omega) (by omega)
  rw [List.drop_zero] at hcl
  have hMg := ints_get? M
  have hMl : (ints M).length = M.length := by simp
  have hNl : (nts N).length = N.length := by simp
  generalize ints V = Vr at hcl ⊢
  generalize nts N = Nr at hNl hcl ⊢
  generalize ints M = Mr at hMl hMg hcl ⊢
  refine AWp.seq (AWp.region (AOL.to hA tabOk (by conv => lhs; cbv) (AOL.nil ?_)))
  refine AWp.seq (AWp.region (AOL.to hA tabOk (by conv => lhs; cbv) (AOL.nil ?_)))
  refine AWp.seq (AWp.seq (AWp.region (AOL.to hA tabOk (by conv => lhs; cbv) (AOL.nil ?_))))
  refine AWp.block ?_
  refine AWp.loop (fun q s => ∃ (k : Nat) (p : Int), q + k = M.length ∧ mOk N.length 0 M = mOk N.length p (M.drop k) ∧ Sub ⟨33, [(1, .ptr 0 0), (3, .ic (I p)), (9, .ic (.sl 1 false Mr)), (10, .ic (I (A .len Mr))), (11, .ic (I (k : Int)))],
    [.var true 25 [.ic (.sl 1 false Vr), .ic (.sl 2 false Nr), .ic (.sl 1 false Mr)]]⟩ s) M.length
    ⟨0, 0, by omega, by simp, Sub.of rfl rfl (.cons rfl (.cons rfl (.cons rfl (.cons rfl (.cons rfl .nil)))))⟩ ?_
  rintro q s ⟨k, p, hk, hmk, hsub⟩
  refine AWp.sub hsub ?_
  generalize hz : (k : Int) = z
  refine AWp.seq (AWp.region (AOL.to hA tabOk (by conv => lhs; cbv) (AOL.nil ?_)))
  rcases Nat.lt_or_ge k M.length with hkl | hkl
  · rw [show A .lt z (A .len Mr) = true by rw [rlt hA, rlen hA]; exact decide_eq_true (by omega)]
    refine AWp.seq (AWp.cond_t rfl (AWp.skip ?_))
    have hmm : M[k]? = some M[k] := List.getElem?_eq_getElem hkl
    have hdm : M.drop k = M[k] :: M.drop (k + 1) := List.drop_eq_getElem_cons hkl
    generalize M[k] = m at hmm hdm
    have hzk : z.toNat = k := by omega
    have hel := hMg k m hmm
    have hadd : A .add .i64 z 1 = ((k + 1 : Nat) : Int) := by rw [radd hA, wok (by omega) (by omega)]; omega
    rw [hdm] at hmk
    simp only [mOk] at hmk
    refine AWp.seq (AWp.block (AWp.seq (AWp.region (AOL.to hA tabOk (by conv => lhs; cbv) ?_))))
    refine One.elem tabOk rfl rfl rfl rfl (by omega) (by rw [hzk]; exact hel) _ _ ?_
    refine AOL.to hA tabOk (by conv => lhs; cbv) (AOL.nil ?_)
    refine AWp.seq (AWp.seq (AWp.region (AOL.upto hA tabOk 4 (by conv => lhs; cbv) ?_)))
    by_cases h1 : m < p
    · rw [show A .lt m p = true by rw [rlt hA]; exact decide_eq_true h1]
      refine AOL.to hA tabOk (by conv => lhs; cbv) (AOL.nil ?_)
      refine AWp.cond_t rfl ?_
      refine AWp.seq (AWp.region (AOL.to hA tabOk (by conv => lhs; cbv) (AOL.nil ?_)))
      rw [hmk, show decide (p ≤ m) = false from decide_eq_false (by omega)]
      exact AWp.ret ⟨.inr rfl, _, RetOk.one rfl (Res1.tmp _), rfl⟩
    · rw [show A .lt m p = false by rw [rlt hA]; exact decide_eq_false h1]
      refine AOL.to hA tabOk (by conv => lhs; cbv) (AOL.nil ?_)
      rw [show decide (p ≤ m) = true from decide_eq_true (by omega)] at hmk
      by_cases h2 : (N.length : Int) < m
      · rw [show A .lt (A .len Nr) m = true by rw [rlt hA, rlen hA, hNl]; exact decide_eq_true h2]
        refine AWp.cond_t rfl ?_
        refine AWp.seq (AWp.region (AOL.to hA tabOk (by conv => lhs; cbv) (AOL.nil ?_)))
        rw [hmk, show decide (m ≤ (N.length : Int)) = false from decide_eq_false (by omega)]
        exact AWp.ret ⟨.inr rfl, _, RetOk.one rfl (Res1.tmp _), rfl⟩
      · rw [show A .lt (A .len Nr) m = false by rw [rlt hA, rlen hA, hNl]; exact decide_eq_false h2]
        refine AWp.cond_f rfl (AWp.skip ?_)
        refine AWp.region (AOL.to hA tabOk (by conv => lhs; cbv) (AOL.nil ?_))
        refine AWp.region (AOL.to hA tabOk (by conv => lhs; cbv) (AOL.nil ?_))
        rw [hadd]
        rw [show decide (m ≤ (N.length : Int)) = true from decide_eq_true (by omega)] at hmk
        simp only [Bool.true_and] at hmk
        exact ⟨q - 1, by omega, k + 1, m, by omega, hmk, Sub.of rfl rfl (.cons rfl (.cons rfl (.cons rfl (.cons rfl (.cons rfl .nil)))))⟩
  · rw [show A .lt z (A .len Mr) = false by rw [rlt hA, rlen hA]; exact decide_eq_false (by omega)]
    refine AWp.seq (AWp.cond_f rfl (AWp.exit (Thn.exit (Thn.exit (Blk.here ?_)))))
    rw [List.drop_of_length_le hkl] at hmk
    rw [hmk]
    simp only [mOk, Bool.true_and]
    obtain ⟨x, hx⟩ := undoneR_tup (undoAll N V)
    rw [hx] at hcl
    generalize (undoAll N V).isSome = r at hcl ⊢
    refine AWp.seq (AWp.region (AOL.to hA tabOk (by conv => lhs; cbv) ?_))
    refine One.call false rfl rfl rfl hcl rfl _ _ ?_
    refine AOL.to hA tabOk (by conv => lhs; cbv) (AOL.nil ?_)
    refine AWp.seq (AWp.region (AOL.to hA tabOk (by conv => lhs; cbv) (AOL.nil ?_)))
    exact AWp.ret ⟨.inr rfl, _, RetOk.one rfl (Res1.tmp _), rfl⟩
end Go.Proofs.Ytinehodamekjgaa.Aw

/- The document's example. -/
set_option linter.unusedVariables false
namespace Go.Proofs.Ytinehodamekjgaa.Aw
open Go Go.RowKit
set_option maxRecDepth 10000
variable {A : Ar} (hA : A = real)
include hA
theorem shown_c : PureCalls Try.prog 13 [] (.c (Bo true)) := by
  refine PureCalls.of Try.func13 rfl (by kernel_rfl) rfl ?_
  have h1 := mark_c hA [[I 5]] [] [] (by simp)
  have h2 := set_c1 hA [[I 5]] [] [[I 0]] 0 5 7 (by simp) (by simp) rfl
  have h3 := back_c1 hA [7] [(0, 5)] [0] 0 rfl (Nat.zero_le _) (by simp) (by simp) (by simp) [5] rfl
  have h4 := trailRight hA ⟨[7], [(0, 5)], [0]⟩ ⟨by simp, by simp, by simp⟩
  rw [show Cl.right ⟨[7], [(0, 5)], [0]⟩ = true by decide] at h4
  have e1 : A .eq 0 0 = true := by rw [req hA]; rfl
  have e2 : A .len [[I 7]] = 1 := by rw [rlen hA]; rfl
  have e3 : A .eq 1 1 = true := by rw [req hA]; rfl
  have e4 : A .len [[I 5]] = 1 := by rw [rlen hA]; rfl
  have e5 : A .eq 7 7 = true := by rw [req hA]; rfl
  have e6 : A .eq 5 5 = true := by rw [req hA]; rfl
  have e7 : A .len [] = 0 := by rw [rlen hA]; rfl
  refine AWp.seq (AWp.region (AOL.to hA tabOk (by conv => lhs; cbv) (AOL.nil ?_)))
  refine AWp.seq (AWp.region (AOL.to hA tabOk (by conv => lhs; cbv) ?_))
  refine One.call false rfl rfl rfl (h1.weaken (.cons (.agg (.cons (.refl _) (.cons (.nil _ _ _) (.cons (.nil _ _ _) .nil)))) .nil)) rfl _ _ ?_
  refine AOL.to hA tabOk (by conv => lhs; cbv) (AOL.nil ?_)
  refine AWp.seq (AWp.region (AOL.to hA tabOk (by conv => lhs; cbv) ?_))
  refine One.call false rfl rfl rfl h2 rfl _ _ ?_
  refine AOL.to hA tabOk (by conv => lhs; cbv) (AOL.nil ?_)
  refine AWp.seq (AWp.region (AOL.to hA tabOk (by conv => lhs; cbv) ?_))
  refine One.call false rfl rfl rfl h3 rfl _ _ ?_
  refine AOL.to hA tabOk (by conv => lhs; cbv) (AOL.nil ?_)
  refine AWp.seq (AWp.region (AOL.upto hA tabOk 3 (by conv => lhs; cbv) ?_))
  rw [e1]
  refine AOL.upto hA tabOk 3 (by conv => lhs; cbv) ?_
  rw [e1]
  refine AOL.upto hA tabOk 7 (by conv => lhs; cbv) ?_
  rw [e2, e3]
  refine AOL.to hA tabOk (by conv => lhs; cbv) ?_
  refine One.elem tabOk rfl rfl rfl rfl (Int.le_refl 0) rfl _ _ ?_
  refine AOL.upto hA tabOk 4 (by conv => lhs; cbv) ?_
  rw [e5]
  refine AOL.upto hA tabOk 6 (by conv => lhs; cbv) ?_
  rw [e4, e3]
  refine AOL.to hA tabOk (by conv => lhs; cbv) ?_
  refine One.elem tabOk rfl rfl rfl rfl (Int.le_refl 0) rfl _ _ ?_
  refine AOL.upto hA tabOk 4 (by conv => lhs; cbv) ?_
  rw [e6]
  refine AOL.upto hA tabOk 6 (by conv => lhs; cbv) ?_
  rw [e7, e1]
  refine AOL.to hA tabOk (by conv => lhs; cbv) ?_
  refine One.call false rfl rfl rfl h4 rfl _ _ ?_
  refine AOL.to hA tabOk (by conv => lhs; cbv) (AOL.nil ?_)
  exact AWp.ret ⟨.inr rfl, _, RetOk.one rfl (Res1.tmp _), rfl⟩
end Go.Proofs.Ytinehodamekjgaa.Aw

/- The law TrailNone, walked. -/
set_option linter.unusedVariables false
namespace Go.Proofs.Ytinehodamekjgaa.Aw
open Go Go.RowKit
set_option maxRecDepth 10000
structure Cl.fits (c : Cl) : Prop where
  v : c.V.length ≤ 140737488351232
  n : c.N.length ≤ 140737488351232
  m : c.M.length ≤ 140737488351232
def Cl.marked (c : Cl) : Cl := ⟨c.V, c.N, c.M ++ [(c.N.length : Int)]⟩
variable {A : Ar} (hA : A = real)
include hA
theorem few_cl (c : Cl) (h : c.fits) : PureCalls Try.prog 14 [c.pv] (.c (Bo (decide (c.V.length + c.N.length + c.M.length ≤ 500)))) := by
  have := few_c hA (ints c.V) (nts c.N) (ints c.M) (by simpa using h.v) (by simpa using h.n) (by simpa using h.m)
  simpa using this
theorem mark_cl (c : Cl) (h : c.small) : PureCalls Try.prog 17 [c.pv] c.marked.pv := by
  have := mark_c hA (ints c.V) (nts c.N) (ints c.M) (by have := h.m; simp; omega)
  have e : ints c.M ++ [[I (nts c.N).length]] = ints (c.M ++ [(c.N.length : Int)]) := by simp [ints, nts]
  rw [e] at this
  exact this
theorem backMarked (c : Cl) (h : c.small) : PureCalls Try.prog 18 [c.marked.pv] (.tup [c.pv, .c (I 0)]) := by
  have hv := h.v; have hn := h.n; have hm := h.m
  have := back_c1 hA c.V c.N (c.M ++ [(c.N.length : Int)]) c.N.length (by simp) (Nat.le_refl _) hv hn (by simp; omega) c.V (by simp [undoAll])
  rw [List.take_length, List.dropLast_concat] at this
  exact this
theorem keepMarked (c : Cl) (h : c.small) : PureCalls Try.prog 20 [c.marked.pv] (.tup [c.pv, .c (I 0)]) := by
  have hm := h.m
  have := keep_c1 hA (ints c.V) (nts c.N) (ints (c.M ++ [(c.N.length : Int)])) (by simp) (by simp; omega)
  have e : (ints (c.M ++ [(c.N.length : Int)])).dropLast = ints c.M := by simp [ints]
  rw [e] at this
  exact this
theorem lawNone (c : Cl) (h : c.fits) : PureCalls Try.prog 4 [c.pv] (.c (Bo true)) := by
  refine PureCalls.of Try.func4 rfl (by kernel_rfl) rfl ?_
  have hsh := shown_c hA
  have hfw := few_cl hA c h
  by_cases hf : c.V.length + c.N.length + c.M.length ≤ 500
  · rw [decide_eq_true hf] at hfw
    have hsm : c.small := ⟨by omega, by omega, by omega⟩
    have hrg := refRight hA c hsm
    have hmk := mark_cl hA c hsm
    have hbk := backMarked hA c hsm
    have hkp := keepMarked hA c hsm
    have hb0 := back_c0 hA (ints c.V) (nts c.N) [] rfl
    have hk0 := keep_c0 hA (ints c.V) (nts c.N) [] rfl
    have hs1 := refSame hA c c hsm hsm
    have hs2 := refSame hA ⟨c.V, c.N, []⟩ ⟨c.V, c.N, []⟩ ⟨hsm.v, hsm.n, by simp⟩ ⟨hsm.v, hsm.n, by simp⟩
    rw [decide_eq_true rfl] at hs1 hs2
    simp only [Cl.pv, Cl.marked] at hfw hrg hmk hbk hkp hs1 hs2 ⊢
    change PureCalls _ _ [cellsPV (ints c.V) (nts c.N) [], cellsPV (ints c.V) (nts c.N) []] _ at hs2
    generalize ints (c.M ++ [(c.N.length : Int)]) = Mr' at hmk hbk hkp
    generalize ints c.V = Vr at hfw hrg hmk hbk hkp hs1 hs2 hb0 hk0 ⊢
    generalize nts c.N = Nr at hfw hrg hmk hbk hkp hs1 hs2 hb0 hk0 ⊢
    generalize ints c.M = Mr at hfw hrg hmk hbk hkp hs1 hs2 ⊢
    generalize c.right = r at hrg
    refine AWp.seq (AWp.region (AOL.to hA tabOk (by conv => lhs; cbv) (AOL.nil ?_)))
    refine AWp.seq (AWp.region (AOL.to hA tabOk (by conv => lhs; cbv) ?_))
    refine One.call false rfl rfl rfl hsh rfl _ _ ?_
    refine AOL.to hA tabOk (by conv => lhs; cbv) (AOL.nil ?_)
    refine AWp.seq (AWp.seq (AWp.region (AOL.to hA tabOk (by conv => lhs; cbv) ?_)))
    refine One.call false rfl rfl rfl hfw rfl _ _ ?_
    refine AOL.upto hA tabOk 2 (by conv => lhs; cbv) ?_
    rw [show A .no true = false by rw [rno hA]; rfl]
    refine AOL.to hA tabOk (by conv => lhs; cbv) ?_
    refine One.call false rfl rfl rfl hrg rfl _ _ ?_
    refine AOL.to hA tabOk (by conv => lhs; cbv) (AOL.nil ?_)
    cases r with
    | false =>
      rw [show A .no false = true by rw [rno hA]; rfl]
      refine AWp.cond_t rfl ?_
      refine AWp.seq (AWp.region (AOL.to hA tabOk (by conv => lhs; cbv) (AOL.nil ?_)))
      exact AWp.ret ⟨.inr rfl, _, RetOk.one rfl (Res1.tmp _), rfl⟩
    | true =>
      rw [show A .no true = false by rw [rno hA]; rfl]
      refine AWp.cond_f rfl (AWp.skip ?_)
      refine AWp.seq (AWp.region (AOL.to hA tabOk (by conv => lhs; cbv) ?_))
      refine One.call false rfl rfl rfl hmk rfl _ _ ?_
      refine AOL.to hA tabOk (by conv => lhs; cbv) ?_
      refine One.call false rfl rfl rfl hbk rfl _ _ ?_
      refine AOL.to hA tabOk (by conv => lhs; cbv) (AOL.nil ?_)
      refine AWp.seq (AWp.region (AOL.to hA tabOk (by conv => lhs; cbv) ?_))
      refine One.call false rfl rfl rfl hmk rfl _ _ ?_
      refine AOL.to hA tabOk (by conv => lhs; cbv) ?_
      refine One.call false rfl rfl rfl hkp rfl _ _ ?_
      refine AOL.to hA tabOk (by conv => lhs; cbv) (AOL.nil ?_)
      refine AWp.seq (AWp.region (AOL.to hA tabOk (by conv => lhs; cbv) (AOL.nil ?_)))
      refine AWp.seq (AWp.region (AOL.to hA tabOk (by conv => lhs; cbv) ?_))
      refine One.call false rfl rfl rfl (hb0.weaken (.cons (.agg (.cons (.refl _) (.cons (.refl _) (.cons (.nil _ _ _) .nil)))) .nil)) rfl _ _ ?_
      refine AOL.to hA tabOk (by conv => lhs; cbv) (AOL.nil ?_)
      refine AWp.seq (AWp.region (AOL.to hA tabOk (by conv => lhs; cbv) ?_))
      refine One.call false rfl rfl rfl (hk0.weaken (.cons (.agg (.cons (.refl _) (.cons (.refl _) (.cons (.nil _ _ _) .nil)))) .nil)) rfl _ _ ?_
      refine AOL.to hA tabOk (by conv => lhs; cbv) (AOL.nil ?_)
      have e0 : A .eq 0 0 = true := by rw [req hA]; rfl
      have e10 : A .eq 10 10 = true := by rw [req hA]; rfl
      refine AWp.seq (AWp.region (AOL.upto hA tabOk 6 (by conv => lhs; cbv) ?_))
      rw [e0]
      refine AOL.upto hA tabOk 4 (by conv => lhs; cbv) ?_
      rw [e0]
      refine AOL.to hA tabOk (by conv => lhs; cbv) ?_
      refine One.call false rfl rfl rfl hs1 rfl _ _ ?_
      refine AOL.to hA tabOk (by conv => lhs; cbv) ?_
      refine One.call false rfl rfl rfl hs1 rfl _ _ ?_
      refine AOL.upto hA tabOk 5 (by conv => lhs; cbv) ?_
      rw [e10]
      refine AOL.upto hA tabOk 4 (by conv => lhs; cbv) ?_
      rw [e10]
      refine AOL.to hA tabOk (by conv => lhs; cbv) ?_
      refine One.call false rfl rfl rfl (hs2.weaken (.cons (.refl _) (.cons (.agg (.cons (.refl _) (.cons (.refl _) (.cons (.nil _ _ _) .nil)))) .nil))) rfl _ _ ?_
      refine AOL.to hA tabOk (by conv => lhs; cbv) ?_
      refine One.call false rfl rfl rfl (hs2.weaken (.cons (.refl _) (.cons (.agg (.cons (.refl _) (.cons (.refl _) (.cons (.nil _ _ _) .nil)))) .nil))) rfl _ _ ?_
      refine AOL.to hA tabOk (by conv => lhs; cbv) (AOL.nil ?_)
      exact AWp.ret ⟨.inr rfl, _, RetOk.one rfl (Res1.tmp _), rfl⟩
  · rw [decide_eq_false hf] at hfw
    simp only [Cl.pv] at hfw ⊢
    generalize ints c.V = Vr at hfw ⊢
    generalize nts c.N = Nr at hfw ⊢
    generalize ints c.M = Mr at hfw ⊢
    refine AWp.seq (AWp.region (AOL.to hA tabOk (by conv => lhs; cbv) (AOL.nil ?_)))
    refine AWp.seq (AWp.region (AOL.to hA tabOk (by conv => lhs; cbv) ?_))
    refine One.call false rfl rfl rfl hsh rfl _ _ ?_
    refine AOL.to hA tabOk (by conv => lhs; cbv) (AOL.nil ?_)
    refine AWp.seq (AWp.seq (AWp.region (AOL.to hA tabOk (by conv => lhs; cbv) ?_)))
    refine One.call false rfl rfl rfl hfw rfl _ _ ?_
    refine AOL.upto hA tabOk 2 (by conv => lhs; cbv) ?_
    rw [show A .no false = true by rw [rno hA]; rfl]
    refine AOL.to hA tabOk (by conv => lhs; cbv) (AOL.nil ?_)
    refine AWp.cond_t rfl ?_
    refine AWp.seq (AWp.region (AOL.to hA tabOk (by conv => lhs; cbv) (AOL.nil ?_)))
    exact AWp.ret ⟨.inr rfl, _, RetOk.one rfl (Res1.tmp _), rfl⟩
end Go.Proofs.Ytinehodamekjgaa.Aw

/- The law TrailKeeps, walked. -/
set_option linter.unusedVariables false
namespace Go.Proofs.Ytinehodamekjgaa.Aw
open Go Go.RowKit
set_option maxRecDepth 10000
def Cl.grown (c : Cl) (v : Int) : Cl := ⟨c.V ++ [v], c.N ++ [(-1, 0)], c.M⟩
theorem undo_two (V : List Int) (a b : Int) : undoAll [(-1, 0), (-1, 0)] (V ++ [a] ++ [b]) = some V := by
  simp [undoAll, undo1]
variable {A : Ar} (hA : A = real)
include hA
theorem grow_cl (c : Cl) (h : c.small) (v : Int) : PureCalls Try.prog 21 [c.pv, .c (I v)] (c.grown v).pv := by
  have h1 := h.v; have h2 := h.n
  have := grow_c hA (ints c.V) (nts c.N) (ints c.M) v (by simp; omega) (by simp; omega)
  have e1 : ints c.V ++ [[I v]] = ints (c.V ++ [v]) := by simp [ints]
  have e2 : nts c.N ++ [[I (-1), I 0]] = nts (c.N ++ [(-1, 0)]) := by simp [nts]
  rw [e1, e2] at this
  exact this
theorem lawKeeps (c : Cl) (h : c.fits) (v : Int) : PureCalls Try.prog 7 [c.pv, .c (I v)] (.c (Bo true)) := by
  refine PureCalls.of Try.func7 rfl (by kernel_rfl) rfl ?_
  have hsh := shown_c hA
  have hfw := few_cl hA c h
  by_cases hf : c.V.length + c.N.length + c.M.length ≤ 500
  · rw [decide_eq_true hf] at hfw
    have hsm : c.small := ⟨by omega, by omega, by omega⟩
    have hrg := refRight hA c hsm
    have s1 : c.marked.small := ⟨hsm.v, hsm.n, by simp [Cl.marked]; omega⟩
    have s2 : (c.marked.grown v).small := ⟨by simp [Cl.marked, Cl.grown]; omega, by simp [Cl.marked, Cl.grown]; omega, by simp [Cl.marked, Cl.grown]; omega⟩
    have s3 : (c.marked.grown v).marked.small := ⟨by simp [Cl.marked, Cl.grown]; omega, by simp [Cl.marked, Cl.grown]; omega, by simp [Cl.marked, Cl.grown]; omega⟩
    have g1 := mark_cl hA c hsm
    have g2 := grow_cl hA c.marked s1 v
    have g3 := mark_cl hA (c.marked.grown v) s2
    have g4 := grow_cl hA (c.marked.grown v).marked s3 (A .add .i64 v 1)
    have g5 := keep_c1 hA (ints (c.V ++ [v] ++ [A .add .i64 v 1])) (nts (c.N ++ [(-1, 0)] ++ [(-1, 0)])) (ints (c.M ++ [(c.N.length : Int)] ++ [((c.N ++ [((-1 : Int), (0 : Int))]).length : Int)])) (by simp) (by simp; omega)
    have e5 : (ints (c.M ++ [(c.N.length : Int)] ++ [((c.N ++ [((-1 : Int), (0 : Int))]).length : Int)])).dropLast = ints (c.M ++ [(c.N.length : Int)]) := by simp [ints, List.map_append]
    rw [e5] at g5
    have g6 := back_c1 hA (c.V ++ [v] ++ [A .add .i64 v 1]) (c.N ++ [(-1, 0)] ++ [(-1, 0)]) (c.M ++ [(c.N.length : Int)]) c.N.length (by simp) (by simp <;> omega) (by simp <;> omega) (by simp <;> omega) (by simp <;> omega) c.V (by rw [List.append_assoc, List.drop_left]; exact undo_two c.V v _)
    have e6 : (c.N ++ [((-1 : Int), (0 : Int))] ++ [((-1 : Int), (0 : Int))]).take c.N.length = c.N := by rw [List.append_assoc, List.take_left]
    rw [e6, List.dropLast_concat] at g6
    have hs1 := refSame hA c c hsm hsm
    rw [decide_eq_true rfl] at hs1
    have l1 : (ints (c.M ++ [(c.N.length : Int)] ++ [((c.N ++ [((-1 : Int), (0 : Int))]).length : Int)])).length = (ints (c.M ++ [(c.N.length : Int)])).length + 1 := by simp
    have l2 : (ints (c.M ++ [(c.N.length : Int)])).length ≤ 100000 := by simp; omega
    have ee : ∀ n : Int, A .eq n n = true := fun n => by rw [req hA]; exact decide_eq_true rfl
    simp only [Cl.pv, Cl.marked, Cl.grown] at hfw hrg g1 g2 g3 g4 g5 g6 hs1 ⊢
    generalize hv1 : A .add .i64 v 1 = v1 at g4 g5 g6
    generalize ints (c.M ++ [(c.N.length : Int)] ++ [((c.N ++ [((-1 : Int), (0 : Int))]).length : Int)]) = M2 at g3 g4 g5 l1
    generalize ints (c.M ++ [(c.N.length : Int)]) = M1 at g1 g2 g3 g5 g6 l1 l2
    generalize ints (c.V ++ [v] ++ [v1]) = V2 at g4 g5 g6
    generalize ints (c.V ++ [v]) = V1 at g2 g3 g4
    generalize nts (c.N ++ [(-1, 0)] ++ [(-1, 0)]) = N2 at g4 g5 g6
    generalize nts (c.N ++ [(-1, 0)]) = N1 at g2 g3 g4
    generalize ints c.V = Vr at hfw hrg g1 g2 g6 hs1 ⊢
    generalize nts c.N = Nr at hfw hrg g1 g2 g6 hs1 ⊢
    generalize ints c.M = Mr at hfw hrg g1 g6 hs1 ⊢
    generalize c.right = r at hrg
    refine AWp.seq (AWp.region (AOL.to hA tabOk (by conv => lhs; cbv) (AOL.nil ?_)))
    refine AWp.seq (AWp.region (AOL.to hA tabOk (by conv => lhs; cbv) ?_))
    refine One.call false rfl rfl rfl hsh rfl _ _ ?_
    refine AOL.to hA tabOk (by conv => lhs; cbv) (AOL.nil ?_)
    refine AWp.seq (AWp.seq (AWp.region (AOL.to hA tabOk (by conv => lhs; cbv) ?_)))
    refine One.call false rfl rfl rfl hfw rfl _ _ ?_
    refine AOL.upto hA tabOk 2 (by conv => lhs; cbv) ?_
    rw [show A .no true = false by rw [rno hA]; rfl]
    refine AOL.to hA tabOk (by conv => lhs; cbv) ?_
    refine One.call false rfl rfl rfl hrg rfl _ _ ?_
    refine AOL.to hA tabOk (by conv => lhs; cbv) (AOL.nil ?_)
    cases r with
    | false =>
      rw [show A .no false = true by rw [rno hA]; rfl]
      refine AWp.cond_t rfl ?_
      refine AWp.seq (AWp.region (AOL.to hA tabOk (by conv => lhs; cbv) (AOL.nil ?_)))
      exact AWp.ret ⟨.inr rfl, _, RetOk.one rfl (Res1.tmp _), rfl⟩
    | true =>
      rw [show A .no true = false by rw [rno hA]; rfl]
      refine AWp.cond_f rfl (AWp.skip ?_)
      refine AWp.seq (AWp.region (AOL.to hA tabOk (by conv => lhs; cbv) ?_))
      refine One.call false rfl rfl rfl g1 rfl _ _ ?_
      refine AOL.to hA tabOk (by conv => lhs; cbv) ?_
      refine One.call false rfl rfl rfl g2 rfl _ _ ?_
      refine AOL.to hA tabOk (by conv => lhs; cbv) ?_
      refine One.call false rfl rfl rfl g3 rfl _ _ ?_
      refine AOL.to hA tabOk (by conv => lhs; cbv) ?_
      rw [hv1]
      refine One.call false rfl rfl rfl g4 rfl _ _ ?_
      refine AOL.to hA tabOk (by conv => lhs; cbv) (AOL.nil ?_)
      refine AWp.seq (AWp.region (AOL.to hA tabOk (by conv => lhs; cbv) ?_))
      refine One.call false rfl rfl rfl g5 rfl _ _ ?_
      refine AOL.to hA tabOk (by conv => lhs; cbv) (AOL.nil ?_)
      refine AWp.seq (AWp.region (AOL.to hA tabOk (by conv => lhs; cbv) ?_))
      refine One.call false rfl rfl rfl g6 rfl _ _ ?_
      refine AOL.to hA tabOk (by conv => lhs; cbv) (AOL.nil ?_)
      refine AWp.seq (AWp.region (AOL.upto hA tabOk 6 (by conv => lhs; cbv) ?_))
      rw [ee 0]
      refine AOL.upto hA tabOk 4 (by conv => lhs; cbv) ?_
      rw [ee 0]
      refine AOL.upto hA tabOk 9 (by conv => lhs; cbv) ?_
      rw [ee (A .len V2)]
      refine AOL.upto hA tabOk 9 (by conv => lhs; cbv) ?_
      rw [ee (A .len N2)]
      refine AOL.upto hA tabOk 10 (by conv => lhs; cbv) ?_
      rw [show A .eq (A .len M1) (A .sub .i64 (A .len M2) 1) = true by rw [req hA, rsub hA, rlen hA, rlen hA, wok (by omega) (by omega)]; exact decide_eq_true (by omega)]
      refine AOL.to hA tabOk (by conv => lhs; cbv) ?_
      refine One.call false rfl rfl rfl hs1 rfl _ _ ?_
      refine AOL.to hA tabOk (by conv => lhs; cbv) (AOL.nil ?_)
      exact AWp.ret ⟨.inr rfl, _, RetOk.one rfl (Res1.tmp _), rfl⟩
  · rw [decide_eq_false hf] at hfw
    simp only [Cl.pv] at hfw ⊢
    generalize ints c.V = Vr at hfw ⊢
    generalize nts c.N = Nr at hfw ⊢
    generalize ints c.M = Mr at hfw ⊢
    refine AWp.seq (AWp.region (AOL.to hA tabOk (by conv => lhs; cbv) (AOL.nil ?_)))
    refine AWp.seq (AWp.region (AOL.to hA tabOk (by conv => lhs; cbv) ?_))
    refine One.call false rfl rfl rfl hsh rfl _ _ ?_
    refine AOL.to hA tabOk (by conv => lhs; cbv) (AOL.nil ?_)
    refine AWp.seq (AWp.seq (AWp.region (AOL.to hA tabOk (by conv => lhs; cbv) ?_)))
    refine One.call false rfl rfl rfl hfw rfl _ _ ?_
    refine AOL.upto hA tabOk 2 (by conv => lhs; cbv) ?_
    rw [show A .no false = true by rw [rno hA]; rfl]
    refine AOL.to hA tabOk (by conv => lhs; cbv) (AOL.nil ?_)
    refine AWp.cond_t rfl ?_
    refine AWp.seq (AWp.region (AOL.to hA tabOk (by conv => lhs; cbv) (AOL.nil ?_)))
    exact AWp.ret ⟨.inr rfl, _, RetOk.one rfl (Res1.tmp _), rfl⟩
end Go.Proofs.Ytinehodamekjgaa.Aw

/- Cells out of the row's data. -/
set_option linter.unusedVariables false
namespace Go.Proofs.Ytinehodamekjgaa.Aw
open Go Go.RowKit
def shCells : List Sh := [.sl 8 (.int .i64), .sl 16 (.st [.int .i64, .int .i64]), .sl 8 (.int .i64)]
theorem decCells {ics : List IC} (h : Decs shCells ics) : ∃ c : Cl, ics = [.sl 1 false (ints c.V), .sl 2 false (nts c.N), .sl 1 false (ints c.M)] ∧ c.fits := by
  obtain ⟨a1, b1, rfl, ⟨r1, rfl, h1, l1⟩, a2, b2, rfl, ⟨r2, rfl, h2, l2⟩, a3, b3, rfl, ⟨r3, rfl, h3, l3⟩, rfl⟩ := h
  obtain ⟨V, rfl, _⟩ := decInts h1
  obtain ⟨N, rfl, _⟩ := decPairs h2
  obtain ⟨M, rfl, _⟩ := decInts h3
  refine ⟨⟨V, N, M⟩, rfl, ⟨?_, ?_, ?_⟩⟩
  · simp only [List.length_map] at l1; show V.length ≤ _; omega
  · simp only [List.length_map] at l2; show N.length ≤ _; omega
  · simp only [List.length_map] at l3; show M.length ≤ _; omega
end Go.Proofs.Ytinehodamekjgaa.Aw

/- The abstract walk, part 31: nil slices that grow; rows of the call's own in versions that are not known. -/
set_option linter.unusedVariables false
set_option linter.unusedSimpArgs false
namespace Go.Proofs.Ytinehodamekjgaa.Aw
open Go Go.RowKit
/-- A nil slice that is assigned is an empty row of the call's own. -/
theorem One.nilOwn {r : Option Nat} {P : Program} {ops : Array Oper} {i : Nat} {s : St} {tab : List TI} (hT : TabOk P tab) (d : Nat) (t : TypeId) {e : TypeId} {j : TI} (h : opAt ops i s = some (.assign (.const (.slice none 0 0)))) (hd : dstOf ops i = some d) (ht : slT tab t = some (e, j)) :
    One r P ops i s (.own s.st.length 0) (s.st ++ [.row true 0 e j.size []]) := by
  refine One.does h rfl fun o hop => ?_
  intro G g w a hr
  obtain ⟨g', h1, h2, h3⟩ := SR.newRow (w' := w) hr e j.size [] (.slice none 0 0) [] ⟨rfl, rfl, rfl, Nat.le_refl _, fun _ _ _ => rfl⟩ (by simp [gb]) ⟨by simp, .inl ⟨rfl, rfl⟩⟩ (fun ok => .nil _ _ _)
  exact ⟨.value (.slice none 0 0), .slice none 0 0, g', w, by simp [execOp, hop]; rfl, .inl rfl, h1, h2, h3⟩
def allEq : List (Nat × Nat) → Prop
  | [] => True
  | p :: r => p.1 = p.2 ∧ allEq r
theorem allEq_app {a b : List (Nat × Nat)} (h : allEq (a ++ b)) : allEq a ∧ allEq b := by
  induction a with
  | nil => exact ⟨trivial, h⟩
  | cons p r ih => exact ⟨⟨h.1, (ih h.2).1⟩, (ih h.2).2⟩
def toICO (own : Bool) (st : List AObj) : AV → Option (IC × List (Nat × Nat))
  | .ic (.sl sz _ xs) => some (.sl sz false xs, [])
  | .ic x => some (x, [])
  | .own i ver => match st[i]? with
    | some (.row m ver' _ sz xs) => match own || !m with
      | true => some (.sl sz false xs, [(ver, ver')])
      | false => none
    | _ => none
  | .fn (.func f) [] [] => some (.lit (.func (.func f) #[] #[]), [])
  | _ => none
def toICsO (own : Bool) (st : List AObj) : List AV → Option (List IC × List (Nat × Nat))
  | [] => some ([], [])
  | x :: r => match toICO own st x with
    | some (y, c) => match toICsO own st r with
      | some (z, d) => some (y :: z, c ++ d)
      | none => none
    | none => none
def toPVO (own : Bool) (st : List AObj) : AV → Option (PV × List (Nat × Nat))
  | .agg xs => match toICsO own st xs with
    | some (ys, c) => some (.agg ys, c)
    | none => none
  | x => match toICO own st x with
    | some (y, c) => some (.c y, c)
    | none => none
def toPVsO (own : Bool) (st : List AObj) : List AV → Option (List PV × List (Nat × Nat))
  | [] => some ([], [])
  | x :: r => match toPVO own st x with
    | some (y, c) => match toPVsO own st r with
      | some (z, d) => some (y :: z, c ++ d)
      | none => none
    | none => none
theorem toICO_ok {own : Bool} {st : List AObj} {x : AV} {y : IC} {c : List (Nat × Nat)} (h : toICO own st x = some (y, c)) (hc : allEq c) : toIC own st x = some y := by
  unfold toICO at h
  split at h
  · simp only [Option.some.injEq, Prod.mk.injEq] at h; obtain ⟨rfl, rfl⟩ := h; rfl
  · rename_i x hx
    simp only [Option.some.injEq, Prod.mk.injEq] at h
    obtain ⟨rfl, rfl⟩ := h
    cases x with
    | lit => rfl
    | sl a b c => exact absurd rfl (hx a b c)
  · rename_i i ver
    split at h
    · rename_i m ver' e sz xs hs
      split at h
      · rename_i ho
        simp only [Option.some.injEq, Prod.mk.injEq] at h
        obtain ⟨rfl, rfl⟩ := h
        have e1 : ver = ver' := hc.1
        simp [toIC, hs, e1, ho]
      · simp at h
    · simp at h
  · simp only [Option.some.injEq, Prod.mk.injEq] at h; obtain ⟨rfl, rfl⟩ := h; rfl
  · simp at h
theorem toICsO_ok {own : Bool} {st : List AObj} : ∀ {xs : List AV} {ys : List IC} {c : List (Nat × Nat)}, toICsO own st xs = some (ys, c) → allEq c → toICs own st xs = some ys
  | [], ys, c, h, hc => by simp only [toICsO, Option.some.injEq, Prod.mk.injEq] at h; obtain ⟨rfl, rfl⟩ := h; rfl
  | x :: r, ys, c, h, hc => by
    simp only [toICsO] at h
    split at h
    · rename_i y c1 h1
      split at h
      · rename_i z d h2
        simp only [Option.some.injEq, Prod.mk.injEq] at h
        obtain ⟨rfl, rfl⟩ := h
        obtain ⟨a, b⟩ := allEq_app hc
        simp [toICs, toICO_ok h1 a, toICsO_ok h2 b]
      · simp at h
    · simp at h
theorem toPVO_ok {own : Bool} {st : List AObj} {x : AV} {y : PV} {c : List (Nat × Nat)} (h : toPVO own st x = some (y, c)) (hc : allEq c) : toPV own st x = some y := by
  have key : ∀ z : AV, (∀ xs, z ≠ AV.agg xs) → toPVO own st z = (match toICO own st z with | some (y, c) => some (.c y, c) | none => none) ∧ toPV own st z = (match toIC own st z with | some y => some (.c y) | none => none) := by
    intro z hz
    cases z <;> first | exact ⟨rfl, rfl⟩ | exact absurd rfl (hz _)
  by_cases hx : ∃ xs, x = .agg xs
  · obtain ⟨xs, rfl⟩ := hx
    simp only [toPVO] at h
    split at h
    · rename_i ys c1 h1
      simp only [Option.some.injEq, Prod.mk.injEq] at h
      obtain ⟨rfl, rfl⟩ := h
      simp [toPV, toICsO_ok h1 hc]
    · simp at h
  · obtain ⟨k1, k2⟩ := key x fun xs e => hx ⟨xs, e⟩
    rw [k1] at h
    rw [k2]
    split at h
    · rename_i y1 c1 h1
      simp only [Option.some.injEq, Prod.mk.injEq] at h
      obtain ⟨rfl, rfl⟩ := h
      rw [toICO_ok h1 hc]
    · simp at h
theorem toPVsO_ok {own : Bool} {st : List AObj} : ∀ {xs : List AV} {ys : List PV} {c : List (Nat × Nat)}, toPVsO own st xs = some (ys, c) → allEq c → toPVs own st xs = some ys
  | [], ys, c, h, hc => by simp only [toPVsO, Option.some.injEq, Prod.mk.injEq] at h; obtain ⟨rfl, rfl⟩ := h; rfl
  | x :: r, ys, c, h, hc => by
    simp only [toPVsO] at h
    split at h
    · rename_i y c1 h1
      split at h
      · rename_i z d h2
        simp only [Option.some.injEq, Prod.mk.injEq] at h
        obtain ⟨rfl, rfl⟩ := h
        obtain ⟨a, b⟩ := allEq_app hc
        simp [toPVs, toPVO_ok h1 a, toPVsO_ok h2 b]
      · simp at h
    · simp at h
theorem One.callO {r : Option Nat} {P : Program} {ops : Array Oper} {i : Nat} {s : St} {x : Operand} {args : Array Operand} {ts : Array TypeId} {f : FuncId} {first cap : List AV} {pvs : List PV} {y : PV} {c : List (Nat × Nat)} (own : Bool) (h : opAt ops i s = some (.call { callee := .value x, args := args, argTypes := ts })) (hf : s.ev x = .fn (.func f) first cap)
    (hx : toPVsO own s.st (first ++ args.toList.map s.ev ++ cap) = some (pvs, c)) (hc : PureCalls P f pvs y) (hn : (!own || noSl y) = true) (he : allEq c) : One r P ops i s y.av s.st := One.call own h hf (toPVsO_ok hx he) hc hn
end Go.Proofs.Ytinehodamekjgaa.Aw

/- The abstract walk, part 32: cells of a variable, told in other words. -/
set_option linter.unusedVariables false
set_option linter.unusedSimpArgs false
namespace Go.Proofs.Ytinehodamekjgaa.Aw
open Go Go.RowKit
inductive CLe (s : List AObj) : AV → AV → Prop where
  | refl (x : AV) : CLe s x x
  | nil (a c : Nat) (b : Bool) : CLe s (.ic (.sl a b [])) (.ic (.sl c false []))
  | own (i ver e sz : Nat) (xs : List (List IC)) (h : s[i]? = some (.row false ver e sz xs)) : CLe s (.own i ver) (.ic (.sl sz false xs))
inductive CLes (s : List AObj) : List AV → List AV → Prop where
  | nil : CLes s [] []
  | cons {x y : AV} {r r' : List AV} (h : CLe s x y) (k : CLes s r r') : CLes s (x :: r) (y :: r')
theorem CLes.get {s : List AObj} {xs ys : List AV} (h : CLes s xs ys) : xs.length = ys.length ∧ ∀ (k : Nat) (y : AV), ys[k]? = some y → ∃ x, xs[k]? = some x ∧ CLe s x y := by
  induction h with
  | nil => exact ⟨rfl, fun k y hy => by simp at hy⟩
  | cons h k ih =>
    refine ⟨by simp [ih.1], fun j z hz => ?_⟩
    cases j with
    | zero => simp at hz; subst hz; exact ⟨_, rfl, h⟩
    | succ j => exact ih.2 j z (by simpa using hz)
theorem frozen_ir {G : Nat → Prop} {s : List AObj} {g : Ghost} {w : World} (hr : SR G s g w) {i ver e sz : Nat} {xs : List (List IC)} (h : s[i]? = some (.row false ver e sz xs)) : IR w (Good G s g) (.sl sz false xs) (g i) :=
  row_ir h hr _ (fun _ h => h) (fun b hb hG => ⟨hG, fun ⟨j, o, hj, hm, hgj⟩ => by
    have := hr.inj i j _ o b h hj rfl (by cases o <;> simp_all [AObj.mu, AObj.live]) hb hgj
    subst this
    rw [h] at hj
    simp only [Option.some.injEq] at hj
    subst hj
    simp [AObj.mu] at hm⟩)
theorem AR.le {G : Nat → Prop} {s : List AObj} {g : Ghost} {w : World} (hr : SR G s g w) {x y : AV} {v : Value} (h : AR G s g w x v) (k : CLe s x y) : AR G s g w y v := by
  cases k with
  | refl => exact h
  | nil a c b => exact .ic _ _ (h.ic_inv.le (.nil a c b))
  | own i ver e sz xs hs =>
    cases h with
    | own i ver v hi hv h1 =>
      obtain rfl := (hv _ _ _ _ _ hs).2 rfl
      exact .ic _ _ (frozen_ir hr hs)
theorem SR.recell {G : Nat → Prop} {s : List AObj} {g : Ghost} {w : World} (hr : SR G s g w) (i : Nat) {m : Bool} {t : TypeId} {cs cs' : List AV} (hi : s[i]? = some (.var m t cs)) (hc : CLes s cs cs') :
    Evo s g w (s.set i (.var m t cs')) g w ∧ SR G (s.set i (.var m t cs')) g w := by
  have hil := (List.getElem?_eq_some_iff.1 hi).1
  have get : ∀ j o, (s.set i (.var m t cs'))[j]? = some o → (j = i ∧ o = .var m t cs') ∨ (j ≠ i ∧ s[j]? = some o) := fun j o hj => by
    by_cases e : i = j
    · subst e
      rw [List.getElem?_set_self hil] at hj
      exact .inl ⟨rfl, (Option.some.inj hj).symm⟩
    · rw [List.getElem?_set_ne e] at hj
      exact .inr ⟨fun h => e h.symm, hj⟩
  have hev : Evo s g w (s.set i (.var m t cs')) g w := by
    refine ⟨rfl, rfl, rfl, Nat.le_refl _, fun _ _ _ => rfl, fun b _ ⟨j, o, hj, hm, hg⟩ => ?_, by simp, fun j m1 t1 c1 _ hj => ?_, fun j m1 v1 e1 z1 x1 _ hj => ?_, fun j c1 _ hj => ?_⟩
    · rcases get j o hj with ⟨rfl, rfl⟩ | ⟨_, h⟩
      · exact ⟨j, _, hi, hm, hg⟩
      · exact ⟨j, o, h, hm, hg⟩
    · rcases get j _ hj with ⟨rfl, e⟩ | ⟨_, h⟩
      · simp only [AObj.var.injEq] at e
        obtain ⟨rfl, rfl, rfl⟩ := e
        exact ⟨⟨_, _, hi⟩, rfl⟩
      · exact ⟨⟨_, _, h⟩, rfl⟩
    · rcases get j _ hj with ⟨rfl, e⟩ | ⟨_, h⟩
      · cases e
      · exact ⟨_, _, _, h, Nat.le_refl _, fun _ => rfl⟩
    · rcases get j _ hj with ⟨rfl, e⟩ | ⟨_, h⟩
      · cases e
      · exact ⟨⟨_, h⟩, rfl⟩
  refine ⟨hev, ⟨fun j o hj => ?_, fun j k o o' b hj hk l1 l2 b1 b2 => ?_, hr.new⟩⟩
  · rcases get j o hj with ⟨rfl, rfl⟩ | ⟨_, h⟩
    · obtain ⟨b, vs, h1, h2, h3, h4, h5, h6⟩ := hr.obj j _ hi
      refine ⟨b, vs, h1, h2, h3, by rw [h4, hc.get.1], h5, fun k y hk => ?_⟩
      obtain ⟨x, hx, hle⟩ := hc.get.2 k y hk
      exact ((h6 k x hx).le hr hle).evo hev
    · exact (hr.obj j o h).evo hev rfl fun _ _ => rfl
  · have f : ∀ (j : Nat) (o : AObj), (s.set i (.var m t cs'))[j]? = some o → o.live = true → ∃ o2 : AObj, s[j]? = some o2 ∧ o2.live = true := fun j o hj hl => by
      rcases get j o hj with ⟨rfl, rfl⟩ | ⟨_, h⟩
      · exact ⟨_, hi, rfl⟩
      · exact ⟨o, h, hl⟩
    obtain ⟨o2, h2, l2'⟩ := f j o hj l1
    obtain ⟨o3, h3, l3'⟩ := f k o' hk l2
    exact hr.inj j k o2 o3 b h2 h3 l2' l3' b1 b2
theorem AWp.recell {r : Option Nat} {P : Program} {c : Code} {s : St} {Q : Exit → St → Prop} (i : Nat) {m : Bool} {t : TypeId} {cs : List AV} (cs' : List AV) (hi : s.st[i]? = some (.var m t cs)) (hc : CLes s.st cs cs') (h : AWp r P c ⟨s.nt, s.env, s.st.set i (.var m t cs')⟩ Q) : AWp r P c s Q := fun G g w a B QQ hr hB hd k => by
  obtain ⟨hev, hsr⟩ := hr.sr.recell i hi hc
  refine h G g w a B QQ ⟨fun t => (hr.slots t).evo hev, hr.size, hsr⟩ hB (hd.evo hr.sr hev) fun e s' g' w' a' q hr' he hd' => k e s' g' w' a' q hr' (hev.trans he) hd'
end Go.Proofs.Ytinehodamekjgaa.Aw

/- The abstract walk, part 33: loops whose rounds lay objects that are forgotten at their end. -/
set_option linter.unusedVariables false
set_option linter.unusedSimpArgs false
namespace Go.Proofs.Ytinehodamekjgaa.Aw
open Go Go.RowKit
theorem AWp.trimN {r : Option Nat} {P : Program} {c : Code} {s : St} {Q1 : St → Prop} {Q : Exit → St → Prop} (n : Nat) (hn : s.st.length ≤ n) (h : AWp r P c s (Thn (fun s' => ∃ env, Trim n s.st env s' ∧ Q1 ⟨s'.nt, env, s'.st.take n⟩) Q)) : AWp r P c s (Thn Q1 Q) := fun G g w a B QQ hr hB hd kk => by
  refine h G g w a B QQ hr hB hd ?_
  intro e s' g' w' a' hQ hr' hev hd'
  cases e with
  | normal =>
    obtain ⟨env, ⟨h2, ht, hce, hget⟩, hQ⟩ := hQ
    obtain ⟨hsr, hev'⟩ := trimS hr.sr hr'.sr hev hn h2 ht
    refine kk .normal _ g' w' a' hQ ⟨fun t => ?_, hr'.size, hsr⟩ hev' hd'
    show AR G (s'.st.take n) g' w' (look env t) _
    rcases look_mem env t with e0 | ⟨p, hp, e1, e2⟩
    · rw [e0]; exact .any _
    · have hcl := closedE_look hce t
      rw [← e2] at hcl ⊢
      have hx := hr'.slots t
      rw [← e1] at hx
      rw [hget p hp] at hx
      rw [← e1]
      exact hx.trim hcl h2
  | ret => exact kk .ret s' g' w' a' hQ hr' hev hd'
  | exit id => exact kk (.exit id) s' g' w' a' hQ hr' hev hd'
  | goto t => exact kk (.goto t) s' g' w' a' hQ hr' hev hd'
  | panic ch => exact kk (.panic ch) s' g' w' a' hQ hr' hev hd'
  | outgrown => exact kk .outgrown s' g' w' a' hQ hr' hev hd'
def ndB : List (Nat × AV) → Nat → Bool
  | [], _ => true
  | (t, _) :: r, m => match bitB m t with
    | true => false
    | false => ndB r (bitS m t)
theorem ndB_look : ∀ (env : List (Nat × AV)) (m : Nat), ndB env m = true → ∀ p ∈ env, bitB m p.1 = false ∧ look env p.1 = p.2
  | [], _, _, p, hp => by simp at hp
  | (t, x) :: r, m, h, p, hp => by
    simp only [ndB] at h
    cases hm : bitB m t with
    | true => rw [hm] at h; cases h
    | false =>
      rw [hm] at h
      rcases List.mem_cons.1 hp with rfl | hp
      · exact ⟨hm, look_cons_eq⟩
      · obtain ⟨h1, h2⟩ := ndB_look r _ h p hp
        rw [bit_add, Bool.or_eq_false_iff] at h1
        refine ⟨h1.1, ?_⟩
        rw [look_cons_ne fun e => by simp [e] at h1]
        exact h2
/-- As loopU; n objects stay at the end of a round. -/
theorem AWp.loopT {r : Option Nat} {P : Program} {c : Code} {s : St} {Q : Exit → St → Prop} {σ : Type} (n : Nat) (up : σ → List (Nat × AV)) (stf : σ → List AObj) (mu : σ → Nat) (Inv : σ → Prop) (x0 : σ) {keep : List (Nat × AV)} (hk : keepOf (wr c 0) s.env = keep)
    (h0 : Inv x0) (he : subE s (up x0)) (hs : s.st = stf x0) (hn : ∀ x, Nat.ble (stf x).length n = true) (hnd : ∀ x, ndB (up x ++ keep) 0 = true)
    (round : ∀ x, Inv x → AWp r P c ⟨s.nt, up x ++ keep, stf x⟩ (Thn (fun s' => ∃ x', Inv x' ∧ mu x' < mu x ∧ s'.nt = s.nt ∧ Nat.ble n s'.st.length = true ∧ trimOk n (stf x) (s'.st.take n) ∧ s'.st.take n = stf x' ∧ closedE n (up x' ++ keep) = true ∧ subE s' (up x') ∧ subE s' keep) Q)) : AWp r P (.loop c) s Q := by
  subst hk
  refine AWp.loop (fun n s' => ∃ x, Inv x ∧ mu x = n ∧ Sub ⟨s.nt, up x ++ keepOf (wr c 0) s.env, stf x⟩ s') (mu x0) ⟨x0, h0, rfl, Sub.of rfl hs (subE_append he (subE_of fun p hp => (keep_get _ _ p hp).2))⟩ ?_
  rintro m s1 ⟨x, hi, rfl, hsub⟩
  refine AWp.sub hsub ?_
  refine AWp.trimN n (Nat.le_of_ble_eq_true (hn x)) ((round x hi).mono ?_)
  intro e s2 h
  cases e with
  | normal =>
    obtain ⟨x', h1, h2, h3, h4, h5, h6, h7, h8, h9⟩ := h
    refine ⟨up x' ++ keepOf (wr c 0) s.env, Trim.of h4 h5 h7 (subE_append h8 h9), mu x', h2, x', h1, rfl, Sub.of h3 h6 (subE_of fun p hp => (ndB_look _ 0 (hnd x') p hp).2)⟩
  | _ => exact h
end Go.Proofs.Ytinehodamekjgaa.Aw

/- The abstract walk, part 34: a contract in a store holds at any place of a store. -/
set_option linter.unusedVariables false
set_option linter.unusedSimpArgs false
namespace Go.Proofs.Ytinehodamekjgaa.Aw
open Go Go.RowKit
mutual
/-- The value, its objects K places on. -/
def shV (K : Nat) : AV → AV
  | .any => .any
  | .ic x => .ic x
  | .own i v => .own (K + i) v
  | .ptr i o => .ptr (K + i) o
  | .at cs => .at cs
  | .rat i v j o => .rat (K + i) v j o
  | .fn f a b => .fn f (shVs K a) (shVs K b)
  | .agg xs => .agg (shVs K xs)
  | .tup xs => .tup (shVs K xs)
  | .yl i => .yl (K + i)
def shVs (K : Nat) : List AV → List AV
  | [] => []
  | x :: r => shV K x :: shVs K r
end
def shO (K : Nat) : AObj → AObj
  | .var m t cs => .var m t (shVs K cs)
  | .dead => .dead
  | .row m v e sz xs => .row m v e sz xs
  | .lp c => .lp c
def shOs (K : Nat) : List AObj → List AObj
  | [] => []
  | x :: r => shO K x :: shOs K r
def noLp : AObj → Bool
  | .lp _ => false
  | _ => true
theorem shVs_get {K : Nat} : ∀ {l : List AV} {k : Nat} {y : AV}, (shVs K l)[k]? = some y → ∃ x, l[k]? = some x ∧ y = shV K x
  | [], k, y, h => by simp [shVs] at h
  | x :: r, 0, y, h => by simp [shVs] at h; exact ⟨x, rfl, h.symm⟩
  | x :: r, k + 1, y, h => by
    simp only [shVs, List.getElem?_cons_succ] at h
    simpa using shVs_get h
theorem shVs_len {K : Nat} : ∀ l : List AV, (shVs K l).length = l.length
  | [] => rfl
  | x :: r => by simp [shVs, shVs_len r]
theorem shVs_of {K : Nat} : ∀ {l : List AV} {k : Nat} {x : AV}, l[k]? = some x → (shVs K l)[k]? = some (shV K x)
  | [], k, x, h => by simp at h
  | y :: r, 0, x, h => by simp at h; subst h; rfl
  | y :: r, k + 1, x, h => by
    simp only [shVs, List.getElem?_cons_succ]
    exact shVs_of (by simpa using h)
theorem shOs_len {K : Nat} : ∀ l : List AObj, (shOs K l).length = l.length
  | [] => rfl
  | x :: r => by simp [shOs, shOs_len r]
theorem shOs_of {K : Nat} : ∀ {l : List AObj} {k : Nat} {x : AObj}, l[k]? = some x → (shOs K l)[k]? = some (shO K x)
  | [], k, x, h => by simp at h
  | y :: r, 0, x, h => by simp at h; subst h; rfl
  | y :: r, k + 1, x, h => by
    simp only [shOs, List.getElem?_cons_succ]
    exact shOs_of (by simpa using h)
theorem shOs_get {K : Nat} : ∀ {l : List AObj} {k : Nat} {y : AObj}, (shOs K l)[k]? = some y → ∃ x, l[k]? = some x ∧ y = shO K x
  | [], k, y, h => by simp [shOs] at h
  | x :: r, 0, y, h => by simp [shOs] at h; exact ⟨x, rfl, h.symm⟩
  | x :: r, k + 1, y, h => by
    simp only [shOs, List.getElem?_cons_succ] at h
    simpa using shOs_get h
theorem shO_mu (K : Nat) (o : AObj) : (shO K o).mu = o.mu := by cases o <;> rfl
theorem shO_live (K : Nat) (o : AObj) : (shO K o).live = o.live := by cases o <;> rfl
/-- Out of the great store into the small one. -/
theorem AR.down {G G' : Nat → Prop} {big s : List AObj} {g g' : Ghost} {w : World} {K : Nat} (hgood : ∀ b, Good G big g b → Good G' s g' b) (hobj : ∀ (i : Nat) (o : AObj), s[i]? = some o → big[K + i]? = some (shO K o)) (hg : ∀ i, g' i = g (K + i)) {y : AV} {v : Value} (h : AR G big g w y v) :
    ∀ x : AV, y = shV K x → closedB s.length x = true → AR G' s g' w x v := by
  have lt : ∀ i, Nat.blt i s.length = true → i < s.length := fun i hi => Nat.le_of_ble_eq_true hi
  induction h with
  | any v => intro x e hc; cases x <;> simp [shV] at e; exact .any v
  | ic z v h => intro x e hc; cases x <;> simp [shV] at e; subst e; exact .ic _ _ (h.mono (fun _ _ _ => rfl) (fun b _ hb => hgood b hb) (Nat.le_refl _))
  | own i ver v hi hv h1 =>
    intro x e hc
    cases x <;> simp [shV] at e
    obtain ⟨rfl, rfl⟩ := e
    refine .own _ _ _ (lt _ hc) (fun m v' e sz xs hs => ?_) h1
    obtain ⟨a, b⟩ := hv _ _ _ _ _ (hobj _ _ hs)
    exact ⟨a, fun e => (b e).trans (hg _).symm⟩
  | ptr i off v hi hv h1 =>
    intro x e hc
    cases x <;> simp [shV] at e
    obtain ⟨rfl, rfl⟩ := e
    refine .ptr _ _ _ (lt _ hc) (fun m t cs hs => ?_) h1
    obtain ⟨b, e1, e2⟩ := hv _ _ _ (hobj _ _ hs)
    exact ⟨b, (hg _).trans e1, e2⟩
  | «at» cs b o val hb hok hcell hin =>
    intro x e hc
    cases x <;> simp [shV] at e
    subst e
    exact .«at» _ b o val hb (hgood b hok) hcell fun k x hk => (hin k x hk).mono (fun _ _ _ => rfl) (fun b _ hb => hgood b hb) (Nat.le_refl _)
  | rat i ver j off v hi hv h1 =>
    intro x e hc
    cases x <;> simp [shV] at e
    obtain ⟨rfl, rfl, rfl, rfl⟩ := e
    refine .rat _ _ _ _ _ (lt _ hc) (fun m v' e sz xs hs => ?_) h1
    obtain ⟨a, b⟩ := hv _ _ _ _ _ (hobj _ _ hs)
    exact ⟨a, fun e => by obtain ⟨b', h1, h2⟩ := b e; exact ⟨b', by rw [hg]; exact h1, h2⟩⟩
  | fn f first cap vf vc h1 h2 h3 h4 ih3 ih4 =>
    intro x e hc
    cases x <;> simp [shV] at e
    obtain ⟨rfl, rfl, rfl⟩ := e
    simp only [closedB, Bool.and_eq_true] at hc
    refine .fn _ _ _ vf vc (by rw [h1, shVs_len]) (by rw [h2, shVs_len]) (fun k x hk => ih3 k _ (shVs_of hk) x rfl (closedBs_get hc.1 k x hk)) (fun k x hk => ih4 k _ (shVs_of hk) x rfl (closedBs_get hc.2 k x hk))
  | agg xs vs h1 h2 h3 ih =>
    intro x e hc
    cases x <;> simp [shV] at e
    subst e
    exact .agg _ vs (by rw [h1, shVs_len]) (fun k x hk => ih k _ (shVs_of hk) x rfl (closedBs_get hc k x hk)) h3
  | tup xs vs h1 h2 ih =>
    intro x e hc
    cases x <;> simp [shV] at e
    subst e
    exact .tup _ vs (by rw [h1, shVs_len]) (fun k x hk => ih k _ (shVs_of hk) x rfl (closedBs_get hc k x hk))
  | yl i v hi hv h1 =>
    intro x e hc
    cases x <;> simp [shV] at e
    subst e
    exact .yl _ _ (lt _ hc) (fun c hs => by obtain ⟨b, e1, e2⟩ := hv c (hobj _ _ hs); exact ⟨b, (hg _).trans e1, e2⟩) h1
/-- .. and back. -/
theorem AR.up {G G' : Nat → Prop} {big s : List AObj} {g g' : Ghost} {w : World} {K : Nat} (hgood : ∀ b, Good G' s g' b → Good G big g b) (hlen : K + s.length ≤ big.length) (hobj : ∀ (i : Nat) (o : AObj), i < s.length → big[K + i]? = some o → ∃ o0, s[i]? = some o0 ∧ o = shO K o0) (hg : ∀ i, i < s.length → g (K + i) = g' i) {x : AV} {v : Value} (h : AR G' s g' w x v) : AR G big g w (shV K x) v := by
  induction h with
  | any v => exact .any v
  | ic z v h => exact .ic _ _ (h.mono (fun _ _ _ => rfl) (fun b _ hb => hgood b hb) (Nat.le_refl _))
  | own i ver v hi hv h1 =>
    refine .own _ _ _ (by omega) (fun m v' e sz xs hs => ?_) h1
    obtain ⟨o0, h0, e0⟩ := hobj _ _ hi hs
    cases o0 <;> simp [shO] at e0
    obtain ⟨rfl, rfl, rfl, rfl, rfl⟩ := e0
    obtain ⟨a, b⟩ := hv _ _ _ _ _ h0
    exact ⟨a, fun e => (b e).trans (hg _ hi).symm⟩
  | ptr i off v hi hv h1 =>
    refine .ptr _ _ _ (by omega) (fun m t cs hs => ?_) h1
    obtain ⟨o0, h0, e0⟩ := hobj _ _ hi hs
    cases o0 <;> simp [shO] at e0
    obtain ⟨rfl, rfl, rfl⟩ := e0
    obtain ⟨b, e1, e2⟩ := hv _ _ _ h0
    exact ⟨b, (hg _ hi).trans e1, e2⟩
  | «at» cs b o val hb hok hcell hin => exact .«at» _ b o val hb (hgood b hok) hcell fun k x hk => (hin k x hk).mono (fun _ _ _ => rfl) (fun b _ hb => hgood b hb) (Nat.le_refl _)
  | rat i ver j off v hi hv h1 =>
    refine .rat _ _ _ _ _ (by omega) (fun m v' e sz xs hs => ?_) h1
    obtain ⟨o0, h0, e0⟩ := hobj _ _ hi hs
    cases o0 <;> simp [shO] at e0
    obtain ⟨rfl, rfl, rfl, rfl, rfl⟩ := e0
    obtain ⟨a, b⟩ := hv _ _ _ _ _ h0
    exact ⟨a, fun e => by obtain ⟨b', h1, h2⟩ := b e; exact ⟨b', by rw [hg _ hi]; exact h1, h2⟩⟩
  | fn f first cap vf vc h1 h2 h3 h4 ih3 ih4 =>
    refine .fn _ _ _ vf vc (by rw [h1, shVs_len]) (by rw [h2, shVs_len]) (fun k y hk => ?_) (fun k y hk => ?_)
    · obtain ⟨x, hx, rfl⟩ := shVs_get hk; exact ih3 k x hx
    · obtain ⟨x, hx, rfl⟩ := shVs_get hk; exact ih4 k x hx
  | agg xs vs h1 h2 h3 ih =>
    refine .agg _ vs (by rw [h1, shVs_len]) (fun k y hk => ?_) h3
    obtain ⟨x, hx, rfl⟩ := shVs_get hk; exact ih k x hx
  | tup xs vs h1 h2 ih =>
    refine .tup _ vs (by rw [h1, shVs_len]) (fun k y hk => ?_)
    obtain ⟨x, hx, rfl⟩ := shVs_get hk; exact ih k x hx
  | yl i v hi hv h1 =>
    refine .yl _ _ (by omega) (fun c hs => ?_) h1
    obtain ⟨o0, h0, e0⟩ := hobj _ _ hi hs
    cases o0 <;> simp [shO] at e0
    subst e0
    obtain ⟨b, e1, e2⟩ := hv _ h0
    exact ⟨b, (hg _ hi).trans e1, e2⟩
end Go.Proofs.Ytinehodamekjgaa.Aw

/- The abstract walk, part 35: the frame rule of calls in a store. -/
set_option linter.unusedVariables false
set_option linter.unusedSimpArgs false
namespace Go.Proofs.Ytinehodamekjgaa.Aw
open Go Go.RowKit
theorem OR.down {G G' : Nat → Prop} {big s : List AObj} {g g' : Ghost} {w : World} {K : Nat} (hgood : ∀ b, Good G big g b → Good G' s g' b) (hobj : ∀ (i : Nat) (o : AObj), s[i]? = some o → big[K + i]? = some (shO K o)) (hg : ∀ i, g' i = g (K + i)) {i : Nat} {o : AObj} (h : OR G big g w (K + i) (shO K o))
    (hlp : noLp o = true) (hcl : closedO s.length o = true) (hG : ∀ b, gb (g' i) = some b → G b → G' b) : OR G' s g' w i o := by
  cases o with
  | dead => trivial
  | var m t cs =>
    obtain ⟨b, vs, h1, h2, h3, h4, h5, h6⟩ := h
    exact ⟨b, vs, (hg i).trans h1, hG b (by rw [hg, h1]; rfl) h2, h3, by rw [h4, shVs_len], h5, fun k x hk => (h6 k _ (shVs_of hk)).down hgood hobj hg x rfl (closedBs_get hcl k x hk)⟩
  | row m ver e sz xs =>
    obtain ⟨cells, h1, h2, h3⟩ := h
    exact ⟨cells, by rw [hg]; exact h1, fun b hb => hG b hb (h2 b (by rw [← hg]; exact hb)), h3.mono fun x v hr => hr.mono (fun _ _ _ => rfl) (fun b _ hb => hgood b hb) (Nat.le_refl _)⟩
  | lp c => simp [noLp] at hlp
theorem OR.up {G G' : Nat → Prop} {big s : List AObj} {g g' : Ghost} {w : World} {K : Nat} (hgood : ∀ b, Good G' s g' b → Good G big g b) (hlen : K + s.length ≤ big.length) (hobj : ∀ (i : Nat) (o : AObj), i < s.length → big[K + i]? = some o → ∃ o0, s[i]? = some o0 ∧ o = shO K o0) (hg : ∀ i, i < s.length → g (K + i) = g' i) {i : Nat} {o : AObj} (hi : i < s.length) (h : OR G' s g' w i o)
    (hlp : noLp o = true) (hG : ∀ b, G' b → G b) : OR G big g w (K + i) (shO K o) := by
  cases o with
  | dead => trivial
  | var m t cs =>
    obtain ⟨b, vs, h1, h2, h3, h4, h5, h6⟩ := h
    refine ⟨b, vs, (hg i hi).trans h1, hG b h2, h3, by rw [h4, shVs_len], h5, fun k y hk => ?_⟩
    obtain ⟨x, hx, rfl⟩ := shVs_get hk
    exact (h6 k x hx).up hgood hlen hobj hg
  | row m ver e sz xs =>
    obtain ⟨cells, h1, h2, h3⟩ := h
    exact ⟨cells, by rw [hg i hi]; exact h1, fun b hb => hG b (h2 b (by rw [← hg i hi]; exact hb)), h3.mono fun x v hr => hr.mono (fun _ _ _ => rfl) (fun b _ hb => hgood b hb) (Nat.le_refl _)⟩
  | lp c => simp [noLp] at hlp
/-- Data of the store that a call may turn: no record; what lives may be written. -/
def plainO : AObj → Bool
  | .lp _ => false
  | .dead => true
  | o => o.mu
theorem plain_noLp {o : AObj} (h : plainO o = true) : noLp o = true := by cases o <;> simp_all [plainO, noLp]
theorem plain_mu {o : AObj} (h : plainO o = true) (hl : o.live = true) : o.mu = true := by cases o <;> simp_all [plainO, AObj.live]
/-- A contract at the store s holds where s stands K places on, among others. -/
theorem ACalls.frame {P : Program} {f : FuncId} {xs : List AV} {s : List AObj} {R : AV → List AObj → Prop} (h : ACalls P f xs s R) (pre post : List AObj) (hp : s.all plainO = true) (hc : s.all (closedO s.length) = true) (hx : closedBs s.length xs = true)
    (hR : ∀ x s', R x s' → s'.length = s.length ∧ s'.all plainO = true) :
    ACalls P f (shVs pre.length xs) (pre ++ (shOs pre.length s ++ post)) (fun y st' => ∃ x s', R x s' ∧ y = shV pre.length x ∧ st' = pre ++ (shOs pre.length s' ++ post)) := by
  refine ⟨h.1, fun G g w vals hsz hr hv => ?_⟩
  generalize hK : pre.length = K at *
  generalize hn : s.length = n at *
  have hbl : ∀ s' : List AObj, s'.length = n → (pre ++ (shOs K s' ++ post)).length = K + n + post.length := fun s' e => by simp [shOs_len, e, hK]; omega
  have gpre : ∀ (s' : List AObj) (i : Nat), i < K → (pre ++ (shOs K s' ++ post))[i]? = pre[i]? := fun s' i hi => List.getElem?_append_left (by omega)
  have gmid : ∀ (s' : List AObj), s'.length = n → ∀ i, i < n → (pre ++ (shOs K s' ++ post))[K + i]? = (shOs K s')[i]? := fun s' e i hi => by
    rw [List.getElem?_append_right (by omega), List.getElem?_append_left (by rw [shOs_len]; omega)]
    congr 1; omega
  have gpost : ∀ (s' : List AObj), s'.length = n → ∀ i, K + n ≤ i → (pre ++ (shOs K s' ++ post))[i]? = post[i - K - n]? := fun s' e i hi => by
    rw [List.getElem?_append_right (by omega), List.getElem?_append_right (by rw [shOs_len]; omega), shOs_len]
    congr 1; omega
  have goth : ∀ (s' : List AObj), s'.length = n → ∀ i, (i < K ∨ K + n ≤ i) → (pre ++ (shOs K s' ++ post))[i]? = (pre ++ (shOs K s ++ post))[i]? := fun s' e i hi => by
    rcases hi with hi | hi
    · rw [gpre _ _ hi, gpre _ _ hi]
    · rw [gpost _ e _ hi, gpost _ hn _ hi]
  generalize hbig : pre ++ (shOs K s ++ post) = big at *
  have hmid : ∀ (i : Nat) (o : AObj), s[i]? = some o → big[K + i]? = some (shO K o) := fun i o hi => by
    rw [← hbig, gmid s hn i (by rw [← hn]; exact (List.getElem?_eq_some_iff.1 hi).1)]
    exact shOs_of hi
  let OO : Nat → Prop := fun b => ∃ i o, (i < K ∨ K + n ≤ i) ∧ big[i]? = some o ∧ o.mu = true ∧ gb (g i) = some b
  have hlive : ∀ {o : AObj}, o.mu = true → o.live = true := fun {o} h => by cases o <;> simp_all [AObj.mu, AObj.live]
  have hOO : ∀ b, OO b → Own big g b := fun b ⟨i, o, _, h1, h2, h3⟩ => ⟨i, o, h1, h2, h3⟩
  have hgood : ∀ b, Good G big g b → Good (fun b => G b ∧ ¬ OO b) s (fun i => g (K + i)) b := fun b ⟨h1, h2⟩ => ⟨⟨h1, fun h3 => h2 (hOO b h3)⟩, fun ⟨i, o, hi, hm, hg⟩ => h2 ⟨K + i, shO K o, hmid i o hi, by rw [shO_mu]; exact hm, hg⟩⟩
  have hnotOO : ∀ (i : Nat) (o : AObj) (b : Nat), s[i]? = some o → o.live = true → gb (g (K + i)) = some b → ¬ OO b := fun i o b hi hl hb ⟨j, o', hj, h1, h2, h3⟩ => by
    have hin : i < n := by rw [← hn]; exact (List.getElem?_eq_some_iff.1 hi).1
    have := hr.inj (K + i) j _ _ b (hmid i o hi) h1 (by rw [shO_live]; exact hl) (hlive h2) hb h3
    omega
  have hsr : SR (fun b => G b ∧ ¬ OO b) s (fun i => g (K + i)) w := by
    refine ⟨fun i o hi => ?_, fun i j o o' b hi hj l1 l2 b1 b2 => ?_, fun b hb => ⟨hr.new b hb, fun h3 => ?_⟩⟩
    · have hpo : plainO o = true := List.all_eq_true.1 hp o (List.mem_of_getElem? hi)
      have hco : closedO s.length o = true := by rw [hn]; exact List.all_eq_true.1 hc o (List.mem_of_getElem? hi)
      by_cases hl : o.live = true
      · exact (hr.obj (K + i) _ (hmid i o hi)).down hgood hmid (fun _ => rfl) (plain_noLp hpo) hco fun b hb hG => ⟨hG, hnotOO i o b hi hl hb⟩
      · cases o <;> simp_all [AObj.live]
        trivial
    · have := hr.inj (K + i) (K + j) _ _ b (hmid i o hi) (hmid j o' hj) (by rw [shO_live]; exact l1) (by rw [shO_live]; exact l2) b1 b2
      omega
    · have := Own.lt hr (hOO b h3)
      omega
  refine (h.2 _ _ w vals (by rw [hsz, shVs_len]) hsr fun k x hk => ?_).mono ?_
  · exact (hv k _ (shVs_of hk)).down hgood hmid (fun _ => rfl) x rfl (by rw [hn]; exact closedBs_get hx k x hk)
  rintro e w' ⟨v, x, s', g2, rfl, hRx, hxv, hsr', hev⟩
  obtain ⟨hl', hp'⟩ := hR x s' hRx
  let g3 : Ghost := fun i => if K ≤ i ∧ i < K + n then g2 (i - K) else g i
  have g3m : ∀ i, i < n → g3 (K + i) = g2 i := fun i hi => by
    show (if K ≤ K + i ∧ K + i < K + n then g2 (K + i - K) else g (K + i)) = g2 i
    rw [if_pos (by omega)]; congr 1; omega
  have g3o : ∀ i, (i < K ∨ K + n ≤ i) → g3 i = g i := fun i hi => by
    show (if K ≤ i ∧ i < K + n then g2 (i - K) else g i) = g i
    rw [if_neg (by omega)]
  generalize hbig' : pre ++ (shOs K s' ++ post) = big'
  have hlb : big.length = K + n + post.length := by rw [← hbig]; exact hbl s hn
  have hlb' : big'.length = K + n + post.length := by rw [← hbig']; exact hbl s' hl'
  have oth' : ∀ i, (i < K ∨ K + n ≤ i) → big'[i]? = big[i]? := fun i hi => by rw [← hbig', goth s' hl' i hi, ← hbig]
  have mid' : ∀ (i : Nat) (o : AObj), i < n → big'[K + i]? = some o → ∃ o0, s'[i]? = some o0 ∧ o = shO K o0 := fun i o hi ho => by
    rw [← hbig', gmid s' hl' i hi] at ho
    exact shOs_get ho
  have cases' : ∀ i o, big'[i]? = some o → ((i < K ∨ K + n ≤ i) ∧ big[i]? = some o) ∨ ∃ j o0, i = K + j ∧ j < n ∧ s'[j]? = some o0 ∧ o = shO K o0 := fun i o hi => by
    by_cases ho : i < K ∨ K + n ≤ i
    · exact .inl ⟨ho, by rw [← oth' i ho]; exact hi⟩
    · obtain ⟨o0, h0, e0⟩ := mid' (i - K) o (by omega) (by rw [show K + (i - K) = i by omega]; exact hi)
      exact .inr ⟨i - K, o0, by omega, by omega, h0, e0⟩
  have hown' : ∀ b, Own big' g3 b → OO b ∨ Own s' g2 b := fun b ⟨i, o, hi, hm, hg⟩ => by
    rcases cases' i o hi with ⟨ho, h0⟩ | ⟨j, o0, rfl, hj, h0, rfl⟩
    · exact .inl ⟨i, o, ho, h0, hm, by rw [← g3o i ho]; exact hg⟩
    · exact .inr ⟨j, o0, h0, by rw [← shO_mu K]; exact hm, by rw [← g3m j hj]; exact hg⟩
  have hown0 : ∀ b, Own s (fun i => g (K + i)) b → Own big g b := fun b ⟨i, o, hi, hm, hg⟩ => ⟨K + i, _, hmid i o hi, by rw [shO_mu]; exact hm, hg⟩
  have hEvo : Evo big g w big' g3 w' := by
    refine ⟨hev.os, hev.tape, hev.output, hev.size, fun b hb hno => hev.heap b hb fun h => hno (hown0 b h), fun b hb ho => ?_, by omega, fun i m t cs hi ho => ?_, fun i m ver e sz ys hi ho => ?_, fun i c hi ho => ?_⟩
    · rcases hown' b ho with h3 | h3
      · exact hOO b h3
      · exact hown0 b (hev.own b hb h3)
    · rcases cases' i _ ho with ⟨h1, h0⟩ | ⟨j, o0, rfl, hj, h0, e0⟩
      · exact ⟨⟨m, cs, h0⟩, g3o i h1⟩
      · cases o0 <;> simp [shO] at e0
        obtain ⟨rfl, rfl, rfl⟩ := e0
        obtain ⟨⟨m0, c0, h1⟩, h2⟩ := hev.var j _ _ _ (by omega) h0
        exact ⟨⟨m0, _, hmid j _ h1⟩, by rw [g3m j hj]; exact h2⟩
    · rcases cases' i _ ho with ⟨h1, h0⟩ | ⟨j, o0, rfl, hj, h0, e0⟩
      · exact ⟨m, ver, ys, h0, Nat.le_refl _, fun _ => g3o i h1⟩
      · cases o0 <;> simp [shO] at e0
        obtain ⟨rfl, rfl, rfl, rfl, rfl⟩ := e0
        obtain ⟨m0, v0, x0, h1, h2, h3⟩ := hev.row j _ _ _ _ _ (by omega) h0
        exact ⟨m0, v0, x0, hmid j _ h1, h2, fun e => by rw [g3m j hj]; exact h3 e⟩
    · rcases cases' i _ ho with ⟨h1, h0⟩ | ⟨j, o0, rfl, hj, h0, e0⟩
      · exact ⟨⟨c, h0⟩, g3o i h1⟩
      · have := List.all_eq_true.1 hp' o0 (List.mem_of_getElem? h0)
        cases o0 <;> simp [shO] at e0
        simp [plainO] at this
  have hgood' : ∀ b, Good (fun b => G b ∧ ¬ OO b) s' g2 b → Good G big' g3 b := fun b ⟨⟨h1, h2⟩, h3⟩ => ⟨h1, fun h4 => (hown' b h4).elim h2 h3⟩
  have oldOO : ∀ i o b, (i < K ∨ K + n ≤ i) → big[i]? = some o → o.live = true → gb (g i) = some b → b < w.heap.size ∧ ¬ Own s (fun i => g (K + i)) b := fun i o b ho hi hl hb => by
    refine ⟨(hr.obj i o hi).lt hl hb, fun ⟨j, o', hj, hm, hg⟩ => ?_⟩
    have hjn : j < n := by rw [← hn]; exact (List.getElem?_eq_some_iff.1 hj).1
    have := hr.inj i (K + j) _ _ b hi (hmid j o' hj) hl (by rw [shO_live]; exact hlive hm) hb hg
    omega
  refine ⟨v, _, big', g3, rfl, ⟨x, s', hRx, rfl, hbig'.symm⟩, hxv.up hgood' (by omega) (fun i o hi => mid' i o (by omega)) (fun i hi => g3m i (by omega)), ⟨fun i o hi => ?_, fun i j o o' b hi hj l1 l2 b1 b2 => ?_, fun b hb => hr.new b (Nat.le_trans hev.size hb)⟩, hEvo⟩
  · rcases cases' i o hi with ⟨ho, h0⟩ | ⟨j, o0, rfl, hj, h0, rfl⟩
    · by_cases hl : o.live = true
      · exact (hr.obj i o h0).evo hEvo (g3o i ho) fun b hb => by
          obtain ⟨h1, h2⟩ := oldOO i o b ho h0 hl hb
          exact hev.heap b h1 h2
      · cases o <;> simp_all [AObj.live]
        trivial
    · exact (hsr'.obj j o0 h0).up hgood' (by omega) (fun i o hi => mid' i o (by omega)) (fun i hi => g3m i (by omega)) (by omega) (plain_noLp (List.all_eq_true.1 hp' o0 (List.mem_of_getElem? h0))) fun b hb => hb.1
  · have cross : ∀ i j o o0, (i < K ∨ K + n ≤ i) → big[i]? = some o → o.live = true → gb (g i) = some b → j < n → s'[j]? = some o0 → o0.live = true → gb (g2 j) = some b → False := fun i j o o0 ho hi hl hb hj h0 hl0 hb0 => by
      obtain ⟨h1, h2⟩ := oldOO i o b ho hi hl hb
      have hm := plain_mu (List.all_eq_true.1 hp' o0 (List.mem_of_getElem? h0)) hl0
      exact h2 (hev.own b h1 ⟨j, o0, h0, hm, hb0⟩)
    rcases cases' i o hi with ⟨ho, h0⟩ | ⟨p, o0, rfl, hp0, h0, rfl⟩ <;> rcases cases' j o' hj with ⟨ho', h0'⟩ | ⟨q, o0', rfl, hq0, h0', rfl⟩
    · rw [g3o i ho] at b1
      rw [g3o j ho'] at b2
      exact hr.inj i j o o' b h0 h0' l1 l2 b1 b2
    · rw [g3o i ho] at b1
      rw [g3m q hq0] at b2
      rw [shO_live] at l2
      exact (cross i q o o0' ho h0 l1 b1 hq0 h0' l2 b2).elim
    · rw [g3m p hp0] at b1
      rw [g3o j ho'] at b2
      rw [shO_live] at l1
      exact (cross j p o' o0 ho' h0' l2 b2 hp0 h0 l1 b1).elim
    · rw [g3m p hp0] at b1
      rw [g3m q hq0] at b2
      rw [shO_live] at l1 l2
      have := hsr'.inj p q o0 o0' b h0 h0' l1 l2 b1 b2
      omega
end Go.Proofs.Ytinehodamekjgaa.Aw

/- The abstract walk, part 36: calls by the frame rule. -/
set_option linter.unusedVariables false
set_option linter.unusedSimpArgs false
namespace Go.Proofs.Ytinehodamekjgaa.Aw
open Go Go.RowKit
section fc
variable {r : Option Nat} {P : Program} {ops : Array Oper} {i : Nat} {s0 : St}
/-- A call whose contract speaks of the n objects from K on. -/
theorem AOL.fcall {rest : List Nat} {Q : St → Prop} {x : Operand} {args : Array Operand} {ts : Array TypeId} {f : FuncId} {first cap : List AV} {xs : List AV} {s : List AObj} {R : AV → List AObj → Prop} (K : Nat) (hc : ACalls P f xs s R) (h : opAt ops i s0 = some (.call { callee := .value x, args := args, argTypes := ts })) (hf : s0.ev x = .fn (.func f) first cap)
    (e0 : (s0.st.take K).length = K) (e1 : first ++ args.toList.map s0.ev ++ cap = shVs K xs) (e2 : s0.st = s0.st.take K ++ (shOs K s ++ s0.st.drop (K + s.length))) (hp : s.all plainO = true) (hcl : s.all (closedO s.length) = true) (hx : closedBs s.length xs = true)
    (hR : ∀ x s', R x s' → s'.length = s.length ∧ s'.all plainO = true) (k : ∀ x s', R x s' → AOL r P ops rest (putS s0 (dstOf ops i) (shV K x) (s0.st.take K ++ (shOs K s' ++ s0.st.drop (K + s.length)))) Q) : AOL r P ops (i :: rest) s0 Q := by
  have hfr := hc.frame (s0.st.take K) (s0.st.drop (K + s.length)) hp hcl hx hR
  rw [e0, ← e2, ← e1] at hfr
  refine AOL.scall h hf hfr ?_
  rintro y st' ⟨x, s', h1, rfl, rfl⟩
  exact k x s' h1
theorem One.scall {x : Operand} {args : Array Operand} {ts : Array TypeId} {f : FuncId} {first cap : List AV} {y : AV} (h : opAt ops i s0 = some (.call { callee := .value x, args := args, argTypes := ts })) (hf : s0.ev x = .fn (.func f) first cap)
    (hc : ACalls P f (first ++ args.toList.map s0.ev ++ cap) s0.st (fun x st' => x = y ∧ st' = s0.st)) : One r P ops i s0 y s0.st := fun rest Q k => by
  refine AOL.scall h hf hc ?_
  rintro x st' ⟨rfl, rfl⟩
  exact k
/-- .. that reads alone. -/
theorem One.fcall {x : Operand} {args : Array Operand} {ts : Array TypeId} {f : FuncId} {first cap : List AV} {xs : List AV} {s : List AObj} {y : AV} (K : Nat) (hc : ACalls P f xs s (fun x s' => x = y ∧ s' = s)) (h : opAt ops i s0 = some (.call { callee := .value x, args := args, argTypes := ts })) (hf : s0.ev x = .fn (.func f) first cap)
    (e0 : (s0.st.take K).length = K) (e1 : first ++ args.toList.map s0.ev ++ cap = shVs K xs) (e2 : s0.st = s0.st.take K ++ (shOs K s ++ s0.st.drop (K + s.length))) (hp : s.all plainO = true) (hcl : s.all (closedO s.length) = true) (hx : closedBs s.length xs = true) : One r P ops i s0 (shV K y) s0.st := by
  have hfr := hc.frame (s0.st.take K) (s0.st.drop (K + s.length)) hp hcl hx (by rintro x s' ⟨rfl, rfl⟩; exact ⟨rfl, hp⟩)
  rw [e0, ← e2, ← e1] at hfr
  refine One.scall h hf (hfr.mono ?_)
  rintro z st' ⟨x, s', ⟨rfl, rfl⟩, rfl, rfl⟩
  exact ⟨rfl, e2.symm⟩
end fc
end Go.Proofs.Ytinehodamekjgaa.Aw

/- The abstract walk, part 37: what comes next in a region, told by one computation. -/
set_option linter.unusedVariables false
set_option linter.unusedSimpArgs false
namespace Go.Proofs.Ytinehodamekjgaa.Aw
open Go Go.RowKit
inductive Ev where
  | done
  | guard (j : Nat) (b : Bool)
  | call (f : FuncId) (p : List PV)
  | callO (f : FuncId) (p : List PV) (c : List (Nat × Nat))
  | callS (f : FuncId) (xs : List AV)
  | one (k : Nat)
  | stop
  | stuck
/-- Is the guard known: it stands on the list of those that were looked at, or its slot was skipped? -/
def hint (ops : Array Oper) (G : List Nat) (s : St) (o : Oper) : Bool := match o.guard with
  | none => true
  | some (j, _) => match G.any (Nat.beq j) with
    | true => true
    | false => match ops[j]? with
      | some p => match p.dst with
        | some d => match s.get d with
          | .tup _ => true
          | _ => false
        | none => false
      | none => false
def stops (D : List Nat) (o : Oper) : Bool := match o.dst with
  | some d => D.any (Nat.beq d)
  | none => false
def advH (A : Ar) (tab : List TI) (ops : Array Oper) (D G : List Nat) : List Nat → St → List Nat × St
  | [], s => ([], s)
  | i :: rest, s => match ops[i]? with
    | some o => match hint ops G s o && !stops D o with
      | true => match gd ops s o.guard with
        | some true => match ev1 A tab s o.op with
          | some (x, st') => match dstOk s o.dst with
            | true => advH A tab ops D G rest (putS s o.dst x st')
            | false => (i :: rest, s)
          | none => (i :: rest, s)
        | some false => match dstOk s o.dst with
          | true => advH A tab ops D G rest (putS s o.dst (.tup []) s.st)
          | false => (i :: rest, s)
        | none => (i :: rest, s)
      | false => (i :: rest, s)
    | none => (i :: rest, s)
def bopK : BinOp → Nat
  | .quo => 3
  | .rem => 4
  | .shr => 5
  | .shl => 20
  | .add => 7
  | .eql => 8
  | .neq => 9
  | .and => 6
  | .or => 6
  | .xor => 6
  | _ => 21
def bltK : Builtin → Nat
  | .len => 10
  | .append => 11
  | .copy => 12
  | _ => 22
def opEv (s : St) : Op → Ev
  | .call c => match c.callee with
    | .value x => match s.ev x with
      | .fn (.func f) first cap => match toPVs false s.st (first ++ c.args.toList.map s.ev ++ cap) with
        | some p => .call f p
        | none => match toPVsO true s.st (first ++ c.args.toList.map s.ev ++ cap) with
          | some (p, q) => .callO f p q
          | none => .callS f (first ++ c.args.toList.map s.ev ++ cap)
      | _ => .stuck
    | .builtin b => .one (bltK b)
    | _ => .stuck
  | .indexAddr _ _ _ => .one 1
  | .slice _ _ _ _ _ => .one 2
  | .binOp op _ _ _ _ => .one (bopK op)
  | .index _ _ _ => .one 13
  | .load _ _ => .one 14
  | .store _ _ _ => .one 15
  | .makeSlice _ _ _ => .one 16
  | .buildSlice _ _ _ => .one 17
  | .fieldAddr _ _ _ => .one 18
  | .lookup _ _ _ _ => .one 23
  | .convert _ _ _ => .one 24
  | .nilCheck _ => .one 25
  | .makeMap _ _ => .one 26
  | .mapUpdate _ _ _ _ => .one 27
  | .insert _ _ _ _ => .one 28
  | .field _ _ _ => .one 29
  | .unOp _ _ _ => .one 30
  | _ => .stuck
/-- What comes next, at state t (of which the operation is told), behind state s. -/
def evOf (D G : List Nat) (ops : Array Oper) (l : List Nat) (s : St) : Ev := match l with
  | [] => .done
  | i :: _ => match ops[i]? with
    | none => .stuck
    | some o => match hint ops G s o with
      | false => match gdv ops s i with
        | some b => match o.guard with
          | some (j, _) => .guard j b
          | none => .stuck
        | none => .stuck
      | true => match stops D o with
        | true => .stop
        | false => match opAt ops i s with
          | some op => opEv s op
          | none => .stuck
def nxt (A : Ar) (tab : List TI) (ops : Array Oper) (D G : List Nat) (l : List Nat) (s : St) : List Nat × St × Ev := match advH A tab ops D G l s with
  | (l', s') => (l', s', evOf D G ops l' s')
def AOLg (D G : List Nat) (r : Option Nat) (P : Program) (ops : Array Oper) (l : List Nat) (s : St) (Q : St → Prop) : Prop := AOL r P ops l s Q
def NX (D G : List Nat) (r : Option Nat) (P : Program) (ops : Array Oper) (l : List Nat) (s : St) (Q : St → Prop) (ev : Ev) : Prop := evOf D G ops l s = ev → AOL r P ops l s Q
section nx
variable {r : Option Nat} {P : Program} {A : Ar} {tab : List TI} {ops : Array Oper} {D G : List Nat} {Q : St → Prop}
theorem AOL.advH (hA : A = real) (hT : TabOk P tab) : ∀ (l : List Nat) (s : St), AOL r P ops (Aw.advH A tab ops D G l s).1 (Aw.advH A tab ops D G l s).2 Q → AOL r P ops l s Q
  | [], s, h => h
  | i :: rest, s, h => by
    simp only [Aw.advH] at h
    cases ho : ops[i]? with
    | none => simp only [ho] at h; exact h
    | some o =>
      simp only [ho] at h
      cases hh : (hint ops G s o && !stops D o) with
      | false => simp only [hh] at h; exact h
      | true =>
        simp only [hh] at h
        cases hg : gd ops s o.guard with
        | none => simp only [hg] at h; exact h
        | some b =>
          cases b with
          | true =>
            simp only [hg] at h
            cases he : ev1 A tab s o.op with
            | none => simp only [he] at h; exact h
            | some p =>
              obtain ⟨x, st'⟩ := p
              simp only [he] at h
              cases hd : dstOk s o.dst with
              | false => simp only [hd] at h; exact h
              | true =>
                simp only [hd] at h
                exact AOL.step ho hg hd (ev1_nd he) (ev1_mem hA hT he) (AOL.advH hA hT rest _ h)
          | false =>
            simp only [hg] at h
            cases hd : dstOk s o.dst with
            | false => simp only [hd] at h; exact h
            | true =>
              simp only [hd] at h
              exact AOL.skip ho hg hd (AOL.advH hA hT rest _ h)
theorem AOLg.nx (hA : A = real) (hT : TabOk P tab) {l l' : List Nat} {s s' : St} {ev : Ev} (h : nxt A tab ops D G l s = (l', s', ev)) (k : NX D G r P ops l' s' Q ev) : AOLg D G r P ops l s Q := by
  simp only [nxt, Prod.mk.injEq] at h
  obtain ⟨h1, h2, h3⟩ := h
  refine AOL.advH hA hT (D := D) (G := G) l s ?_
  rw [h1, h2]
  rw [h1, h2] at h3
  exact k h3
theorem AOLg.of (D : List Nat) {l : List Nat} {s : St} (k : AOLg D [] r P ops l s Q) : AOL r P ops l s Q := k
theorem AOLg.pass {l : List Nat} {s : St} (k : AOLg D G r P ops l s Q) : AOLg D G r P ops l s Q := k
theorem NX.done {s : St} (h : Q s) : NX D G r P ops [] s Q .done := fun _ => AOL.nil h
theorem NX.gt {j : Nat} {l : List Nat} {s : St} (k : AOLg D (j :: G) r P ops l s Q) : NX D G r P ops l s Q (.guard j true) := fun _ => k
theorem NX.gf {j : Nat} {l : List Nat} {s : St} (k : AOLg D (j :: G) r P ops l s Q) : NX D G r P ops l s Q (.guard j false) := fun _ => k
theorem NX.gs {j : Nat} {b : Bool} {l : List Nat} {s : St} (h1 : b = true → AOLg D (j :: G) r P ops l s Q) (h2 : b = false → AOLg D (j :: G) r P ops l s Q) : NX D G r P ops l s Q (.guard j b) := fun _ => by
  cases b with
  | true => exact h1 rfl
  | false => exact h2 rfl
theorem opEv_call {s : St} {op : Op} {f : FuncId} {p : List PV} (h : opEv s op = .call f p) : ∃ x args ts first cap, op = .call { callee := .value x, args := args, argTypes := ts } ∧ s.ev x = .fn (.func f) first cap ∧ toPVs false s.st (first ++ args.toList.map s.ev ++ cap) = some p := by
  unfold opEv at h
  split at h <;> try (simp at h; done)
  rename_i c
  split at h <;> try (simp at h; done)
  rename_i x hx
  split at h <;> try (simp at h; done)
  rename_i f' first cap hf
  split at h
  · rename_i p' hp
    simp only [Ev.call.injEq] at h
    obtain ⟨rfl, rfl⟩ := h
    exact ⟨x, c.args, c.argTypes, first, cap, by cases c; simp_all, hf, hp⟩
  · split at h <;> simp at h
theorem opEv_callO {s : St} {op : Op} {f : FuncId} {p : List PV} {q : List (Nat × Nat)} (h : opEv s op = .callO f p q) : ∃ x args ts first cap, op = .call { callee := .value x, args := args, argTypes := ts } ∧ s.ev x = .fn (.func f) first cap ∧ toPVsO true s.st (first ++ args.toList.map s.ev ++ cap) = some (p, q) := by
  unfold opEv at h
  split at h <;> try (simp at h; done)
  rename_i c
  split at h <;> try (simp at h; done)
  rename_i x hx
  split at h <;> try (simp at h; done)
  rename_i f' first cap hf
  split at h
  · simp at h
  · split at h
    · rename_i p' q' hp
      simp only [Ev.callO.injEq] at h
      obtain ⟨rfl, rfl, rfl⟩ := h
      exact ⟨x, c.args, c.argTypes, first, cap, by cases c; simp_all, hf, hp⟩
    · simp at h
theorem opEv_callS {s : St} {op : Op} {f : FuncId} {xs : List AV} (h : opEv s op = .callS f xs) : ∃ x args ts first cap, op = .call { callee := .value x, args := args, argTypes := ts } ∧ s.ev x = .fn (.func f) first cap ∧ first ++ args.toList.map s.ev ++ cap = xs := by
  unfold opEv at h
  split at h <;> try (simp at h; done)
  rename_i c
  split at h <;> try (simp at h; done)
  rename_i x hx
  split at h <;> try (simp at h; done)
  rename_i f' first cap hf
  split at h
  · simp at h
  · split at h
    · simp at h
    · simp only [Ev.callS.injEq] at h
      obtain ⟨rfl, rfl⟩ := h
      exact ⟨x, c.args, c.argTypes, first, cap, by cases c; simp_all, hf, rfl⟩
theorem evOf_op {l : List Nat} {i : Nat} {s : St} {ev : Ev} (h : evOf D G ops (i :: l) s = ev) (h1 : ∀ j b, ev ≠ .guard j b) (h2 : ev ≠ .stuck) (h3 : ev ≠ .stop) : ∃ op, opAt ops i s = some op ∧ opEv s op = ev := by
  unfold evOf at h
  simp only [] at h
  repeat' split at h
  all_goals first
    | (exfalso; exact h2 h.symm)
    | (exfalso; exact h3 h.symm)
    | (exfalso; exact h1 _ _ h.symm)
    | exact ⟨_, by assumption, h⟩
theorem NX.call {i : Nat} {rest : List Nat} {s : St} {f : FuncId} {p : List PV} {y : PV} (hc : PureCalls P f p y) (k : AOLg D G r P ops rest (putS s (dstOf ops i) y.av s.st) Q) : NX D G r P ops (i :: rest) s Q (.call f p) := fun h => by
  obtain ⟨op, h1, h2⟩ := evOf_op h (by simp) (by simp) (by simp)
  obtain ⟨x, args, ts, first, cap, rfl, h3, h4⟩ := opEv_call h2
  exact One.call false h1 h3 h4 hc rfl _ _ k
theorem NX.callO {i : Nat} {rest : List Nat} {s : St} {f : FuncId} {p : List PV} {q : List (Nat × Nat)} {y : PV} (hc : PureCalls P f p y) (hq : allEq q) (hn : noSl y = true) (k : AOLg D G r P ops rest (putS s (dstOf ops i) y.av s.st) Q) : NX D G r P ops (i :: rest) s Q (.callO f p q) := fun h => by
  obtain ⟨op, h1, h2⟩ := evOf_op h (by simp) (by simp) (by simp)
  obtain ⟨x, args, ts, first, cap, rfl, h3, h4⟩ := opEv_callO h2
  exact One.callO true h1 h3 h4 hc (by simpa using hn) hq _ _ k
/-- A call in the store. -/
theorem NX.callS {i : Nat} {rest : List Nat} {s : St} {f : FuncId} {xs : List AV} {R : AV → List AObj → Prop} (hc : ACalls P f xs s.st R) (k : ∀ y st', R y st' → AOLg D G r P ops rest (putS s (dstOf ops i) y st') Q) : NX D G r P ops (i :: rest) s Q (.callS f xs) := fun h => by
  obtain ⟨op, h1, h2⟩ := evOf_op h (by simp) (by simp) (by simp)
  obtain ⟨x, args, ts, first, cap, rfl, h3, rfl⟩ := opEv_callS h2
  exact AOL.scall h1 h3 hc k
theorem NX.one {ev : Ev} {i : Nat} {rest : List Nat} {s : St} {x : AV} {st' : List AObj} (h : One r P ops i s x st') (k : AOLg D G r P ops rest (putS s (dstOf ops i) x st') Q) : NX D G r P ops (i :: rest) s Q ev := fun _ => h rest Q k
theorem NX.raw {ev : Ev} {l : List Nat} {s : St} (h : AOL r P ops l s Q) : NX D G r P ops l s Q ev := fun _ => h
/-- The event's number, told. -/
theorem NX.k (n : Nat) {l : List Nat} {s : St} (h : NX D G r P ops l s Q (.one n)) : NX D G r P ops l s Q (.one n) := h
theorem NX.kS {l : List Nat} {s : St} (h : NX D G r P ops l s Q .stop) : NX D G r P ops l s Q .stop := h
theorem NX.kC {f : FuncId} {p : List PV} {l : List Nat} {s : St} (h : NX D G r P ops l s Q (.call f p)) : NX D G r P ops l s Q (.call f p) := h
theorem NX.kO {f : FuncId} {p : List PV} {q : List (Nat × Nat)} {l : List Nat} {s : St} (h : NX D G r P ops l s Q (.callO f p q)) : NX D G r P ops l s Q (.callO f p q) := h
theorem NX.kV {f : FuncId} {p : List AV} {l : List Nat} {s : St} (h : NX D G r P ops l s Q (.callS f p)) : NX D G r P ops l s Q (.callS f p) := h
theorem AWp.regG (D : List Nat) {id : Nat} {s : St} {Q : Exit → St → Prop} {l : List Nat} (hl : List.range ops.size = l) (h : AOLg D [] r P ops l s (Q .normal)) : AWp r P (.region id ops false) s Q := by
  subst hl
  exact AWp.region h
end nx
section qnx
variable {P : Program} {A : Ar} {tab : List TI} {ops : Array Oper} {D G : List Nat} {Q : St → Prop}
def qadvH (A : Ar) (tab : List TI) (ops : Array Oper) (D G : List Nat) : List Nat → St → List Nat × St
  | [], s => ([], s)
  | i :: rest, s => match ops[i]? with
    | some o => match hint ops G (lookS ops i s) o && !stops D o with
      | true => match o.dst with
        | some d => match gd ops (lookS ops i s) o.guard with
          | some true => match ev1 A tab (lookS ops i s) o.op with
            | some (x, _) => match stillOp o.op && dstOk (lookS ops i s) o.dst with
              | true => qadvH A tab ops D G rest ⟨s.nt, (d, x) :: s.env, s.st⟩
              | false => (i :: rest, s)
            | none => (i :: rest, s)
          | some false => match dstOk (lookS ops i s) o.dst with
            | true => qadvH A tab ops D G rest ⟨s.nt, (d, .tup []) :: s.env, s.st⟩
            | false => (i :: rest, s)
          | none => (i :: rest, s)
        | none => (i :: rest, s)
      | false => (i :: rest, s)
    | none => (i :: rest, s)
def qevOf (D G : List Nat) (ops : Array Oper) (l : List Nat) (s : St) : Ev := match l with
  | [] => .done
  | i :: _ => evOf D G ops l (lookS ops i s)
def qnxt (A : Ar) (tab : List TI) (ops : Array Oper) (D G : List Nat) (l : List Nat) (s : St) : List Nat × St × Ev := match qadvH A tab ops D G l s with
  | (l', s') => (l', s', qevOf D G ops l' s')
def QSg (D G : List Nat) (P : Program) (ops : Array Oper) (l : List Nat) (s : St) (Q : St → Prop) : Prop := QS P ops l s Q
def QX (D G : List Nat) (P : Program) (ops : Array Oper) (l : List Nat) (s : St) (Q : St → Prop) (ev : Ev) : Prop := qevOf D G ops l s = ev → QS P ops l s Q
theorem QS.advH (hA : A = real) (hT : TabOk P tab) : ∀ (l : List Nat) (s : St), QS P ops (qadvH A tab ops D G l s).1 (qadvH A tab ops D G l s).2 Q → QS P ops l s Q
  | [], s, h => h
  | i :: rest, s, h => by
    simp only [qadvH] at h
    cases ho : ops[i]? with
    | none => simp only [ho] at h; exact h
    | some o =>
      simp only [ho] at h
      cases hh : (hint ops G (lookS ops i s) o && !stops D o) with
      | false => simp only [hh] at h; exact h
      | true =>
        simp only [hh] at h
        cases hd : o.dst with
        | none => simp only [hd] at h; exact h
        | some d =>
          simp only [hd] at h
          have hdo : dstOf ops i = some d := by simp [dstOf, ho, hd]
          cases hg : gd ops (lookS ops i s) o.guard with
          | none => simp only [hg] at h; exact h
          | some b =>
            cases b with
            | true =>
              simp only [hg] at h
              cases he : ev1 A tab (lookS ops i s) o.op with
              | none => simp only [he] at h; exact h
              | some p =>
                obtain ⟨x, st'⟩ := p
                simp only [he] at h
                cases hc : (stillOp o.op && dstOk (lookS ops i s) (some d)) with
                | false => simp only [hc] at h; exact h
                | true =>
                  simp only [hc] at h
                  simp only [Bool.and_eq_true] at hc
                  have hst := ev1_still he hc.1
                  rw [lookS_st] at hst
                  subst hst
                  refine ⟨d, x, hdo, fun rest' Q' k => ?_, QS.advH hA hT rest _ h⟩
                  refine AOL.step ho hg (by rw [hd]; exact hc.2) (ev1_nd he) (ev1_mem hA hT he) ?_
                  rw [hdo, ← hd] at k
                  exact k
            | false =>
              simp only [hg] at h
              cases hc : dstOk (lookS ops i s) (some d) with
              | false => simp only [hc] at h; exact h
              | true =>
                simp only [hc] at h
                refine ⟨d, .tup [], hdo, fun rest' Q' k => ?_, QS.advH hA hT rest _ h⟩
                refine AOL.skip ho hg (by rw [hd]; exact hc) ?_
                rw [hdo, ← lookS_st ops i s, ← hd] at k
                exact k
theorem QSg.nx (hA : A = real) (hT : TabOk P tab) {l l' : List Nat} {s s' : St} {ev : Ev} (h : qnxt A tab ops D G l s = (l', s', ev)) (k : QX D G P ops l' s' Q ev) : QSg D G P ops l s Q := by
  simp only [qnxt, Prod.mk.injEq] at h
  obtain ⟨h1, h2, h3⟩ := h
  refine QS.advH hA hT (D := D) (G := G) l s ?_
  rw [h1, h2]
  rw [h1, h2] at h3
  exact k h3
theorem QSg.of (D : List Nat) {l : List Nat} {s : St} (k : QSg D [] P ops l s Q) : QS P ops l s Q := k
theorem QSg.pass {l : List Nat} {s : St} (k : QSg D G P ops l s Q) : QSg D G P ops l s Q := k
theorem QX.done {s : St} (h : Q s) : QX D G P ops [] s Q .done := fun _ => h
theorem QX.gt {j : Nat} {l : List Nat} {s : St} (k : QSg D (j :: G) P ops l s Q) : QX D G P ops l s Q (.guard j true) := fun _ => k
theorem QX.gf {j : Nat} {l : List Nat} {s : St} (k : QSg D (j :: G) P ops l s Q) : QX D G P ops l s Q (.guard j false) := fun _ => k
theorem QX.gs {j : Nat} {b : Bool} {l : List Nat} {s : St} (h1 : b = true → QSg D (j :: G) P ops l s Q) (h2 : b = false → QSg D (j :: G) P ops l s Q) : QX D G P ops l s Q (.guard j b) := fun _ => by
  cases b with
  | true => exact h1 rfl
  | false => exact h2 rfl
theorem QX.one {ev : Ev} {i : Nat} {rest : List Nat} {s : St} {d : Nat} {x : AV} (hd : dstOf ops i = some d) (h : One none P ops i (lookS ops i s) x s.st) (k : QSg D G P ops rest ⟨s.nt, (d, x) :: s.env, s.st⟩ Q) : QX D G P ops (i :: rest) s Q ev := fun _ => ⟨d, x, hd, h, k⟩
theorem QX.call {i : Nat} {rest : List Nat} {s : St} {d : Nat} {f : FuncId} {p : List PV} {y : PV} (hc : PureCalls P f p y) (hd : dstOf ops i = some d) (k : QSg D G P ops rest ⟨s.nt, (d, y.av) :: s.env, s.st⟩ Q) : QX D G P ops (i :: rest) s Q (.call f p) := fun h => by
  obtain ⟨op, h1, h2⟩ := evOf_op (l := rest) (i := i) h (by simp) (by simp) (by simp)
  obtain ⟨x, args, ts, first, cap, rfl, h3, h4⟩ := opEv_call h2
  have := One.call (r := none) false h1 h3 h4 hc rfl
  rw [lookS_st] at this
  exact ⟨d, _, hd, this, k⟩
theorem QX.callO {i : Nat} {rest : List Nat} {s : St} {d : Nat} {f : FuncId} {p : List PV} {q : List (Nat × Nat)} {y : PV} (hc : PureCalls P f p y) (hd : dstOf ops i = some d) (hq : allEq q) (hn : noSl y = true) (k : QSg D G P ops rest ⟨s.nt, (d, y.av) :: s.env, s.st⟩ Q) : QX D G P ops (i :: rest) s Q (.callO f p q) := fun h => by
  obtain ⟨op, h1, h2⟩ := evOf_op (l := rest) (i := i) h (by simp) (by simp) (by simp)
  obtain ⟨x, args, ts, first, cap, rfl, h3, h4⟩ := opEv_callO h2
  have := One.callO (r := none) true h1 h3 h4 hc (by simpa using hn) hq
  rw [lookS_st] at this
  exact ⟨d, _, hd, this, k⟩
theorem QX.raw {ev : Ev} {l : List Nat} {s : St} (h : QS P ops l s Q) : QX D G P ops l s Q ev := fun _ => h
theorem QX.k (n : Nat) {l : List Nat} {s : St} (h : QX D G P ops l s Q (.one n)) : QX D G P ops l s Q (.one n) := h
theorem QX.kS {l : List Nat} {s : St} (h : QX D G P ops l s Q .stop) : QX D G P ops l s Q .stop := h
theorem QX.kC {f : FuncId} {p : List PV} {l : List Nat} {s : St} (h : QX D G P ops l s Q (.call f p)) : QX D G P ops l s Q (.call f p) := h
theorem QX.kO {f : FuncId} {p : List PV} {q : List (Nat × Nat)} {l : List Nat} {s : St} (h : QX D G P ops l s Q (.callO f p q)) : QX D G P ops l s Q (.callO f p q) := h
theorem QX.kV {f : FuncId} {p : List AV} {l : List Nat} {s : St} (h : QX D G P ops l s Q (.callS f p)) : QX D G P ops l s Q (.callS f p) := h
end qnx
/-! ### contracts up to rows of nothing -/
theorem ILe.nilM {A : Ar} (hA : A = real) {α : Type} (f : α → List IC) (sz sz' : Nat) (ex : Bool) : ILe (.sl sz ex []) (.sl sz' false (A (.hid _) fun _ => List.map f [])) := by
  rw [rhid hA]
  exact .nil _ _ _
theorem AWp.drawKG (D : List Nat) {r : Option Nat} {P : Program} {ops : Array Oper} {id : Nat} {s : St} {Q : Exit → St → Prop} (d : Nat) {l1 l2 : List Nat} (hm : P.follows .mixedOrders = true) (hb : (drawB ops (ops.size - d) && ops.toList.all (fun o => notDefer o.op)) = true) (h1 : List.range (ops.size - d) = l1) (h2 : (List.range (ops.size - (ops.size - d))).map ((ops.size - d) + ·) = l2)
    (h : QSg D [] P ops l1 s fun T => AOLg D [] r P ops l2 T (Q .normal)) : AWp r P (.region id ops true) s Q := AWp.drawK d hm hb h1 h2 h
/-- A cast that the evaluator has opened, closed again. -/
theorem zn : ∀ n : Nat, @NatCast.natCast Int instNatCastInt n = cN n := fun _ => rfl
theorem zy : (∀ a b : Bool, ((a == b) = true) = ((a = true) ↔ (b = true))) ∧ (∀ a b : Bool, ((a == b) = false) = ¬ ((a = true) ↔ (b = true))) ∧ (∀ b : Bool, (b == true) = b) ∧ (∀ b : Bool, (b == false) = !b) :=
  ⟨by decide, by decide, by decide, by decide⟩
end Go.Proofs.Ytinehodamekjgaa.Aw

/- Contracts of package uf, part 1: the order, the first one of a class. -/
set_option linter.unusedVariables false
set_option linter.unusedSimpArgs false
namespace Go.Proofs.Ytinehodamekjgaa.Aw
open Go Go.RowKit
set_option maxRecDepth 10000
attribute [local irreducible] AWp AOL QS One AOLg QSg NX QX
def rankM (ranks : List Int) (z : Int) : Int := if z < 0 ∨ ranks.length ≤ z then 0 else ranks.getD z.toNat default
def lessM (ranks : List Int) (a b : Int) : Bool := decide (rankM ranks a < rankM ranks b) || (decide (rankM ranks a = rankM ranks b) && decide (a < b))
def encN (n : Int × Int) : List IC := [.lit (.int .i64 n.1), .lit (.int .i64 n.2)]
abbrev clP (A : Ar) (V : List Int) (N : List (Int × Int)) (M : List Int) : PV := .agg [.sl 1 false (hid A (List.map encI V)), .sl 2 false (hid A (List.map encN N)), .sl 1 false (hid A (List.map encI M))]
theorem clP_eq {A : Ar} (hA : A = real) (c : Cl) : clP A c.V c.N c.M = c.pv := by
  simp only [clP, hid_eq hA]; rfl
variable {A : Ar} (hA : A = real)
include hA
theorem rank_c (ranks : List Int) (z : Int) (hr : ranks.length ≤ 1000000) : ACalls Try.prog 49 [.ic (.lit (.int .i64 z)), .ptr 0 0] [.var true 22 [.ic (.sl 1 false (hid A (List.map encI ranks)))]]
    (fun x s' => x = .ic (.lit (.int .i64 (hid A (rankM ranks z)))) ∧ s' = [.var true 22 [.ic (.sl 1 false (hid A (List.map encI ranks)))]]) := by
  refine ACalls.of Try.func49 rfl (by kernel_rfl) rfl ?_
  try first | refine AOLg.of [] ?_ | refine QSg.of [] ?_
  repeat' (first
    | (refine AWp.pass ?_; first
        | refine AWp.seq ?_
        | refine AWp.block ?_
        | refine AWp.skip ?_
        | refine AWp.regG [] (by conv => lhs; cbv) ?_
        | refine AWp.cond_t rfl ?_
        | refine AWp.cond_f rfl ?_
        | (refine AWp.cond rfl ?_ ?_ <;> intro hc <;> (try rw [hc]) <;> ((try simp only [zn] at hc) <;> (try simp (disch := omega) only [zz hA, zb, zy, reduceCtorEq, Bool.false_eq_true, Int.reduceLT, Int.reduceLE, Int.reduceNeg] at hc) <;> (try simp only [zw] at hc)) <;> (try (exfalso; omega)))
        | refine AWp.exit ?_
        | refine AWp.ret ⟨.inr rfl, _, RetOk.ev tabOk (by conv => lhs; cbv), ?_⟩
        | refine AWp.drawKG [] 0 rfl (by decide +kernel) (by conv => lhs; cbv) (by conv => lhs; cbv) ?_
        | refine AWp.drawKG [] 1 rfl (by decide +kernel) (by conv => lhs; cbv) (by conv => lhs; cbv) ?_
        | refine AWp.drawKG [] 2 rfl (by decide +kernel) (by conv => lhs; cbv) (by conv => lhs; cbv) ?_
        | refine AWp.drawKG [] 3 rfl (by decide +kernel) (by conv => lhs; cbv) (by conv => lhs; cbv) ?_
        | refine AWp.drawKG [] 4 rfl (by decide +kernel) (by conv => lhs; cbv) (by conv => lhs; cbv) ?_
        | refine AWp.drawKG [] 5 rfl (by decide +kernel) (by conv => lhs; cbv) (by conv => lhs; cbv) ?_
        | refine AWp.drawKG [] 6 rfl (by decide +kernel) (by conv => lhs; cbv) (by conv => lhs; cbv) ?_
        | refine AWp.drawKG [] 8 rfl (by decide +kernel) (by conv => lhs; cbv) (by conv => lhs; cbv) ?_)
    | (refine AOLg.pass ?_; refine AOLg.nx hA tabOk (by conv => lhs; cbv) ?_; first
        | refine NX.done ?_
        | refine NX.gt ?_
        | refine NX.gf ?_
        | (refine NX.gs ?_ ?_ <;> intro hc <;> rw [hc] <;> ((try simp only [zn] at hc) <;> (try simp (disch := omega) only [zz hA, zb, zy, reduceCtorEq, Bool.false_eq_true, Int.reduceLT, Int.reduceLE, Int.reduceNeg] at hc) <;> (try simp only [zw] at hc)) <;> (try (exfalso; omega)))
        | ((first | (refine NX.k 1 ?_; first | refine NX.one (One.elemM hA tabOk rfl rfl rfl rfl ?_ ?_) ?_ | refine NX.one (One.elemOwnM hA tabOk rfl rfl rfl rfl rfl ?_ ?_) ?_) | (refine NX.k 2 ?_; first | refine NX.one (One.clipM tabOk rfl rfl rfl rfl rfl ?_ ?_) ?_ | refine NX.one (One.cut_hM hA tabOk rfl rfl rfl rfl ?_ ?_) ?_ | refine NX.one (One.cut_lM hA tabOk rfl rfl rfl rfl ?_ ?_) ?_ | refine NX.one (One.cut_lhM hA tabOk rfl rfl rfl rfl rfl ?_ ?_ ?_) ?_) | (refine NX.k 3 ?_; first | refine NX.one (One.quoM hA rfl rfl rfl ?_) ?_) | (refine NX.k 4 ?_; first | refine NX.one (One.remM hA rfl rfl rfl ?_) ?_) | (refine NX.k 5 ?_; first | refine NX.one (One.shrM hA rfl rfl rfl ?_) ?_) | (refine NX.k 6 ?_; first | refine NX.one (One.bitsM hA rfl rfl rfl rfl) ?_) | (refine NX.k 7 ?_; first | refine NX.one (One.concatM hA rfl rfl rfl ?_) ?_) | (refine NX.k 8 ?_; first | refine NX.one (One.eqBoolM hA tabOk rfl rfl rfl rfl rfl) ?_) | (refine NX.k 9 ?_; first | refine NX.one (One.neBoolM hA tabOk rfl rfl rfl rfl rfl) ?_) | (refine NX.k 10 ?_; first | refine NX.one (One.lenOwnM hA tabOk rfl rfl rfl rfl) ?_) | (refine NX.k 11 ?_; first | refine NX.one (One.appendM hA tabOk _ rfl rfl rfl rfl rfl rfl ?_ ?_) ?_ | refine NX.one (One.appendMM hA tabOk rfl rfl rfl rfl rfl ?_ ?_) ?_ | refine NX.one (One.appendOwnM hA tabOk _ rfl rfl rfl rfl rfl rfl rfl ?_ ?_) ?_ | refine NX.one (One.appendOwnMM hA tabOk rfl rfl rfl rfl rfl rfl ?_ ?_) ?_ | refine NX.one (One.appendOwn0 hA tabOk rfl rfl rfl rfl rfl rfl ?_ ?_) ?_) | (refine NX.k 13 ?_; first | refine NX.one (One.byteM hA tabOk rfl rfl rfl rfl rfl ?_ ?_) ?_) | (refine NX.k 14 ?_; first | refine NX.one (One.loadRatM hA tabOk rfl rfl rfl rfl rfl rfl ?_) ?_) | (refine NX.k 15 ?_; first | refine NX.one (One.storeRatM hA tabOk _ rfl rfl rfl rfl rfl rfl rfl rfl (fun _ => rfl) ?_) ?_) | (refine NX.k 16 ?_; first | refine NX.one (One.makeM hA tabOk encI 0 rfl rfl rfl rfl rfl rfl rfl ?_ ?_ ?_) ?_) | (refine NX.k 17 ?_; first | refine NX.one (One.build0 tabOk rfl rfl) ?_) | (refine NX.k 18 ?_; first | refine NX.one (One.fieldRat tabOk rfl rfl rfl rfl (by decide) rfl rfl) ?_)) <;> (first | refine AOLg.pass ?_ | (((try simp only [zn]) <;> (try simp (disch := omega) only [zz hA, zb, zy, reduceCtorEq, Bool.false_eq_true, Int.reduceLT, Int.reduceLE, Int.reduceNeg]) <;> (try simp only [zw])) <;> omega)))
        | refine NX.raw ?_)
    | (refine QSg.pass ?_; refine QSg.nx hA tabOk (by conv => lhs; cbv) ?_; first
        | refine QX.done ?_
        | refine QX.gt ?_
        | refine QX.gf ?_
        | (refine QX.gs ?_ ?_ <;> intro hc <;> rw [hc] <;> ((try simp only [zn] at hc) <;> (try simp (disch := omega) only [zz hA, zb, zy, reduceCtorEq, Bool.false_eq_true, Int.reduceLT, Int.reduceLE, Int.reduceNeg] at hc) <;> (try simp only [zw] at hc)) <;> (try (exfalso; omega)))
        | ((first | (refine QX.k 1 ?_; first | refine QX.one rfl (One.elemM hA tabOk rfl rfl rfl rfl ?_ ?_) ?_ | refine QX.one rfl (One.elemOwnM hA tabOk rfl rfl rfl rfl rfl ?_ ?_) ?_) | (refine QX.k 2 ?_; first | refine QX.one rfl (One.clipM tabOk rfl rfl rfl rfl rfl ?_ ?_) ?_ | refine QX.one rfl (One.cut_hM hA tabOk rfl rfl rfl rfl ?_ ?_) ?_ | refine QX.one rfl (One.cut_lM hA tabOk rfl rfl rfl rfl ?_ ?_) ?_ | refine QX.one rfl (One.cut_lhM hA tabOk rfl rfl rfl rfl rfl ?_ ?_ ?_) ?_) | (refine QX.k 3 ?_; first | refine QX.one rfl (One.quoM hA rfl rfl rfl ?_) ?_) | (refine QX.k 4 ?_; first | refine QX.one rfl (One.remM hA rfl rfl rfl ?_) ?_) | (refine QX.k 5 ?_; first | refine QX.one rfl (One.shrM hA rfl rfl rfl ?_) ?_) | (refine QX.k 6 ?_; first | refine QX.one rfl (One.bitsM hA rfl rfl rfl rfl) ?_) | (refine QX.k 7 ?_; first | refine QX.one rfl (One.concatM hA rfl rfl rfl ?_) ?_) | (refine QX.k 8 ?_; first | refine QX.one rfl (One.eqBoolM hA tabOk rfl rfl rfl rfl rfl) ?_) | (refine QX.k 9 ?_; first | refine QX.one rfl (One.neBoolM hA tabOk rfl rfl rfl rfl rfl) ?_) | (refine QX.k 10 ?_; first | refine QX.one rfl (One.lenOwnM hA tabOk rfl rfl rfl rfl) ?_) | (refine QX.k 11 ?_; first | refine QX.one rfl (One.appendM hA tabOk _ rfl rfl rfl rfl rfl rfl ?_ ?_) ?_ | refine QX.one rfl (One.appendMM hA tabOk rfl rfl rfl rfl rfl ?_ ?_) ?_ | refine QX.one rfl (One.appendOwnM hA tabOk _ rfl rfl rfl rfl rfl rfl rfl ?_ ?_) ?_ | refine QX.one rfl (One.appendOwnMM hA tabOk rfl rfl rfl rfl rfl rfl ?_ ?_) ?_ | refine QX.one rfl (One.appendOwn0 hA tabOk rfl rfl rfl rfl rfl rfl ?_ ?_) ?_) | (refine QX.k 13 ?_; first | refine QX.one rfl (One.byteM hA tabOk rfl rfl rfl rfl rfl ?_ ?_) ?_) | (refine QX.k 14 ?_; first | refine QX.one rfl (One.loadRatM hA tabOk rfl rfl rfl rfl rfl rfl ?_) ?_) | (refine QX.k 15 ?_; first | refine QX.one rfl (One.storeRatM hA tabOk _ rfl rfl rfl rfl rfl rfl rfl rfl (fun _ => rfl) ?_) ?_) | (refine QX.k 16 ?_; first | refine QX.one rfl (One.makeM hA tabOk encI 0 rfl rfl rfl rfl rfl rfl rfl ?_ ?_ ?_) ?_) | (refine QX.k 17 ?_; first | refine QX.one rfl (One.build0 tabOk rfl rfl) ?_) | (refine QX.k 18 ?_; first | refine QX.one rfl (One.fieldRat tabOk rfl rfl rfl rfl (by decide) rfl rfl) ?_)) <;> (first | refine QSg.pass ?_ | (((try simp only [zn]) <;> (try simp (disch := omega) only [zz hA, zb, zy, reduceCtorEq, Bool.false_eq_true, Int.reduceLT, Int.reduceLE, Int.reduceNeg]) <;> (try simp only [zw])) <;> omega)))
        | refine QX.raw ?_)
    | refine Thn.exit ?_
    | refine Blk.here ?_
    | refine Blk.other (by decide) ?_
    | refine ⟨.inl rfl, _, RetOk.ev tabOk (by conv => lhs; cbv), ?_⟩
    | fail)
  · exact ⟨by simp [rankM, hc, hA, real, hid], rfl⟩
  · exact ⟨by simp [rankM, hc, hA, real, hid], rfl⟩
  · refine ⟨?_, rfl⟩
    rename_i h0
    rw [rankM, if_neg (by omega)]
theorem ordered_c (ranks : List Int) : ACalls Try.prog 42 [.ic (.sl 1 false (hid A (List.map encI ranks)))] []
    (fun x s' => x = .fn (.func 50) [] [.ptr 1 0] ∧ s' = [.var true 22 [.ic (.sl 1 false (hid A (List.map encI ranks)))], .var true 83 [.fn (.func 49) [] [.ptr 0 0]]]) := by
  refine ACalls.of Try.func42 rfl (by kernel_rfl) rfl ?_
  try first | refine AOLg.of [] ?_ | refine QSg.of [] ?_
  repeat' (first
    | (refine AWp.pass ?_; first
        | refine AWp.seq ?_
        | refine AWp.block ?_
        | refine AWp.skip ?_
        | refine AWp.regG [] (by conv => lhs; cbv) ?_
        | refine AWp.cond_t rfl ?_
        | refine AWp.cond_f rfl ?_
        | (refine AWp.cond rfl ?_ ?_ <;> intro hc <;> (try rw [hc]) <;> ((try simp only [zn] at hc) <;> (try simp (disch := omega) only [zz hA, zb, zy, reduceCtorEq, Bool.false_eq_true, Int.reduceLT, Int.reduceLE, Int.reduceNeg] at hc) <;> (try simp only [zw] at hc)) <;> (try (exfalso; omega)))
        | refine AWp.exit ?_
        | refine AWp.ret ⟨.inr rfl, _, RetOk.ev tabOk (by conv => lhs; cbv), ?_⟩
        | refine AWp.drawKG [] 0 rfl (by decide +kernel) (by conv => lhs; cbv) (by conv => lhs; cbv) ?_
        | refine AWp.drawKG [] 1 rfl (by decide +kernel) (by conv => lhs; cbv) (by conv => lhs; cbv) ?_
        | refine AWp.drawKG [] 2 rfl (by decide +kernel) (by conv => lhs; cbv) (by conv => lhs; cbv) ?_
        | refine AWp.drawKG [] 3 rfl (by decide +kernel) (by conv => lhs; cbv) (by conv => lhs; cbv) ?_
        | refine AWp.drawKG [] 4 rfl (by decide +kernel) (by conv => lhs; cbv) (by conv => lhs; cbv) ?_
        | refine AWp.drawKG [] 5 rfl (by decide +kernel) (by conv => lhs; cbv) (by conv => lhs; cbv) ?_
        | refine AWp.drawKG [] 6 rfl (by decide +kernel) (by conv => lhs; cbv) (by conv => lhs; cbv) ?_
        | refine AWp.drawKG [] 8 rfl (by decide +kernel) (by conv => lhs; cbv) (by conv => lhs; cbv) ?_)
    | (refine AOLg.pass ?_; refine AOLg.nx hA tabOk (by conv => lhs; cbv) ?_; first
        | refine NX.done ?_
        | refine NX.gt ?_
        | refine NX.gf ?_
        | (refine NX.gs ?_ ?_ <;> intro hc <;> rw [hc] <;> ((try simp only [zn] at hc) <;> (try simp (disch := omega) only [zz hA, zb, zy, reduceCtorEq, Bool.false_eq_true, Int.reduceLT, Int.reduceLE, Int.reduceNeg] at hc) <;> (try simp only [zw] at hc)) <;> (try (exfalso; omega)))
        | ((first | (refine NX.k 1 ?_; first | refine NX.one (One.elemM hA tabOk rfl rfl rfl rfl ?_ ?_) ?_ | refine NX.one (One.elemOwnM hA tabOk rfl rfl rfl rfl rfl ?_ ?_) ?_) | (refine NX.k 2 ?_; first | refine NX.one (One.clipM tabOk rfl rfl rfl rfl rfl ?_ ?_) ?_ | refine NX.one (One.cut_hM hA tabOk rfl rfl rfl rfl ?_ ?_) ?_ | refine NX.one (One.cut_lM hA tabOk rfl rfl rfl rfl ?_ ?_) ?_ | refine NX.one (One.cut_lhM hA tabOk rfl rfl rfl rfl rfl ?_ ?_ ?_) ?_) | (refine NX.k 3 ?_; first | refine NX.one (One.quoM hA rfl rfl rfl ?_) ?_) | (refine NX.k 4 ?_; first | refine NX.one (One.remM hA rfl rfl rfl ?_) ?_) | (refine NX.k 5 ?_; first | refine NX.one (One.shrM hA rfl rfl rfl ?_) ?_) | (refine NX.k 6 ?_; first | refine NX.one (One.bitsM hA rfl rfl rfl rfl) ?_) | (refine NX.k 7 ?_; first | refine NX.one (One.concatM hA rfl rfl rfl ?_) ?_) | (refine NX.k 8 ?_; first | refine NX.one (One.eqBoolM hA tabOk rfl rfl rfl rfl rfl) ?_) | (refine NX.k 9 ?_; first | refine NX.one (One.neBoolM hA tabOk rfl rfl rfl rfl rfl) ?_) | (refine NX.k 10 ?_; first | refine NX.one (One.lenOwnM hA tabOk rfl rfl rfl rfl) ?_) | (refine NX.k 11 ?_; first | refine NX.one (One.appendM hA tabOk _ rfl rfl rfl rfl rfl rfl ?_ ?_) ?_ | refine NX.one (One.appendMM hA tabOk rfl rfl rfl rfl rfl ?_ ?_) ?_ | refine NX.one (One.appendOwnM hA tabOk _ rfl rfl rfl rfl rfl rfl rfl ?_ ?_) ?_ | refine NX.one (One.appendOwnMM hA tabOk rfl rfl rfl rfl rfl rfl ?_ ?_) ?_ | refine NX.one (One.appendOwn0 hA tabOk rfl rfl rfl rfl rfl rfl ?_ ?_) ?_) | (refine NX.k 13 ?_; first | refine NX.one (One.byteM hA tabOk rfl rfl rfl rfl rfl ?_ ?_) ?_) | (refine NX.k 14 ?_; first | refine NX.one (One.loadRatM hA tabOk rfl rfl rfl rfl rfl rfl ?_) ?_) | (refine NX.k 15 ?_; first | refine NX.one (One.storeRatM hA tabOk _ rfl rfl rfl rfl rfl rfl rfl rfl (fun _ => rfl) ?_) ?_) | (refine NX.k 16 ?_; first | refine NX.one (One.makeM hA tabOk encI 0 rfl rfl rfl rfl rfl rfl rfl ?_ ?_ ?_) ?_) | (refine NX.k 17 ?_; first | refine NX.one (One.build0 tabOk rfl rfl) ?_) | (refine NX.k 18 ?_; first | refine NX.one (One.fieldRat tabOk rfl rfl rfl rfl (by decide) rfl rfl) ?_)) <;> (first | refine AOLg.pass ?_ | (((try simp only [zn]) <;> (try simp (disch := omega) only [zz hA, zb, zy, reduceCtorEq, Bool.false_eq_true, Int.reduceLT, Int.reduceLE, Int.reduceNeg]) <;> (try simp only [zw])) <;> omega)))
        | refine NX.raw ?_)
    | (refine QSg.pass ?_; refine QSg.nx hA tabOk (by conv => lhs; cbv) ?_; first
        | refine QX.done ?_
        | refine QX.gt ?_
        | refine QX.gf ?_
        | (refine QX.gs ?_ ?_ <;> intro hc <;> rw [hc] <;> ((try simp only [zn] at hc) <;> (try simp (disch := omega) only [zz hA, zb, zy, reduceCtorEq, Bool.false_eq_true, Int.reduceLT, Int.reduceLE, Int.reduceNeg] at hc) <;> (try simp only [zw] at hc)) <;> (try (exfalso; omega)))
        | ((first | (refine QX.k 1 ?_; first | refine QX.one rfl (One.elemM hA tabOk rfl rfl rfl rfl ?_ ?_) ?_ | refine QX.one rfl (One.elemOwnM hA tabOk rfl rfl rfl rfl rfl ?_ ?_) ?_) | (refine QX.k 2 ?_; first | refine QX.one rfl (One.clipM tabOk rfl rfl rfl rfl rfl ?_ ?_) ?_ | refine QX.one rfl (One.cut_hM hA tabOk rfl rfl rfl rfl ?_ ?_) ?_ | refine QX.one rfl (One.cut_lM hA tabOk rfl rfl rfl rfl ?_ ?_) ?_ | refine QX.one rfl (One.cut_lhM hA tabOk rfl rfl rfl rfl rfl ?_ ?_ ?_) ?_) | (refine QX.k 3 ?_; first | refine QX.one rfl (One.quoM hA rfl rfl rfl ?_) ?_) | (refine QX.k 4 ?_; first | refine QX.one rfl (One.remM hA rfl rfl rfl ?_) ?_) | (refine QX.k 5 ?_; first | refine QX.one rfl (One.shrM hA rfl rfl rfl ?_) ?_) | (refine QX.k 6 ?_; first | refine QX.one rfl (One.bitsM hA rfl rfl rfl rfl) ?_) | (refine QX.k 7 ?_; first | refine QX.one rfl (One.concatM hA rfl rfl rfl ?_) ?_) | (refine QX.k 8 ?_; first | refine QX.one rfl (One.eqBoolM hA tabOk rfl rfl rfl rfl rfl) ?_) | (refine QX.k 9 ?_; first | refine QX.one rfl (One.neBoolM hA tabOk rfl rfl rfl rfl rfl) ?_) | (refine QX.k 10 ?_; first | refine QX.one rfl (One.lenOwnM hA tabOk rfl rfl rfl rfl) ?_) | (refine QX.k 11 ?_; first | refine QX.one rfl (One.appendM hA tabOk _ rfl rfl rfl rfl rfl rfl ?_ ?_) ?_ | refine QX.one rfl (One.appendMM hA tabOk rfl rfl rfl rfl rfl ?_ ?_) ?_ | refine QX.one rfl (One.appendOwnM hA tabOk _ rfl rfl rfl rfl rfl rfl rfl ?_ ?_) ?_ | refine QX.one rfl (One.appendOwnMM hA tabOk rfl rfl rfl rfl rfl rfl ?_ ?_) ?_ | refine QX.one rfl (One.appendOwn0 hA tabOk rfl rfl rfl rfl rfl rfl ?_ ?_) ?_) | (refine QX.k 13 ?_; first | refine QX.one rfl (One.byteM hA tabOk rfl rfl rfl rfl rfl ?_ ?_) ?_) | (refine QX.k 14 ?_; first | refine QX.one rfl (One.loadRatM hA tabOk rfl rfl rfl rfl rfl rfl ?_) ?_) | (refine QX.k 15 ?_; first | refine QX.one rfl (One.storeRatM hA tabOk _ rfl rfl rfl rfl rfl rfl rfl rfl (fun _ => rfl) ?_) ?_) | (refine QX.k 16 ?_; first | refine QX.one rfl (One.makeM hA tabOk encI 0 rfl rfl rfl rfl rfl rfl rfl ?_ ?_ ?_) ?_) | (refine QX.k 17 ?_; first | refine QX.one rfl (One.build0 tabOk rfl rfl) ?_) | (refine QX.k 18 ?_; first | refine QX.one rfl (One.fieldRat tabOk rfl rfl rfl rfl (by decide) rfl rfl) ?_)) <;> (first | refine QSg.pass ?_ | (((try simp only [zn]) <;> (try simp (disch := omega) only [zz hA, zb, zy, reduceCtorEq, Bool.false_eq_true, Int.reduceLT, Int.reduceLE, Int.reduceNeg]) <;> (try simp only [zw])) <;> omega)))
        | refine QX.raw ?_)
    | refine Thn.exit ?_
    | refine Blk.here ?_
    | refine Blk.other (by decide) ?_
    | refine ⟨.inl rfl, _, RetOk.ev tabOk (by conv => lhs; cbv), ?_⟩
    | fail)
  exact ⟨rfl, rfl⟩
theorem ord2_c (ranks : List Int) (a b : Int) (hr : ranks.length ≤ 1000000) : ACalls Try.prog 50 [.ic (.lit (.int .i64 a)), .ic (.lit (.int .i64 b)), .ptr 1 0] [.var true 22 [.ic (.sl 1 false (hid A (List.map encI ranks)))], .var true 83 [.fn (.func 49) [] [.ptr 0 0]]]
    (fun x s' => x = .ic (.lit (.bool (hid A (lessM ranks a b)))) ∧ s' = [.var true 22 [.ic (.sl 1 false (hid A (List.map encI ranks)))], .var true 83 [.fn (.func 49) [] [.ptr 0 0]]]) := by
  refine ACalls.of Try.func50 rfl (by kernel_rfl) rfl ?_
  try first | refine AOLg.of [] ?_ | refine QSg.of [] ?_
  repeat' (first
    | (refine AWp.pass ?_; first
        | refine AWp.seq ?_
        | refine AWp.block ?_
        | refine AWp.skip ?_
        | refine AWp.regG [] (by conv => lhs; cbv) ?_
        | refine AWp.cond_t rfl ?_
        | refine AWp.cond_f rfl ?_
        | (refine AWp.cond rfl ?_ ?_ <;> intro hc <;> (try rw [hc]) <;> ((try simp only [zn] at hc) <;> (try simp (disch := omega) only [zz hA, zb, zy, reduceCtorEq, Bool.false_eq_true, Int.reduceLT, Int.reduceLE, Int.reduceNeg] at hc) <;> (try simp only [zw] at hc)) <;> (try (exfalso; omega)))
        | refine AWp.exit ?_
        | refine AWp.ret ⟨.inr rfl, _, RetOk.ev tabOk (by conv => lhs; cbv), ?_⟩
        | refine AWp.drawKG [] 0 rfl (by decide +kernel) (by conv => lhs; cbv) (by conv => lhs; cbv) ?_
        | refine AWp.drawKG [] 1 rfl (by decide +kernel) (by conv => lhs; cbv) (by conv => lhs; cbv) ?_
        | refine AWp.drawKG [] 2 rfl (by decide +kernel) (by conv => lhs; cbv) (by conv => lhs; cbv) ?_
        | refine AWp.drawKG [] 3 rfl (by decide +kernel) (by conv => lhs; cbv) (by conv => lhs; cbv) ?_
        | refine AWp.drawKG [] 4 rfl (by decide +kernel) (by conv => lhs; cbv) (by conv => lhs; cbv) ?_
        | refine AWp.drawKG [] 5 rfl (by decide +kernel) (by conv => lhs; cbv) (by conv => lhs; cbv) ?_
        | refine AWp.drawKG [] 6 rfl (by decide +kernel) (by conv => lhs; cbv) (by conv => lhs; cbv) ?_
        | refine AWp.drawKG [] 8 rfl (by decide +kernel) (by conv => lhs; cbv) (by conv => lhs; cbv) ?_)
    | (refine AOLg.pass ?_; refine AOLg.nx hA tabOk (by conv => lhs; cbv) ?_; first
        | refine NX.done ?_
        | refine NX.gt ?_
        | refine NX.gf ?_
        | (refine NX.gs ?_ ?_ <;> intro hc <;> rw [hc] <;> ((try simp only [zn] at hc) <;> (try simp (disch := omega) only [zz hA, zb, zy, reduceCtorEq, Bool.false_eq_true, Int.reduceLT, Int.reduceLE, Int.reduceNeg] at hc) <;> (try simp only [zw] at hc)) <;> (try (exfalso; omega)))
        | ((first | (refine NX.k 1 ?_; first | refine NX.one (One.elemM hA tabOk rfl rfl rfl rfl ?_ ?_) ?_ | refine NX.one (One.elemOwnM hA tabOk rfl rfl rfl rfl rfl ?_ ?_) ?_) | (refine NX.k 2 ?_; first | refine NX.one (One.clipM tabOk rfl rfl rfl rfl rfl ?_ ?_) ?_ | refine NX.one (One.cut_hM hA tabOk rfl rfl rfl rfl ?_ ?_) ?_ | refine NX.one (One.cut_lM hA tabOk rfl rfl rfl rfl ?_ ?_) ?_ | refine NX.one (One.cut_lhM hA tabOk rfl rfl rfl rfl rfl ?_ ?_ ?_) ?_) | (refine NX.k 3 ?_; first | refine NX.one (One.quoM hA rfl rfl rfl ?_) ?_) | (refine NX.k 4 ?_; first | refine NX.one (One.remM hA rfl rfl rfl ?_) ?_) | (refine NX.k 5 ?_; first | refine NX.one (One.shrM hA rfl rfl rfl ?_) ?_) | (refine NX.k 6 ?_; first | refine NX.one (One.bitsM hA rfl rfl rfl rfl) ?_) | (refine NX.k 7 ?_; first | refine NX.one (One.concatM hA rfl rfl rfl ?_) ?_) | (refine NX.k 8 ?_; first | refine NX.one (One.eqBoolM hA tabOk rfl rfl rfl rfl rfl) ?_) | (refine NX.k 9 ?_; first | refine NX.one (One.neBoolM hA tabOk rfl rfl rfl rfl rfl) ?_) | (refine NX.k 10 ?_; first | refine NX.one (One.lenOwnM hA tabOk rfl rfl rfl rfl) ?_) | (refine NX.k 11 ?_; first | refine NX.one (One.appendM hA tabOk _ rfl rfl rfl rfl rfl rfl ?_ ?_) ?_ | refine NX.one (One.appendMM hA tabOk rfl rfl rfl rfl rfl ?_ ?_) ?_ | refine NX.one (One.appendOwnM hA tabOk _ rfl rfl rfl rfl rfl rfl rfl ?_ ?_) ?_ | refine NX.one (One.appendOwnMM hA tabOk rfl rfl rfl rfl rfl rfl ?_ ?_) ?_ | refine NX.one (One.appendOwn0 hA tabOk rfl rfl rfl rfl rfl rfl ?_ ?_) ?_) | (refine NX.k 13 ?_; first | refine NX.one (One.byteM hA tabOk rfl rfl rfl rfl rfl ?_ ?_) ?_) | (refine NX.k 14 ?_; first | refine NX.one (One.loadRatM hA tabOk rfl rfl rfl rfl rfl rfl ?_) ?_) | (refine NX.k 15 ?_; first | refine NX.one (One.storeRatM hA tabOk _ rfl rfl rfl rfl rfl rfl rfl rfl (fun _ => rfl) ?_) ?_) | (refine NX.k 16 ?_; first | refine NX.one (One.makeM hA tabOk encI 0 rfl rfl rfl rfl rfl rfl rfl ?_ ?_ ?_) ?_) | (refine NX.k 17 ?_; first | refine NX.one (One.build0 tabOk rfl rfl) ?_) | (refine NX.k 18 ?_; first | refine NX.one (One.fieldRat tabOk rfl rfl rfl rfl (by decide) rfl rfl) ?_)) <;> (first | refine AOLg.pass ?_ | (((try simp only [zn]) <;> (try simp (disch := omega) only [zz hA, zb, zy, reduceCtorEq, Bool.false_eq_true, Int.reduceLT, Int.reduceLE, Int.reduceNeg]) <;> (try simp only [zw])) <;> omega)))
        | (refine NX.one (One.fcall 0 (rank_c hA ranks _ hr) rfl rfl rfl rfl rfl rfl rfl rfl) ?_)
        | refine NX.raw ?_)
    | (refine QSg.pass ?_; refine QSg.nx hA tabOk (by conv => lhs; cbv) ?_; first
        | refine QX.done ?_
        | refine QX.gt ?_
        | refine QX.gf ?_
        | (refine QX.gs ?_ ?_ <;> intro hc <;> rw [hc] <;> ((try simp only [zn] at hc) <;> (try simp (disch := omega) only [zz hA, zb, zy, reduceCtorEq, Bool.false_eq_true, Int.reduceLT, Int.reduceLE, Int.reduceNeg] at hc) <;> (try simp only [zw] at hc)) <;> (try (exfalso; omega)))
        | ((first | (refine QX.k 1 ?_; first | refine QX.one rfl (One.elemM hA tabOk rfl rfl rfl rfl ?_ ?_) ?_ | refine QX.one rfl (One.elemOwnM hA tabOk rfl rfl rfl rfl rfl ?_ ?_) ?_) | (refine QX.k 2 ?_; first | refine QX.one rfl (One.clipM tabOk rfl rfl rfl rfl rfl ?_ ?_) ?_ | refine QX.one rfl (One.cut_hM hA tabOk rfl rfl rfl rfl ?_ ?_) ?_ | refine QX.one rfl (One.cut_lM hA tabOk rfl rfl rfl rfl ?_ ?_) ?_ | refine QX.one rfl (One.cut_lhM hA tabOk rfl rfl rfl rfl rfl ?_ ?_ ?_) ?_) | (refine QX.k 3 ?_; first | refine QX.one rfl (One.quoM hA rfl rfl rfl ?_) ?_) | (refine QX.k 4 ?_; first | refine QX.one rfl (One.remM hA rfl rfl rfl ?_) ?_) | (refine QX.k 5 ?_; first | refine QX.one rfl (One.shrM hA rfl rfl rfl ?_) ?_) | (refine QX.k 6 ?_; first | refine QX.one rfl (One.bitsM hA rfl rfl rfl rfl) ?_) | (refine QX.k 7 ?_; first | refine QX.one rfl (One.concatM hA rfl rfl rfl ?_) ?_) | (refine QX.k 8 ?_; first | refine QX.one rfl (One.eqBoolM hA tabOk rfl rfl rfl rfl rfl) ?_) | (refine QX.k 9 ?_; first | refine QX.one rfl (One.neBoolM hA tabOk rfl rfl rfl rfl rfl) ?_) | (refine QX.k 10 ?_; first | refine QX.one rfl (One.lenOwnM hA tabOk rfl rfl rfl rfl) ?_) | (refine QX.k 11 ?_; first | refine QX.one rfl (One.appendM hA tabOk _ rfl rfl rfl rfl rfl rfl ?_ ?_) ?_ | refine QX.one rfl (One.appendMM hA tabOk rfl rfl rfl rfl rfl ?_ ?_) ?_ | refine QX.one rfl (One.appendOwnM hA tabOk _ rfl rfl rfl rfl rfl rfl rfl ?_ ?_) ?_ | refine QX.one rfl (One.appendOwnMM hA tabOk rfl rfl rfl rfl rfl rfl ?_ ?_) ?_ | refine QX.one rfl (One.appendOwn0 hA tabOk rfl rfl rfl rfl rfl rfl ?_ ?_) ?_) | (refine QX.k 13 ?_; first | refine QX.one rfl (One.byteM hA tabOk rfl rfl rfl rfl rfl ?_ ?_) ?_) | (refine QX.k 14 ?_; first | refine QX.one rfl (One.loadRatM hA tabOk rfl rfl rfl rfl rfl rfl ?_) ?_) | (refine QX.k 15 ?_; first | refine QX.one rfl (One.storeRatM hA tabOk _ rfl rfl rfl rfl rfl rfl rfl rfl (fun _ => rfl) ?_) ?_) | (refine QX.k 16 ?_; first | refine QX.one rfl (One.makeM hA tabOk encI 0 rfl rfl rfl rfl rfl rfl rfl ?_ ?_ ?_) ?_) | (refine QX.k 17 ?_; first | refine QX.one rfl (One.build0 tabOk rfl rfl) ?_) | (refine QX.k 18 ?_; first | refine QX.one rfl (One.fieldRat tabOk rfl rfl rfl rfl (by decide) rfl rfl) ?_)) <;> (first | refine QSg.pass ?_ | (((try simp only [zn]) <;> (try simp (disch := omega) only [zz hA, zb, zy, reduceCtorEq, Bool.false_eq_true, Int.reduceLT, Int.reduceLE, Int.reduceNeg]) <;> (try simp only [zw])) <;> omega)))
        | (refine QX.one rfl (One.fcall 0 (rank_c hA ranks _ hr) rfl rfl rfl rfl rfl rfl rfl rfl) ?_)
        | refine QX.raw ?_)
    | refine Thn.exit ?_
    | refine Blk.here ?_
    | refine Blk.other (by decide) ?_
    | refine ⟨.inl rfl, _, RetOk.ev tabOk (by conv => lhs; cbv), ?_⟩
    | fail)
  all_goals
    refine ⟨?_, rfl⟩
    simp_all [lessM, hid, real]
theorem less_c (ranks : List Int) (a b : Int) (hr : ranks.length ≤ 1000000) : PureCalls Try.prog 29 [intsP A ranks, IP a, IP b] (BP (hid A (lessM ranks a b))) := by
  refine PureCalls.of Try.func29 rfl (by kernel_rfl) rfl ?_
  try first | refine AOLg.of [] ?_ | refine QSg.of [] ?_
  repeat' (first
    | (refine AWp.pass ?_; first
        | refine AWp.seq ?_
        | refine AWp.block ?_
        | refine AWp.skip ?_
        | refine AWp.regG [] (by conv => lhs; cbv) ?_
        | refine AWp.cond_t rfl ?_
        | refine AWp.cond_f rfl ?_
        | (refine AWp.cond rfl ?_ ?_ <;> intro hc <;> (try rw [hc]) <;> ((try simp only [zn] at hc) <;> (try simp (disch := omega) only [zz hA, zb, zy, reduceCtorEq, Bool.false_eq_true, Int.reduceLT, Int.reduceLE, Int.reduceNeg] at hc) <;> (try simp only [zw] at hc)) <;> (try (exfalso; omega)))
        | refine AWp.exit ?_
        | refine AWp.ret ⟨.inr rfl, _, RetOk.ev tabOk (by conv => lhs; cbv), ?_⟩
        | refine AWp.drawKG [] 0 rfl (by decide +kernel) (by conv => lhs; cbv) (by conv => lhs; cbv) ?_
        | refine AWp.drawKG [] 1 rfl (by decide +kernel) (by conv => lhs; cbv) (by conv => lhs; cbv) ?_
        | refine AWp.drawKG [] 2 rfl (by decide +kernel) (by conv => lhs; cbv) (by conv => lhs; cbv) ?_
        | refine AWp.drawKG [] 3 rfl (by decide +kernel) (by conv => lhs; cbv) (by conv => lhs; cbv) ?_
        | refine AWp.drawKG [] 4 rfl (by decide +kernel) (by conv => lhs; cbv) (by conv => lhs; cbv) ?_
        | refine AWp.drawKG [] 5 rfl (by decide +kernel) (by conv => lhs; cbv) (by conv => lhs; cbv) ?_
        | refine AWp.drawKG [] 6 rfl (by decide +kernel) (by conv => lhs; cbv) (by conv => lhs; cbv) ?_
        | refine AWp.drawKG [] 8 rfl (by decide +kernel) (by conv => lhs; cbv) (by conv => lhs; cbv) ?_)
    | (refine AOLg.pass ?_; refine AOLg.nx hA tabOk (by conv => lhs; cbv) ?_; first
        | refine NX.done ?_
        | refine NX.gt ?_
        | refine NX.gf ?_
        | (refine NX.gs ?_ ?_ <;> intro hc <;> rw [hc] <;> ((try simp only [zn] at hc) <;> (try simp (disch := omega) only [zz hA, zb, zy, reduceCtorEq, Bool.false_eq_true, Int.reduceLT, Int.reduceLE, Int.reduceNeg] at hc) <;> (try simp only [zw] at hc)) <;> (try (exfalso; omega)))
        | ((first | (refine NX.k 1 ?_; first | refine NX.one (One.elemM hA tabOk rfl rfl rfl rfl ?_ ?_) ?_ | refine NX.one (One.elemOwnM hA tabOk rfl rfl rfl rfl rfl ?_ ?_) ?_) | (refine NX.k 2 ?_; first | refine NX.one (One.clipM tabOk rfl rfl rfl rfl rfl ?_ ?_) ?_ | refine NX.one (One.cut_hM hA tabOk rfl rfl rfl rfl ?_ ?_) ?_ | refine NX.one (One.cut_lM hA tabOk rfl rfl rfl rfl ?_ ?_) ?_ | refine NX.one (One.cut_lhM hA tabOk rfl rfl rfl rfl rfl ?_ ?_ ?_) ?_) | (refine NX.k 3 ?_; first | refine NX.one (One.quoM hA rfl rfl rfl ?_) ?_) | (refine NX.k 4 ?_; first | refine NX.one (One.remM hA rfl rfl rfl ?_) ?_) | (refine NX.k 5 ?_; first | refine NX.one (One.shrM hA rfl rfl rfl ?_) ?_) | (refine NX.k 6 ?_; first | refine NX.one (One.bitsM hA rfl rfl rfl rfl) ?_) | (refine NX.k 7 ?_; first | refine NX.one (One.concatM hA rfl rfl rfl ?_) ?_) | (refine NX.k 8 ?_; first | refine NX.one (One.eqBoolM hA tabOk rfl rfl rfl rfl rfl) ?_) | (refine NX.k 9 ?_; first | refine NX.one (One.neBoolM hA tabOk rfl rfl rfl rfl rfl) ?_) | (refine NX.k 10 ?_; first | refine NX.one (One.lenOwnM hA tabOk rfl rfl rfl rfl) ?_) | (refine NX.k 11 ?_; first | refine NX.one (One.appendM hA tabOk _ rfl rfl rfl rfl rfl rfl ?_ ?_) ?_ | refine NX.one (One.appendMM hA tabOk rfl rfl rfl rfl rfl ?_ ?_) ?_ | refine NX.one (One.appendOwnM hA tabOk _ rfl rfl rfl rfl rfl rfl rfl ?_ ?_) ?_ | refine NX.one (One.appendOwnMM hA tabOk rfl rfl rfl rfl rfl rfl ?_ ?_) ?_ | refine NX.one (One.appendOwn0 hA tabOk rfl rfl rfl rfl rfl rfl ?_ ?_) ?_) | (refine NX.k 13 ?_; first | refine NX.one (One.byteM hA tabOk rfl rfl rfl rfl rfl ?_ ?_) ?_) | (refine NX.k 14 ?_; first | refine NX.one (One.loadRatM hA tabOk rfl rfl rfl rfl rfl rfl ?_) ?_) | (refine NX.k 15 ?_; first | refine NX.one (One.storeRatM hA tabOk _ rfl rfl rfl rfl rfl rfl rfl rfl (fun _ => rfl) ?_) ?_) | (refine NX.k 16 ?_; first | refine NX.one (One.makeM hA tabOk encI 0 rfl rfl rfl rfl rfl rfl rfl ?_ ?_ ?_) ?_) | (refine NX.k 17 ?_; first | refine NX.one (One.build0 tabOk rfl rfl) ?_) | (refine NX.k 18 ?_; first | refine NX.one (One.fieldRat tabOk rfl rfl rfl rfl (by decide) rfl rfl) ?_)) <;> (first | refine AOLg.pass ?_ | (((try simp only [zn]) <;> (try simp (disch := omega) only [zz hA, zb, zy, reduceCtorEq, Bool.false_eq_true, Int.reduceLT, Int.reduceLE, Int.reduceNeg]) <;> (try simp only [zw])) <;> omega)))
        | refine NX.raw ?_)
    | (refine QSg.pass ?_; refine QSg.nx hA tabOk (by conv => lhs; cbv) ?_; first
        | refine QX.done ?_
        | refine QX.gt ?_
        | refine QX.gf ?_
        | (refine QX.gs ?_ ?_ <;> intro hc <;> rw [hc] <;> ((try simp only [zn] at hc) <;> (try simp (disch := omega) only [zz hA, zb, zy, reduceCtorEq, Bool.false_eq_true, Int.reduceLT, Int.reduceLE, Int.reduceNeg] at hc) <;> (try simp only [zw] at hc)) <;> (try (exfalso; omega)))
        | ((first | (refine QX.k 1 ?_; first | refine QX.one rfl (One.elemM hA tabOk rfl rfl rfl rfl ?_ ?_) ?_ | refine QX.one rfl (One.elemOwnM hA tabOk rfl rfl rfl rfl rfl ?_ ?_) ?_) | (refine QX.k 2 ?_; first | refine QX.one rfl (One.clipM tabOk rfl rfl rfl rfl rfl ?_ ?_) ?_ | refine QX.one rfl (One.cut_hM hA tabOk rfl rfl rfl rfl ?_ ?_) ?_ | refine QX.one rfl (One.cut_lM hA tabOk rfl rfl rfl rfl ?_ ?_) ?_ | refine QX.one rfl (One.cut_lhM hA tabOk rfl rfl rfl rfl rfl ?_ ?_ ?_) ?_) | (refine QX.k 3 ?_; first | refine QX.one rfl (One.quoM hA rfl rfl rfl ?_) ?_) | (refine QX.k 4 ?_; first | refine QX.one rfl (One.remM hA rfl rfl rfl ?_) ?_) | (refine QX.k 5 ?_; first | refine QX.one rfl (One.shrM hA rfl rfl rfl ?_) ?_) | (refine QX.k 6 ?_; first | refine QX.one rfl (One.bitsM hA rfl rfl rfl rfl) ?_) | (refine QX.k 7 ?_; first | refine QX.one rfl (One.concatM hA rfl rfl rfl ?_) ?_) | (refine QX.k 8 ?_; first | refine QX.one rfl (One.eqBoolM hA tabOk rfl rfl rfl rfl rfl) ?_) | (refine QX.k 9 ?_; first | refine QX.one rfl (One.neBoolM hA tabOk rfl rfl rfl rfl rfl) ?_) | (refine QX.k 10 ?_; first | refine QX.one rfl (One.lenOwnM hA tabOk rfl rfl rfl rfl) ?_) | (refine QX.k 11 ?_; first | refine QX.one rfl (One.appendM hA tabOk _ rfl rfl rfl rfl rfl rfl ?_ ?_) ?_ | refine QX.one rfl (One.appendMM hA tabOk rfl rfl rfl rfl rfl ?_ ?_) ?_ | refine QX.one rfl (One.appendOwnM hA tabOk _ rfl rfl rfl rfl rfl rfl rfl ?_ ?_) ?_ | refine QX.one rfl (One.appendOwnMM hA tabOk rfl rfl rfl rfl rfl rfl ?_ ?_) ?_ | refine QX.one rfl (One.appendOwn0 hA tabOk rfl rfl rfl rfl rfl rfl ?_ ?_) ?_) | (refine QX.k 13 ?_; first | refine QX.one rfl (One.byteM hA tabOk rfl rfl rfl rfl rfl ?_ ?_) ?_) | (refine QX.k 14 ?_; first | refine QX.one rfl (One.loadRatM hA tabOk rfl rfl rfl rfl rfl rfl ?_) ?_) | (refine QX.k 15 ?_; first | refine QX.one rfl (One.storeRatM hA tabOk _ rfl rfl rfl rfl rfl rfl rfl rfl (fun _ => rfl) ?_) ?_) | (refine QX.k 16 ?_; first | refine QX.one rfl (One.makeM hA tabOk encI 0 rfl rfl rfl rfl rfl rfl rfl ?_ ?_ ?_) ?_) | (refine QX.k 17 ?_; first | refine QX.one rfl (One.build0 tabOk rfl rfl) ?_) | (refine QX.k 18 ?_; first | refine QX.one rfl (One.fieldRat tabOk rfl rfl rfl rfl (by decide) rfl rfl) ?_)) <;> (first | refine QSg.pass ?_ | (((try simp only [zn]) <;> (try simp (disch := omega) only [zz hA, zb, zy, reduceCtorEq, Bool.false_eq_true, Int.reduceLT, Int.reduceLE, Int.reduceNeg]) <;> (try simp only [zw])) <;> omega)))
        | refine QX.raw ?_)
    | refine Thn.exit ?_
    | refine Blk.here ?_
    | refine Blk.other (by decide) ?_
    | refine ⟨.inl rfl, _, RetOk.ev tabOk (by conv => lhs; cbv), ?_⟩
    | fail)
  refine AOL.scall rfl rfl (ordered_c hA ranks) ?_
  rintro y st' ⟨rfl, rfl⟩
  refine AOL.norm (by conv => lhs; cbv) ?_
  try first | refine AOLg.of [] ?_ | refine QSg.of [] ?_
  repeat' (first
    | (refine AWp.pass ?_; first
        | refine AWp.seq ?_
        | refine AWp.block ?_
        | refine AWp.skip ?_
        | refine AWp.regG [] (by conv => lhs; cbv) ?_
        | refine AWp.cond_t rfl ?_
        | refine AWp.cond_f rfl ?_
        | (refine AWp.cond rfl ?_ ?_ <;> intro hc <;> (try rw [hc]) <;> ((try simp only [zn] at hc) <;> (try simp (disch := omega) only [zz hA, zb, zy, reduceCtorEq, Bool.false_eq_true, Int.reduceLT, Int.reduceLE, Int.reduceNeg] at hc) <;> (try simp only [zw] at hc)) <;> (try (exfalso; omega)))
        | refine AWp.exit ?_
        | refine AWp.ret ⟨.inr rfl, _, RetOk.ev tabOk (by conv => lhs; cbv), ?_⟩
        | refine AWp.drawKG [] 0 rfl (by decide +kernel) (by conv => lhs; cbv) (by conv => lhs; cbv) ?_
        | refine AWp.drawKG [] 1 rfl (by decide +kernel) (by conv => lhs; cbv) (by conv => lhs; cbv) ?_
        | refine AWp.drawKG [] 2 rfl (by decide +kernel) (by conv => lhs; cbv) (by conv => lhs; cbv) ?_
        | refine AWp.drawKG [] 3 rfl (by decide +kernel) (by conv => lhs; cbv) (by conv => lhs; cbv) ?_
        | refine AWp.drawKG [] 4 rfl (by decide +kernel) (by conv => lhs; cbv) (by conv => lhs; cbv) ?_
        | refine AWp.drawKG [] 5 rfl (by decide +kernel) (by conv => lhs; cbv) (by conv => lhs; cbv) ?_
        | refine AWp.drawKG [] 6 rfl (by decide +kernel) (by conv => lhs; cbv) (by conv => lhs; cbv) ?_
        | refine AWp.drawKG [] 8 rfl (by decide +kernel) (by conv => lhs; cbv) (by conv => lhs; cbv) ?_)
    | (refine AOLg.pass ?_; refine AOLg.nx hA tabOk (by conv => lhs; cbv) ?_; first
        | refine NX.done ?_
        | refine NX.gt ?_
        | refine NX.gf ?_
        | (refine NX.gs ?_ ?_ <;> intro hc <;> rw [hc] <;> ((try simp only [zn] at hc) <;> (try simp (disch := omega) only [zz hA, zb, zy, reduceCtorEq, Bool.false_eq_true, Int.reduceLT, Int.reduceLE, Int.reduceNeg] at hc) <;> (try simp only [zw] at hc)) <;> (try (exfalso; omega)))
        | ((first | (refine NX.k 1 ?_; first | refine NX.one (One.elemM hA tabOk rfl rfl rfl rfl ?_ ?_) ?_ | refine NX.one (One.elemOwnM hA tabOk rfl rfl rfl rfl rfl ?_ ?_) ?_) | (refine NX.k 2 ?_; first | refine NX.one (One.clipM tabOk rfl rfl rfl rfl rfl ?_ ?_) ?_ | refine NX.one (One.cut_hM hA tabOk rfl rfl rfl rfl ?_ ?_) ?_ | refine NX.one (One.cut_lM hA tabOk rfl rfl rfl rfl ?_ ?_) ?_ | refine NX.one (One.cut_lhM hA tabOk rfl rfl rfl rfl rfl ?_ ?_ ?_) ?_) | (refine NX.k 3 ?_; first | refine NX.one (One.quoM hA rfl rfl rfl ?_) ?_) | (refine NX.k 4 ?_; first | refine NX.one (One.remM hA rfl rfl rfl ?_) ?_) | (refine NX.k 5 ?_; first | refine NX.one (One.shrM hA rfl rfl rfl ?_) ?_) | (refine NX.k 6 ?_; first | refine NX.one (One.bitsM hA rfl rfl rfl rfl) ?_) | (refine NX.k 7 ?_; first | refine NX.one (One.concatM hA rfl rfl rfl ?_) ?_) | (refine NX.k 8 ?_; first | refine NX.one (One.eqBoolM hA tabOk rfl rfl rfl rfl rfl) ?_) | (refine NX.k 9 ?_; first | refine NX.one (One.neBoolM hA tabOk rfl rfl rfl rfl rfl) ?_) | (refine NX.k 10 ?_; first | refine NX.one (One.lenOwnM hA tabOk rfl rfl rfl rfl) ?_) | (refine NX.k 11 ?_; first | refine NX.one (One.appendM hA tabOk _ rfl rfl rfl rfl rfl rfl ?_ ?_) ?_ | refine NX.one (One.appendMM hA tabOk rfl rfl rfl rfl rfl ?_ ?_) ?_ | refine NX.one (One.appendOwnM hA tabOk _ rfl rfl rfl rfl rfl rfl rfl ?_ ?_) ?_ | refine NX.one (One.appendOwnMM hA tabOk rfl rfl rfl rfl rfl rfl ?_ ?_) ?_ | refine NX.one (One.appendOwn0 hA tabOk rfl rfl rfl rfl rfl rfl ?_ ?_) ?_) | (refine NX.k 13 ?_; first | refine NX.one (One.byteM hA tabOk rfl rfl rfl rfl rfl ?_ ?_) ?_) | (refine NX.k 14 ?_; first | refine NX.one (One.loadRatM hA tabOk rfl rfl rfl rfl rfl rfl ?_) ?_) | (refine NX.k 15 ?_; first | refine NX.one (One.storeRatM hA tabOk _ rfl rfl rfl rfl rfl rfl rfl rfl (fun _ => rfl) ?_) ?_) | (refine NX.k 16 ?_; first | refine NX.one (One.makeM hA tabOk encI 0 rfl rfl rfl rfl rfl rfl rfl ?_ ?_ ?_) ?_) | (refine NX.k 17 ?_; first | refine NX.one (One.build0 tabOk rfl rfl) ?_) | (refine NX.k 18 ?_; first | refine NX.one (One.fieldRat tabOk rfl rfl rfl rfl (by decide) rfl rfl) ?_)) <;> (first | refine AOLg.pass ?_ | (((try simp only [zn]) <;> (try simp (disch := omega) only [zz hA, zb, zy, reduceCtorEq, Bool.false_eq_true, Int.reduceLT, Int.reduceLE, Int.reduceNeg]) <;> (try simp only [zw])) <;> omega)))
        | (refine NX.one (One.fcall 0 (ord2_c hA ranks _ _ hr) rfl rfl rfl rfl rfl rfl rfl rfl) ?_)
        | refine NX.raw ?_)
    | (refine QSg.pass ?_; refine QSg.nx hA tabOk (by conv => lhs; cbv) ?_; first
        | refine QX.done ?_
        | refine QX.gt ?_
        | refine QX.gf ?_
        | (refine QX.gs ?_ ?_ <;> intro hc <;> rw [hc] <;> ((try simp only [zn] at hc) <;> (try simp (disch := omega) only [zz hA, zb, zy, reduceCtorEq, Bool.false_eq_true, Int.reduceLT, Int.reduceLE, Int.reduceNeg] at hc) <;> (try simp only [zw] at hc)) <;> (try (exfalso; omega)))
        | ((first | (refine QX.k 1 ?_; first | refine QX.one rfl (One.elemM hA tabOk rfl rfl rfl rfl ?_ ?_) ?_ | refine QX.one rfl (One.elemOwnM hA tabOk rfl rfl rfl rfl rfl ?_ ?_) ?_) | (refine QX.k 2 ?_; first | refine QX.one rfl (One.clipM tabOk rfl rfl rfl rfl rfl ?_ ?_) ?_ | refine QX.one rfl (One.cut_hM hA tabOk rfl rfl rfl rfl ?_ ?_) ?_ | refine QX.one rfl (One.cut_lM hA tabOk rfl rfl rfl rfl ?_ ?_) ?_ | refine QX.one rfl (One.cut_lhM hA tabOk rfl rfl rfl rfl rfl ?_ ?_ ?_) ?_) | (refine QX.k 3 ?_; first | refine QX.one rfl (One.quoM hA rfl rfl rfl ?_) ?_) | (refine QX.k 4 ?_; first | refine QX.one rfl (One.remM hA rfl rfl rfl ?_) ?_) | (refine QX.k 5 ?_; first | refine QX.one rfl (One.shrM hA rfl rfl rfl ?_) ?_) | (refine QX.k 6 ?_; first | refine QX.one rfl (One.bitsM hA rfl rfl rfl rfl) ?_) | (refine QX.k 7 ?_; first | refine QX.one rfl (One.concatM hA rfl rfl rfl ?_) ?_) | (refine QX.k 8 ?_; first | refine QX.one rfl (One.eqBoolM hA tabOk rfl rfl rfl rfl rfl) ?_) | (refine QX.k 9 ?_; first | refine QX.one rfl (One.neBoolM hA tabOk rfl rfl rfl rfl rfl) ?_) | (refine QX.k 10 ?_; first | refine QX.one rfl (One.lenOwnM hA tabOk rfl rfl rfl rfl) ?_) | (refine QX.k 11 ?_; first | refine QX.one rfl (One.appendM hA tabOk _ rfl rfl rfl rfl rfl rfl ?_ ?_) ?_ | refine QX.one rfl (One.appendMM hA tabOk rfl rfl rfl rfl rfl ?_ ?_) ?_ | refine QX.one rfl (One.appendOwnM hA tabOk _ rfl rfl rfl rfl rfl rfl rfl ?_ ?_) ?_ | refine QX.one rfl (One.appendOwnMM hA tabOk rfl rfl rfl rfl rfl rfl ?_ ?_) ?_ | refine QX.one rfl (One.appendOwn0 hA tabOk rfl rfl rfl rfl rfl rfl ?_ ?_) ?_) | (refine QX.k 13 ?_; first | refine QX.one rfl (One.byteM hA tabOk rfl rfl rfl rfl rfl ?_ ?_) ?_) | (refine QX.k 14 ?_; first | refine QX.one rfl (One.loadRatM hA tabOk rfl rfl rfl rfl rfl rfl ?_) ?_) | (refine QX.k 15 ?_; first | refine QX.one rfl (One.storeRatM hA tabOk _ rfl rfl rfl rfl rfl rfl rfl rfl (fun _ => rfl) ?_) ?_) | (refine QX.k 16 ?_; first | refine QX.one rfl (One.makeM hA tabOk encI 0 rfl rfl rfl rfl rfl rfl rfl ?_ ?_ ?_) ?_) | (refine QX.k 17 ?_; first | refine QX.one rfl (One.build0 tabOk rfl rfl) ?_) | (refine QX.k 18 ?_; first | refine QX.one rfl (One.fieldRat tabOk rfl rfl rfl rfl (by decide) rfl rfl) ?_)) <;> (first | refine QSg.pass ?_ | (((try simp only [zn]) <;> (try simp (disch := omega) only [zz hA, zb, zy, reduceCtorEq, Bool.false_eq_true, Int.reduceLT, Int.reduceLE, Int.reduceNeg]) <;> (try simp only [zw])) <;> omega)))
        | (refine QX.one rfl (One.fcall 0 (ord2_c hA ranks _ _ hr) rfl rfl rfl rfl rfl rfl rfl rfl) ?_)
        | refine QX.raw ?_)
    | refine Thn.exit ?_
    | refine Blk.here ?_
    | refine Blk.other (by decide) ?_
    | refine ⟨.inl rfl, _, RetOk.ev tabOk (by conv => lhs; cbv), ?_⟩
    | fail)
  refine rPV_then (by conv => lhs; cbv) ?_
  rfl
end Go.Proofs.Ytinehodamekjgaa.Aw

/- The plain law of classes: first ones. -/
set_option linter.unusedVariables false
set_option linter.unusedSimpArgs false
namespace Go.Proofs.Ytinehodamekjgaa.Aw
open Go Go.RowKit
def iterF (V : List Int) : Nat → Int → Int
  | 0, n => n
  | k + 1, n => iterF V k (V.getD n.toNat default)
def findU (V : List Int) (n : Int) : Int := iterF V V.length n
structure RightU (V ranks : List Int) : Prop where
  ok : ∀ n : Nat, n < V.length → V.getD n default = n ∨ (0 ≤ V.getD n default ∧ V.getD n default < V.length ∧ lessM ranks (V.getD n default) n = true)
theorem less_iff (ranks : List Int) (a b : Int) : lessM ranks a b = true ↔ rankM ranks a < rankM ranks b ∨ rankM ranks a = rankM ranks b ∧ a < b := by simp [lessM]
theorem less_irr (ranks : List Int) (a : Int) : lessM ranks a a = false := by simp [lessM]
theorem less_trans {ranks : List Int} {a b c : Int} (h : lessM ranks a b = true) (k : lessM ranks b c = true) : lessM ranks a c = true := by
  rw [less_iff] at *; omega
theorem less_tri (ranks : List Int) {a b : Int} (h : a ≠ b) : lessM ranks a b = true ∨ lessM ranks b a = true := by
  rw [less_iff, less_iff]; omega
def muU (V ranks : List Int) (n : Int) : Nat := (List.range V.length).countP fun m => lessM ranks ((m : Nat) : Int) n
theorem countP_lt {α : Type} {p q : α → Bool} : ∀ {l : List α} {x : α}, (∀ y ∈ l, p y = true → q y = true) → x ∈ l → q x = true → p x = false → l.countP p < l.countP q
  | [], x, h, hx, hq, hp => by simp at hx
  | y :: r, x, h, hx, hq, hp => by
    have hmono : r.countP p ≤ r.countP q := List.countP_mono_left fun z hz => h z (List.mem_cons_of_mem _ hz)
    rcases List.mem_cons.1 hx with rfl | hx
    · rw [List.countP_cons, List.countP_cons, hq, hp]
      simp; omega
    · have ih := countP_lt (l := r) (fun z hz => h z (List.mem_cons_of_mem _ hz)) hx hq hp
      rw [List.countP_cons, List.countP_cons]
      have := h y List.mem_cons_self
      cases hpy : p y <;> cases hqy : q y <;> simp_all <;> omega
theorem muU_lt {V ranks : List Int} {p n : Int} (h0 : 0 ≤ p) (h1 : p < V.length) (h : lessM ranks p n = true) : muU V ranks p < muU V ranks n := by
  refine countP_lt (x := p.toNat) (fun y _ hy => less_trans hy h) (List.mem_range.2 (by omega)) ?_ ?_
  · rw [show ((p.toNat : Nat) : Int) = p by omega]; exact h
  · rw [show ((p.toNat : Nat) : Int) = p by omega]; exact less_irr _ _
theorem muU_bound {V ranks : List Int} {n : Nat} (h : n < V.length) : muU V ranks n < V.length := by
  have := countP_lt (p := fun m : Nat => lessM ranks ((m : Nat) : Int) n) (q := fun _ => true) (l := List.range V.length) (x := n) (fun _ _ _ => rfl) (List.mem_range.2 h) rfl (less_irr _ _)
  simpa [muU] using this
theorem iterF_add (V : List Int) (a b : Nat) (n : Int) : iterF V (a + b) n = iterF V b (iterF V a n) := by
  induction a generalizing n with
  | zero => simp [iterF]
  | succ a ih => rw [Nat.succ_add]; exact ih _
theorem iterF_succ (V : List Int) (k : Nat) (n : Int) : iterF V (k + 1) n = V.getD (iterF V k n).toNat default := by
  rw [iterF_add]; rfl
theorem iterF_root {V : List Int} {n : Int} (h : V.getD n.toNat default = n) (k : Nat) : iterF V k n = n := by
  induction k with
  | zero => rfl
  | succ k ih => rw [iterF, h, ih]
variable {V ranks : List Int} (hR : RightU V ranks)
include hR
theorem step_range {n : Int} (h0 : 0 ≤ n) (h1 : n < V.length) : 0 ≤ V.getD n.toNat default ∧ V.getD n.toNat default < V.length := by
  rcases hR.ok n.toNat (by omega) with h | ⟨a, b, _⟩
  · rw [h]; omega
  · exact ⟨a, b⟩
theorem iter_range {n : Int} (h0 : 0 ≤ n) (h1 : n < V.length) (k : Nat) : 0 ≤ iterF V k n ∧ iterF V k n < V.length := by
  induction k with
  | zero => exact ⟨h0, h1⟩
  | succ k ih => rw [iterF_succ]; exact step_range hR ih.1 ih.2
theorem reach {n : Int} (h0 : 0 ≤ n) (h1 : n < V.length) (m : Nat) (hm : muU V ranks n ≤ m) : V.getD (iterF V m n).toNat default = iterF V m n := by
  induction m generalizing n with
  | zero =>
    rcases hR.ok n.toNat (by omega) with h | ⟨a, b, c⟩
    · show V.getD n.toNat default = n
      rw [h]; omega
    · rw [show ((n.toNat : Nat) : Int) = n by omega] at c
      have := muU_lt a b c
      omega
  | succ m ih =>
    rcases hR.ok n.toNat (by omega) with h | ⟨a, b, c⟩
    · have h' : V.getD n.toNat default = n := by rw [h]; omega
      rw [iterF_root h', h']
    · rw [show ((n.toNat : Nat) : Int) = n by omega] at c
      have := muU_lt a b c
      exact ih a b (by omega)
theorem find_fix {n : Int} (h0 : 0 ≤ n) (h1 : n < V.length) : V.getD (findU V n).toNat default = findU V n := by
  refine reach hR h0 h1 _ ?_
  have := muU_bound (ranks := ranks) (V := V) (n := n.toNat) (by omega)
  rw [show ((n.toNat : Nat) : Int) = n by omega] at this
  omega
theorem find_range {n : Int} (h0 : 0 ≤ n) (h1 : n < V.length) : 0 ≤ findU V n ∧ findU V n < V.length := iter_range hR h0 h1 _
theorem find_step {n : Int} (h0 : 0 ≤ n) (h1 : n < V.length) : findU V (V.getD n.toNat default) = findU V n := by
  show iterF V (V.length + 1) n = _
  rw [iterF_succ]
  exact find_fix hR h0 h1
omit hR in
theorem find_root {n : Int} (h : V.getD n.toNat default = n) : findU V n = n := iterF_root h _
theorem find_find {n : Int} (h0 : 0 ≤ n) (h1 : n < V.length) : findU V (findU V n) = findU V n := find_root (find_fix hR h0 h1)
theorem find_less {n : Int} (h0 : 0 ≤ n) (h1 : n < V.length) (k : Nat) : iterF V k n = n ∨ lessM ranks (iterF V k n) n = true := by
  induction k with
  | zero => exact .inl rfl
  | succ k ih =>
    obtain ⟨a, b⟩ := iter_range hR h0 h1 k
    rw [iterF_succ]
    rcases hR.ok (iterF V k n).toNat (by omega) with h | ⟨_, _, c⟩
    · rw [h, show (((iterF V k n).toNat : Nat) : Int) = iterF V k n by omega]; exact ih
    · rw [show (((iterF V k n).toNat : Nat) : Int) = iterF V k n by omega] at c
      rcases ih with ih | ih
      · rw [ih] at c ⊢; exact .inr c
      · exact .inr (less_trans c ih)
end Go.Proofs.Ytinehodamekjgaa.Aw

/- Contracts of package uf, part 2: Find, Join. -/
set_option linter.unusedVariables false
set_option linter.unusedSimpArgs false
namespace Go.Proofs.Ytinehodamekjgaa.Aw
open Go Go.RowKit
set_option maxRecDepth 10000
attribute [local irreducible] AWp AOL QS One AOLg QSg NX QX
variable {A : Ar} (hA : A = real)
include hA
theorem find_c (V : List Int) (N : List (Int × Int)) (M ranks : List Int) (hR : RightU V ranks) (z : Int) (h0 : 0 ≤ z) (h1 : z < V.length) : PureCalls Try.prog 28 [clP A V N M, IP z] (IP (hid A (findU V z))) := by
  refine PureCalls.of Try.func28 rfl (by kernel_rfl) rfl ?_
  try first | refine AOLg.of [] ?_ | refine QSg.of [] ?_
  repeat' (first
    | (refine AWp.pass ?_; first
        | refine AWp.seq ?_
        | refine AWp.block ?_
        | refine AWp.skip ?_
        | refine AWp.regG [] (by conv => lhs; cbv) ?_
        | refine AWp.cond_t rfl ?_
        | refine AWp.cond_f rfl ?_
        | (refine AWp.cond rfl ?_ ?_ <;> intro hc <;> (try rw [hc]) <;> ((try simp only [zn] at hc) <;> (try simp (disch := omega) only [zz hA, zb, zy, reduceCtorEq, Bool.false_eq_true, Int.reduceLT, Int.reduceLE, Int.reduceNeg] at hc) <;> (try simp only [zw] at hc)) <;> (try (exfalso; omega)))
        | refine AWp.exit ?_
        | refine AWp.ret ⟨.inr rfl, _, RetOk.ev tabOk (by conv => lhs; cbv), ?_⟩
        | refine AWp.drawKG [] 0 rfl (by decide +kernel) (by conv => lhs; cbv) (by conv => lhs; cbv) ?_
        | refine AWp.drawKG [] 1 rfl (by decide +kernel) (by conv => lhs; cbv) (by conv => lhs; cbv) ?_
        | refine AWp.drawKG [] 2 rfl (by decide +kernel) (by conv => lhs; cbv) (by conv => lhs; cbv) ?_
        | refine AWp.drawKG [] 3 rfl (by decide +kernel) (by conv => lhs; cbv) (by conv => lhs; cbv) ?_
        | refine AWp.drawKG [] 4 rfl (by decide +kernel) (by conv => lhs; cbv) (by conv => lhs; cbv) ?_
        | refine AWp.drawKG [] 5 rfl (by decide +kernel) (by conv => lhs; cbv) (by conv => lhs; cbv) ?_
        | refine AWp.drawKG [] 6 rfl (by decide +kernel) (by conv => lhs; cbv) (by conv => lhs; cbv) ?_
        | refine AWp.drawKG [] 8 rfl (by decide +kernel) (by conv => lhs; cbv) (by conv => lhs; cbv) ?_)
    | (refine AOLg.pass ?_; refine AOLg.nx hA tabOk (by conv => lhs; cbv) ?_; first
        | refine NX.done ?_
        | refine NX.gt ?_
        | refine NX.gf ?_
        | (refine NX.gs ?_ ?_ <;> intro hc <;> rw [hc] <;> ((try simp only [zn] at hc) <;> (try simp (disch := omega) only [zz hA, zb, zy, reduceCtorEq, Bool.false_eq_true, Int.reduceLT, Int.reduceLE, Int.reduceNeg] at hc) <;> (try simp only [zw] at hc)) <;> (try (exfalso; omega)))
        | ((first | (refine NX.k 1 ?_; first | refine NX.one (One.elemM hA tabOk rfl rfl rfl rfl ?_ ?_) ?_ | refine NX.one (One.elemOwnM hA tabOk rfl rfl rfl rfl rfl ?_ ?_) ?_) | (refine NX.k 2 ?_; first | refine NX.one (One.clipM tabOk rfl rfl rfl rfl rfl ?_ ?_) ?_ | refine NX.one (One.cut_hM hA tabOk rfl rfl rfl rfl ?_ ?_) ?_ | refine NX.one (One.cut_lM hA tabOk rfl rfl rfl rfl ?_ ?_) ?_ | refine NX.one (One.cut_lhM hA tabOk rfl rfl rfl rfl rfl ?_ ?_ ?_) ?_) | (refine NX.k 3 ?_; first | refine NX.one (One.quoM hA rfl rfl rfl ?_) ?_) | (refine NX.k 4 ?_; first | refine NX.one (One.remM hA rfl rfl rfl ?_) ?_) | (refine NX.k 5 ?_; first | refine NX.one (One.shrM hA rfl rfl rfl ?_) ?_) | (refine NX.k 6 ?_; first | refine NX.one (One.bitsM hA rfl rfl rfl rfl) ?_) | (refine NX.k 7 ?_; first | refine NX.one (One.concatM hA rfl rfl rfl ?_) ?_) | (refine NX.k 8 ?_; first | refine NX.one (One.eqBoolM hA tabOk rfl rfl rfl rfl rfl) ?_) | (refine NX.k 9 ?_; first | refine NX.one (One.neBoolM hA tabOk rfl rfl rfl rfl rfl) ?_) | (refine NX.k 10 ?_; first | refine NX.one (One.lenOwnM hA tabOk rfl rfl rfl rfl) ?_) | (refine NX.k 11 ?_; first | refine NX.one (One.appendM hA tabOk _ rfl rfl rfl rfl rfl rfl ?_ ?_) ?_ | refine NX.one (One.appendMM hA tabOk rfl rfl rfl rfl rfl ?_ ?_) ?_ | refine NX.one (One.appendOwnM hA tabOk _ rfl rfl rfl rfl rfl rfl rfl ?_ ?_) ?_ | refine NX.one (One.appendOwnMM hA tabOk rfl rfl rfl rfl rfl rfl ?_ ?_) ?_ | refine NX.one (One.appendOwn0 hA tabOk rfl rfl rfl rfl rfl rfl ?_ ?_) ?_) | (refine NX.k 13 ?_; first | refine NX.one (One.byteM hA tabOk rfl rfl rfl rfl rfl ?_ ?_) ?_) | (refine NX.k 14 ?_; first | refine NX.one (One.loadRatM hA tabOk rfl rfl rfl rfl rfl rfl ?_) ?_) | (refine NX.k 15 ?_; first | refine NX.one (One.storeRatM hA tabOk _ rfl rfl rfl rfl rfl rfl rfl rfl (fun _ => rfl) ?_) ?_) | (refine NX.k 16 ?_; first | refine NX.one (One.makeM hA tabOk encI 0 rfl rfl rfl rfl rfl rfl rfl ?_ ?_ ?_) ?_) | (refine NX.k 17 ?_; first | refine NX.one (One.build0 tabOk rfl rfl) ?_) | (refine NX.k 18 ?_; first | refine NX.one (One.fieldRat tabOk rfl rfl rfl rfl (by decide) rfl rfl) ?_)) <;> (first | refine AOLg.pass ?_ | (((try simp only [zn]) <;> (try simp (disch := omega) only [zz hA, zb, zy, reduceCtorEq, Bool.false_eq_true, Int.reduceLT, Int.reduceLE, Int.reduceNeg]) <;> (try simp only [zw])) <;> omega)))
        | refine NX.raw ?_)
    | (refine QSg.pass ?_; refine QSg.nx hA tabOk (by conv => lhs; cbv) ?_; first
        | refine QX.done ?_
        | refine QX.gt ?_
        | refine QX.gf ?_
        | (refine QX.gs ?_ ?_ <;> intro hc <;> rw [hc] <;> ((try simp only [zn] at hc) <;> (try simp (disch := omega) only [zz hA, zb, zy, reduceCtorEq, Bool.false_eq_true, Int.reduceLT, Int.reduceLE, Int.reduceNeg] at hc) <;> (try simp only [zw] at hc)) <;> (try (exfalso; omega)))
        | ((first | (refine QX.k 1 ?_; first | refine QX.one rfl (One.elemM hA tabOk rfl rfl rfl rfl ?_ ?_) ?_ | refine QX.one rfl (One.elemOwnM hA tabOk rfl rfl rfl rfl rfl ?_ ?_) ?_) | (refine QX.k 2 ?_; first | refine QX.one rfl (One.clipM tabOk rfl rfl rfl rfl rfl ?_ ?_) ?_ | refine QX.one rfl (One.cut_hM hA tabOk rfl rfl rfl rfl ?_ ?_) ?_ | refine QX.one rfl (One.cut_lM hA tabOk rfl rfl rfl rfl ?_ ?_) ?_ | refine QX.one rfl (One.cut_lhM hA tabOk rfl rfl rfl rfl rfl ?_ ?_ ?_) ?_) | (refine QX.k 3 ?_; first | refine QX.one rfl (One.quoM hA rfl rfl rfl ?_) ?_) | (refine QX.k 4 ?_; first | refine QX.one rfl (One.remM hA rfl rfl rfl ?_) ?_) | (refine QX.k 5 ?_; first | refine QX.one rfl (One.shrM hA rfl rfl rfl ?_) ?_) | (refine QX.k 6 ?_; first | refine QX.one rfl (One.bitsM hA rfl rfl rfl rfl) ?_) | (refine QX.k 7 ?_; first | refine QX.one rfl (One.concatM hA rfl rfl rfl ?_) ?_) | (refine QX.k 8 ?_; first | refine QX.one rfl (One.eqBoolM hA tabOk rfl rfl rfl rfl rfl) ?_) | (refine QX.k 9 ?_; first | refine QX.one rfl (One.neBoolM hA tabOk rfl rfl rfl rfl rfl) ?_) | (refine QX.k 10 ?_; first | refine QX.one rfl (One.lenOwnM hA tabOk rfl rfl rfl rfl) ?_) | (refine QX.k 11 ?_; first | refine QX.one rfl (One.appendM hA tabOk _ rfl rfl rfl rfl rfl rfl ?_ ?_) ?_ | refine QX.one rfl (One.appendMM hA tabOk rfl rfl rfl rfl rfl ?_ ?_) ?_ | refine QX.one rfl (One.appendOwnM hA tabOk _ rfl rfl rfl rfl rfl rfl rfl ?_ ?_) ?_ | refine QX.one rfl (One.appendOwnMM hA tabOk rfl rfl rfl rfl rfl rfl ?_ ?_) ?_ | refine QX.one rfl (One.appendOwn0 hA tabOk rfl rfl rfl rfl rfl rfl ?_ ?_) ?_) | (refine QX.k 13 ?_; first | refine QX.one rfl (One.byteM hA tabOk rfl rfl rfl rfl rfl ?_ ?_) ?_) | (refine QX.k 14 ?_; first | refine QX.one rfl (One.loadRatM hA tabOk rfl rfl rfl rfl rfl rfl ?_) ?_) | (refine QX.k 15 ?_; first | refine QX.one rfl (One.storeRatM hA tabOk _ rfl rfl rfl rfl rfl rfl rfl rfl (fun _ => rfl) ?_) ?_) | (refine QX.k 16 ?_; first | refine QX.one rfl (One.makeM hA tabOk encI 0 rfl rfl rfl rfl rfl rfl rfl ?_ ?_ ?_) ?_) | (refine QX.k 17 ?_; first | refine QX.one rfl (One.build0 tabOk rfl rfl) ?_) | (refine QX.k 18 ?_; first | refine QX.one rfl (One.fieldRat tabOk rfl rfl rfl rfl (by decide) rfl rfl) ?_)) <;> (first | refine QSg.pass ?_ | (((try simp only [zn]) <;> (try simp (disch := omega) only [zz hA, zb, zy, reduceCtorEq, Bool.false_eq_true, Int.reduceLT, Int.reduceLE, Int.reduceNeg]) <;> (try simp only [zw])) <;> omega)))
        | refine QX.raw ?_)
    | refine Thn.exit ?_
    | refine Blk.here ?_
    | refine Blk.other (by decide) ?_
    | refine ⟨.inl rfl, _, RetOk.ev tabOk (by conv => lhs; cbv), ?_⟩
    | fail)
  refine AWp.loopU (fun x : Nat => [(1, .ic (.lit (.int .i64 (hid A (cN x)))))]) (fun _ => [.var true 25 [.ic (.sl 1 false (hid A (List.map encI V))), .ic (.sl 2 false (hid A (List.map encN N))), .ic (.sl 1 false (hid A (List.map encI M)))]]) (fun x => muU V ranks x) (fun x => x < V.length ∧ findU V x = findU V z) z.toNat (by conv => lhs; cbv) ⟨by omega, by rw [show ((z.toNat : Nat) : Int) = z by omega]⟩ (.int rfl (by simp only [hA, real, hid, cN]; omega) .nil) rfl ?_
  rintro x ⟨hx, hf⟩
  have hs := step_range hR (n := (x : Int)) (by omega) (by omega)
  rw [Int.toNat_natCast] at hs
  try first | refine AOLg.of [] ?_ | refine QSg.of [] ?_
  repeat' (first
    | (refine AWp.pass ?_; first
        | refine AWp.seq ?_
        | refine AWp.block ?_
        | refine AWp.skip ?_
        | refine AWp.regG [] (by conv => lhs; cbv) ?_
        | refine AWp.cond_t rfl ?_
        | refine AWp.cond_f rfl ?_
        | (refine AWp.cond rfl ?_ ?_ <;> intro hc <;> (try rw [hc]) <;> ((try simp only [zn] at hc) <;> (try simp (disch := omega) only [zz hA, zb, zy, reduceCtorEq, Bool.false_eq_true, Int.reduceLT, Int.reduceLE, Int.reduceNeg] at hc) <;> (try simp only [zw] at hc)) <;> (try (exfalso; omega)))
        | refine AWp.exit ?_
        | refine AWp.ret ⟨.inr rfl, _, RetOk.ev tabOk (by conv => lhs; cbv), ?_⟩
        | refine AWp.drawKG [] 0 rfl (by decide +kernel) (by conv => lhs; cbv) (by conv => lhs; cbv) ?_
        | refine AWp.drawKG [] 1 rfl (by decide +kernel) (by conv => lhs; cbv) (by conv => lhs; cbv) ?_
        | refine AWp.drawKG [] 2 rfl (by decide +kernel) (by conv => lhs; cbv) (by conv => lhs; cbv) ?_
        | refine AWp.drawKG [] 3 rfl (by decide +kernel) (by conv => lhs; cbv) (by conv => lhs; cbv) ?_
        | refine AWp.drawKG [] 4 rfl (by decide +kernel) (by conv => lhs; cbv) (by conv => lhs; cbv) ?_
        | refine AWp.drawKG [] 5 rfl (by decide +kernel) (by conv => lhs; cbv) (by conv => lhs; cbv) ?_
        | refine AWp.drawKG [] 6 rfl (by decide +kernel) (by conv => lhs; cbv) (by conv => lhs; cbv) ?_
        | refine AWp.drawKG [] 8 rfl (by decide +kernel) (by conv => lhs; cbv) (by conv => lhs; cbv) ?_)
    | (refine AOLg.pass ?_; refine AOLg.nx hA tabOk (by conv => lhs; cbv) ?_; first
        | refine NX.done ?_
        | refine NX.gt ?_
        | refine NX.gf ?_
        | (refine NX.gs ?_ ?_ <;> intro hc <;> rw [hc] <;> ((try simp only [zn] at hc) <;> (try simp (disch := omega) only [zz hA, zb, zy, reduceCtorEq, Bool.false_eq_true, Int.reduceLT, Int.reduceLE, Int.reduceNeg] at hc) <;> (try simp only [zw] at hc)) <;> (try (exfalso; omega)))
        | ((first | (refine NX.k 1 ?_; first | refine NX.one (One.elemM hA tabOk rfl rfl rfl rfl ?_ ?_) ?_ | refine NX.one (One.elemOwnM hA tabOk rfl rfl rfl rfl rfl ?_ ?_) ?_) | (refine NX.k 2 ?_; first | refine NX.one (One.clipM tabOk rfl rfl rfl rfl rfl ?_ ?_) ?_ | refine NX.one (One.cut_hM hA tabOk rfl rfl rfl rfl ?_ ?_) ?_ | refine NX.one (One.cut_lM hA tabOk rfl rfl rfl rfl ?_ ?_) ?_ | refine NX.one (One.cut_lhM hA tabOk rfl rfl rfl rfl rfl ?_ ?_ ?_) ?_) | (refine NX.k 3 ?_; first | refine NX.one (One.quoM hA rfl rfl rfl ?_) ?_) | (refine NX.k 4 ?_; first | refine NX.one (One.remM hA rfl rfl rfl ?_) ?_) | (refine NX.k 5 ?_; first | refine NX.one (One.shrM hA rfl rfl rfl ?_) ?_) | (refine NX.k 6 ?_; first | refine NX.one (One.bitsM hA rfl rfl rfl rfl) ?_) | (refine NX.k 7 ?_; first | refine NX.one (One.concatM hA rfl rfl rfl ?_) ?_) | (refine NX.k 8 ?_; first | refine NX.one (One.eqBoolM hA tabOk rfl rfl rfl rfl rfl) ?_) | (refine NX.k 9 ?_; first | refine NX.one (One.neBoolM hA tabOk rfl rfl rfl rfl rfl) ?_) | (refine NX.k 10 ?_; first | refine NX.one (One.lenOwnM hA tabOk rfl rfl rfl rfl) ?_) | (refine NX.k 11 ?_; first | refine NX.one (One.appendM hA tabOk _ rfl rfl rfl rfl rfl rfl ?_ ?_) ?_ | refine NX.one (One.appendMM hA tabOk rfl rfl rfl rfl rfl ?_ ?_) ?_ | refine NX.one (One.appendOwnM hA tabOk _ rfl rfl rfl rfl rfl rfl rfl ?_ ?_) ?_ | refine NX.one (One.appendOwnMM hA tabOk rfl rfl rfl rfl rfl rfl ?_ ?_) ?_ | refine NX.one (One.appendOwn0 hA tabOk rfl rfl rfl rfl rfl rfl ?_ ?_) ?_) | (refine NX.k 13 ?_; first | refine NX.one (One.byteM hA tabOk rfl rfl rfl rfl rfl ?_ ?_) ?_) | (refine NX.k 14 ?_; first | refine NX.one (One.loadRatM hA tabOk rfl rfl rfl rfl rfl rfl ?_) ?_) | (refine NX.k 15 ?_; first | refine NX.one (One.storeRatM hA tabOk _ rfl rfl rfl rfl rfl rfl rfl rfl (fun _ => rfl) ?_) ?_) | (refine NX.k 16 ?_; first | refine NX.one (One.makeM hA tabOk encI 0 rfl rfl rfl rfl rfl rfl rfl ?_ ?_ ?_) ?_) | (refine NX.k 17 ?_; first | refine NX.one (One.build0 tabOk rfl rfl) ?_) | (refine NX.k 18 ?_; first | refine NX.one (One.fieldRat tabOk rfl rfl rfl rfl (by decide) rfl rfl) ?_)) <;> (first | refine AOLg.pass ?_ | (((try simp only [zn]) <;> (try simp (disch := omega) only [zz hA, zb, zy, reduceCtorEq, Bool.false_eq_true, Int.reduceLT, Int.reduceLE, Int.reduceNeg]) <;> (try simp only [zw])) <;> omega)))
        | refine NX.raw ?_)
    | (refine QSg.pass ?_; refine QSg.nx hA tabOk (by conv => lhs; cbv) ?_; first
        | refine QX.done ?_
        | refine QX.gt ?_
        | refine QX.gf ?_
        | (refine QX.gs ?_ ?_ <;> intro hc <;> rw [hc] <;> ((try simp only [zn] at hc) <;> (try simp (disch := omega) only [zz hA, zb, zy, reduceCtorEq, Bool.false_eq_true, Int.reduceLT, Int.reduceLE, Int.reduceNeg] at hc) <;> (try simp only [zw] at hc)) <;> (try (exfalso; omega)))
        | ((first | (refine QX.k 1 ?_; first | refine QX.one rfl (One.elemM hA tabOk rfl rfl rfl rfl ?_ ?_) ?_ | refine QX.one rfl (One.elemOwnM hA tabOk rfl rfl rfl rfl rfl ?_ ?_) ?_) | (refine QX.k 2 ?_; first | refine QX.one rfl (One.clipM tabOk rfl rfl rfl rfl rfl ?_ ?_) ?_ | refine QX.one rfl (One.cut_hM hA tabOk rfl rfl rfl rfl ?_ ?_) ?_ | refine QX.one rfl (One.cut_lM hA tabOk rfl rfl rfl rfl ?_ ?_) ?_ | refine QX.one rfl (One.cut_lhM hA tabOk rfl rfl rfl rfl rfl ?_ ?_ ?_) ?_) | (refine QX.k 3 ?_; first | refine QX.one rfl (One.quoM hA rfl rfl rfl ?_) ?_) | (refine QX.k 4 ?_; first | refine QX.one rfl (One.remM hA rfl rfl rfl ?_) ?_) | (refine QX.k 5 ?_; first | refine QX.one rfl (One.shrM hA rfl rfl rfl ?_) ?_) | (refine QX.k 6 ?_; first | refine QX.one rfl (One.bitsM hA rfl rfl rfl rfl) ?_) | (refine QX.k 7 ?_; first | refine QX.one rfl (One.concatM hA rfl rfl rfl ?_) ?_) | (refine QX.k 8 ?_; first | refine QX.one rfl (One.eqBoolM hA tabOk rfl rfl rfl rfl rfl) ?_) | (refine QX.k 9 ?_; first | refine QX.one rfl (One.neBoolM hA tabOk rfl rfl rfl rfl rfl) ?_) | (refine QX.k 10 ?_; first | refine QX.one rfl (One.lenOwnM hA tabOk rfl rfl rfl rfl) ?_) | (refine QX.k 11 ?_; first | refine QX.one rfl (One.appendM hA tabOk _ rfl rfl rfl rfl rfl rfl ?_ ?_) ?_ | refine QX.one rfl (One.appendMM hA tabOk rfl rfl rfl rfl rfl ?_ ?_) ?_ | refine QX.one rfl (One.appendOwnM hA tabOk _ rfl rfl rfl rfl rfl rfl rfl ?_ ?_) ?_ | refine QX.one rfl (One.appendOwnMM hA tabOk rfl rfl rfl rfl rfl rfl ?_ ?_) ?_ | refine QX.one rfl (One.appendOwn0 hA tabOk rfl rfl rfl rfl rfl rfl ?_ ?_) ?_) | (refine QX.k 13 ?_; first | refine QX.one rfl (One.byteM hA tabOk rfl rfl rfl rfl rfl ?_ ?_) ?_) | (refine QX.k 14 ?_; first | refine QX.one rfl (One.loadRatM hA tabOk rfl rfl rfl rfl rfl rfl ?_) ?_) | (refine QX.k 15 ?_; first | refine QX.one rfl (One.storeRatM hA tabOk _ rfl rfl rfl rfl rfl rfl rfl rfl (fun _ => rfl) ?_) ?_) | (refine QX.k 16 ?_; first | refine QX.one rfl (One.makeM hA tabOk encI 0 rfl rfl rfl rfl rfl rfl rfl ?_ ?_ ?_) ?_) | (refine QX.k 17 ?_; first | refine QX.one rfl (One.build0 tabOk rfl rfl) ?_) | (refine QX.k 18 ?_; first | refine QX.one rfl (One.fieldRat tabOk rfl rfl rfl rfl (by decide) rfl rfl) ?_)) <;> (first | refine QSg.pass ?_ | (((try simp only [zn]) <;> (try simp (disch := omega) only [zz hA, zb, zy, reduceCtorEq, Bool.false_eq_true, Int.reduceLT, Int.reduceLE, Int.reduceNeg]) <;> (try simp only [zw])) <;> omega)))
        | refine QX.raw ?_)
    | refine Thn.exit ?_
    | refine Blk.here ?_
    | refine Blk.other (by decide) ?_
    | refine ⟨.inl rfl, _, RetOk.ev tabOk (by conv => lhs; cbv), ?_⟩
    | fail)
  · have hst := find_step hR (n := (x : Int)) (by omega) (by omega)
    rw [Int.toNat_natCast] at hst
    have hlt : muU V ranks ((V.getD x default).toNat : Nat) < muU V ranks x := by
      rw [show (((V.getD x default).toNat : Nat) : Int) = V.getD x default by omega]
      rcases hR.ok x hx with h | ⟨a, b, c⟩
      · exact absurd h hc
      · exact muU_lt a b c
    refine ⟨(V.getD x default).toNat, ?_, ?_, rfl, rfl, ?_, (by repeat' (first | exact subE.nil | refine subE.cons rfl ?_))⟩ <;> (try omega)
    repeat' (first | exact subE.nil | refine subE.cons rfl ?_ | refine subE.int rfl ?_ ?_ | refine subE.bool rfl ?_ ?_ | refine subE.str rfl ?_ ?_ | refine subE.sl rfl ?_ ?_)
    · refine ⟨by omega, ?_⟩
      rw [show (((V.getD x default).toNat : Nat) : Int) = V.getD x default by omega, hst, hf]
    · (((try simp only [zn]) <;> (try simp (disch := omega) only [zz hA, zb, zy, reduceCtorEq, Bool.false_eq_true, Int.reduceLT, Int.reduceLE, Int.reduceNeg]) <;> (try simp only [zw])) <;> omega)
  · refine rPV_then (by conv => lhs; cbv) ?_
    rw [← hf, find_root (by rw [Int.toNat_natCast]; exact hc)]
    ((try simp only [zn]) <;> (try simp (disch := omega) only [zz hA, zb, zy, reduceCtorEq, Bool.false_eq_true, Int.reduceLT, Int.reduceLE, Int.reduceNeg]) <;> (try simp only [zw]))
omit hA in
theorem rowI (V : List Int) : List.map encI V = ints V := rfl
theorem set_n (V : List Int) (N : List (Int × Int)) (M : List Int) (z v : Int) (h0 : 0 ≤ z) (h1 : z < V.length) (hN : N.length ≤ 1000000) (hV : V.length ≤ 1000000) : PureCalls Try.prog 16 [clP A V N M, IP z, IP v] (.tup [clP A (V.set z.toNat v) (N ++ [(z, V.getD z.toNat default)]) M, IP 0]) := by
  have := set_c1 hA (hid A (List.map encI V)) (hid A (List.map encN N)) (hid A (List.map encI M)) z.toNat (V.getD z.toNat default) v (by simpa [hid_eq hA] using hN) (by simpa [hid_eq hA] using hV) (by rw [hid_eq hA]; simp [show z.toNat < V.length by omega, encI])
  rw [show ((z.toNat : Nat) : Int) = z by omega] at this
  simp only [clP, hid_eq hA, List.map_set, List.map_append] at this ⊢
  exact this
theorem grow_n (V : List Int) (N : List (Int × Int)) (M : List Int) (v : Int) (hN : N.length ≤ 1000000) (hV : V.length ≤ 1000000) : PureCalls Try.prog 21 [clP A V N M, IP v] (clP A (V ++ [v]) (N ++ [(-1, 0)]) M) := by
  have := grow_c hA (hid A (List.map encI V)) (hid A (List.map encN N)) (hid A (List.map encI M)) v (by simpa [hid_eq hA] using hN) (by simpa [hid_eq hA] using hV)
  simp only [clP, hid_eq hA, List.map_append] at this ⊢
  exact this
theorem mark_n (V : List Int) (N : List (Int × Int)) (M : List Int) (hM : M.length ≤ 1000000) : PureCalls Try.prog 17 [clP A V N M] (clP A V N (M ++ [(N.length : Int)])) := by
  have := mark_c hA (hid A (List.map encI V)) (hid A (List.map encN N)) (hid A (List.map encI M)) (by simpa [hid_eq hA] using hM)
  simp only [clP, hid_eq hA, List.map_append, List.length_map] at this ⊢
  exact this
theorem add_c (V : List Int) (N : List (Int × Int)) (M : List Int) (hN : N.length ≤ 1000000) (hV : V.length ≤ 1000000) : PureCalls Try.prog 32 [clP A V N M] (clP A (V ++ [(V.length : Int)]) (N ++ [(-1, 0)]) M) := by
  have hg := grow_n hA V N M (A .len (hid A (List.map encI V))) hN hV
  rw [show (A .len (hid A (List.map encI V)) : Int) = V.length by simp [hA, real, hid]] at hg
  have e : (A .len (hid A (List.map encI V)) : Int) = V.length := by simp [hA, real, hid]
  rw [← e] at hg ⊢
  refine PureCalls.of Try.func32 rfl (by kernel_rfl) rfl ?_
  try first | refine AOLg.of [] ?_ | refine QSg.of [] ?_
  repeat' (first
    | (refine AWp.pass ?_; first
        | refine AWp.seq ?_
        | refine AWp.block ?_
        | refine AWp.skip ?_
        | refine AWp.regG [] (by conv => lhs; cbv) ?_
        | refine AWp.cond_t rfl ?_
        | refine AWp.cond_f rfl ?_
        | (refine AWp.cond rfl ?_ ?_ <;> intro hc <;> (try rw [hc]) <;> ((try simp only [zn] at hc) <;> (try simp (disch := omega) only [zz hA, zb, zy, reduceCtorEq, Bool.false_eq_true, Int.reduceLT, Int.reduceLE, Int.reduceNeg] at hc) <;> (try simp only [zw] at hc)) <;> (try (exfalso; omega)))
        | refine AWp.exit ?_
        | refine AWp.ret ⟨.inr rfl, _, RetOk.ev tabOk (by conv => lhs; cbv), ?_⟩
        | refine AWp.drawKG [] 0 rfl (by decide +kernel) (by conv => lhs; cbv) (by conv => lhs; cbv) ?_
        | refine AWp.drawKG [] 1 rfl (by decide +kernel) (by conv => lhs; cbv) (by conv => lhs; cbv) ?_
        | refine AWp.drawKG [] 2 rfl (by decide +kernel) (by conv => lhs; cbv) (by conv => lhs; cbv) ?_
        | refine AWp.drawKG [] 3 rfl (by decide +kernel) (by conv => lhs; cbv) (by conv => lhs; cbv) ?_
        | refine AWp.drawKG [] 4 rfl (by decide +kernel) (by conv => lhs; cbv) (by conv => lhs; cbv) ?_
        | refine AWp.drawKG [] 5 rfl (by decide +kernel) (by conv => lhs; cbv) (by conv => lhs; cbv) ?_
        | refine AWp.drawKG [] 6 rfl (by decide +kernel) (by conv => lhs; cbv) (by conv => lhs; cbv) ?_
        | refine AWp.drawKG [] 8 rfl (by decide +kernel) (by conv => lhs; cbv) (by conv => lhs; cbv) ?_)
    | (refine AOLg.pass ?_; refine AOLg.nx hA tabOk (by conv => lhs; cbv) ?_; first
        | refine NX.done ?_
        | refine NX.gt ?_
        | refine NX.gf ?_
        | (refine NX.gs ?_ ?_ <;> intro hc <;> rw [hc] <;> ((try simp only [zn] at hc) <;> (try simp (disch := omega) only [zz hA, zb, zy, reduceCtorEq, Bool.false_eq_true, Int.reduceLT, Int.reduceLE, Int.reduceNeg] at hc) <;> (try simp only [zw] at hc)) <;> (try (exfalso; omega)))
        | (refine NX.kC ?_; first | (with_reducible refine NX.call (hg) ?_) | ((first | refine NX.call (hg) ?_)) | fail)
        | (refine NX.kO ?_; (first | refine NX.callO (hg) (by simp [allEq]) rfl ?_))
        | ((first | (refine NX.k 1 ?_; first | refine NX.one (One.elemM hA tabOk rfl rfl rfl rfl ?_ ?_) ?_ | refine NX.one (One.elemOwnM hA tabOk rfl rfl rfl rfl rfl ?_ ?_) ?_) | (refine NX.k 2 ?_; first | refine NX.one (One.clipM tabOk rfl rfl rfl rfl rfl ?_ ?_) ?_ | refine NX.one (One.cut_hM hA tabOk rfl rfl rfl rfl ?_ ?_) ?_ | refine NX.one (One.cut_lM hA tabOk rfl rfl rfl rfl ?_ ?_) ?_ | refine NX.one (One.cut_lhM hA tabOk rfl rfl rfl rfl rfl ?_ ?_ ?_) ?_) | (refine NX.k 3 ?_; first | refine NX.one (One.quoM hA rfl rfl rfl ?_) ?_) | (refine NX.k 4 ?_; first | refine NX.one (One.remM hA rfl rfl rfl ?_) ?_) | (refine NX.k 5 ?_; first | refine NX.one (One.shrM hA rfl rfl rfl ?_) ?_) | (refine NX.k 6 ?_; first | refine NX.one (One.bitsM hA rfl rfl rfl rfl) ?_) | (refine NX.k 7 ?_; first | refine NX.one (One.concatM hA rfl rfl rfl ?_) ?_) | (refine NX.k 8 ?_; first | refine NX.one (One.eqBoolM hA tabOk rfl rfl rfl rfl rfl) ?_) | (refine NX.k 9 ?_; first | refine NX.one (One.neBoolM hA tabOk rfl rfl rfl rfl rfl) ?_) | (refine NX.k 10 ?_; first | refine NX.one (One.lenOwnM hA tabOk rfl rfl rfl rfl) ?_) | (refine NX.k 11 ?_; first | refine NX.one (One.appendM hA tabOk _ rfl rfl rfl rfl rfl rfl ?_ ?_) ?_ | refine NX.one (One.appendMM hA tabOk rfl rfl rfl rfl rfl ?_ ?_) ?_ | refine NX.one (One.appendOwnM hA tabOk _ rfl rfl rfl rfl rfl rfl rfl ?_ ?_) ?_ | refine NX.one (One.appendOwnMM hA tabOk rfl rfl rfl rfl rfl rfl ?_ ?_) ?_ | refine NX.one (One.appendOwn0 hA tabOk rfl rfl rfl rfl rfl rfl ?_ ?_) ?_) | (refine NX.k 13 ?_; first | refine NX.one (One.byteM hA tabOk rfl rfl rfl rfl rfl ?_ ?_) ?_) | (refine NX.k 14 ?_; first | refine NX.one (One.loadRatM hA tabOk rfl rfl rfl rfl rfl rfl ?_) ?_) | (refine NX.k 15 ?_; first | refine NX.one (One.storeRatM hA tabOk _ rfl rfl rfl rfl rfl rfl rfl rfl (fun _ => rfl) ?_) ?_) | (refine NX.k 16 ?_; first | refine NX.one (One.makeM hA tabOk encI 0 rfl rfl rfl rfl rfl rfl rfl ?_ ?_ ?_) ?_) | (refine NX.k 17 ?_; first | refine NX.one (One.build0 tabOk rfl rfl) ?_) | (refine NX.k 18 ?_; first | refine NX.one (One.fieldRat tabOk rfl rfl rfl rfl (by decide) rfl rfl) ?_)) <;> (first | refine AOLg.pass ?_ | (((try simp only [zn]) <;> (try simp (disch := omega) only [zz hA, zb, zy, reduceCtorEq, Bool.false_eq_true, Int.reduceLT, Int.reduceLE, Int.reduceNeg]) <;> (try simp only [zw])) <;> omega)))
        | refine NX.raw ?_)
    | (refine QSg.pass ?_; refine QSg.nx hA tabOk (by conv => lhs; cbv) ?_; first
        | refine QX.done ?_
        | refine QX.gt ?_
        | refine QX.gf ?_
        | (refine QX.gs ?_ ?_ <;> intro hc <;> rw [hc] <;> ((try simp only [zn] at hc) <;> (try simp (disch := omega) only [zz hA, zb, zy, reduceCtorEq, Bool.false_eq_true, Int.reduceLT, Int.reduceLE, Int.reduceNeg] at hc) <;> (try simp only [zw] at hc)) <;> (try (exfalso; omega)))
        | (refine QX.kC ?_; first | (with_reducible refine QX.call (hg) rfl ?_) | ((first | refine QX.call (hg) rfl ?_)) | fail)
        | (refine QX.kO ?_; (first | refine QX.callO (hg) rfl (by simp [allEq]) rfl ?_))
        | ((first | (refine QX.k 1 ?_; first | refine QX.one rfl (One.elemM hA tabOk rfl rfl rfl rfl ?_ ?_) ?_ | refine QX.one rfl (One.elemOwnM hA tabOk rfl rfl rfl rfl rfl ?_ ?_) ?_) | (refine QX.k 2 ?_; first | refine QX.one rfl (One.clipM tabOk rfl rfl rfl rfl rfl ?_ ?_) ?_ | refine QX.one rfl (One.cut_hM hA tabOk rfl rfl rfl rfl ?_ ?_) ?_ | refine QX.one rfl (One.cut_lM hA tabOk rfl rfl rfl rfl ?_ ?_) ?_ | refine QX.one rfl (One.cut_lhM hA tabOk rfl rfl rfl rfl rfl ?_ ?_ ?_) ?_) | (refine QX.k 3 ?_; first | refine QX.one rfl (One.quoM hA rfl rfl rfl ?_) ?_) | (refine QX.k 4 ?_; first | refine QX.one rfl (One.remM hA rfl rfl rfl ?_) ?_) | (refine QX.k 5 ?_; first | refine QX.one rfl (One.shrM hA rfl rfl rfl ?_) ?_) | (refine QX.k 6 ?_; first | refine QX.one rfl (One.bitsM hA rfl rfl rfl rfl) ?_) | (refine QX.k 7 ?_; first | refine QX.one rfl (One.concatM hA rfl rfl rfl ?_) ?_) | (refine QX.k 8 ?_; first | refine QX.one rfl (One.eqBoolM hA tabOk rfl rfl rfl rfl rfl) ?_) | (refine QX.k 9 ?_; first | refine QX.one rfl (One.neBoolM hA tabOk rfl rfl rfl rfl rfl) ?_) | (refine QX.k 10 ?_; first | refine QX.one rfl (One.lenOwnM hA tabOk rfl rfl rfl rfl) ?_) | (refine QX.k 11 ?_; first | refine QX.one rfl (One.appendM hA tabOk _ rfl rfl rfl rfl rfl rfl ?_ ?_) ?_ | refine QX.one rfl (One.appendMM hA tabOk rfl rfl rfl rfl rfl ?_ ?_) ?_ | refine QX.one rfl (One.appendOwnM hA tabOk _ rfl rfl rfl rfl rfl rfl rfl ?_ ?_) ?_ | refine QX.one rfl (One.appendOwnMM hA tabOk rfl rfl rfl rfl rfl rfl ?_ ?_) ?_ | refine QX.one rfl (One.appendOwn0 hA tabOk rfl rfl rfl rfl rfl rfl ?_ ?_) ?_) | (refine QX.k 13 ?_; first | refine QX.one rfl (One.byteM hA tabOk rfl rfl rfl rfl rfl ?_ ?_) ?_) | (refine QX.k 14 ?_; first | refine QX.one rfl (One.loadRatM hA tabOk rfl rfl rfl rfl rfl rfl ?_) ?_) | (refine QX.k 15 ?_; first | refine QX.one rfl (One.storeRatM hA tabOk _ rfl rfl rfl rfl rfl rfl rfl rfl (fun _ => rfl) ?_) ?_) | (refine QX.k 16 ?_; first | refine QX.one rfl (One.makeM hA tabOk encI 0 rfl rfl rfl rfl rfl rfl rfl ?_ ?_ ?_) ?_) | (refine QX.k 17 ?_; first | refine QX.one rfl (One.build0 tabOk rfl rfl) ?_) | (refine QX.k 18 ?_; first | refine QX.one rfl (One.fieldRat tabOk rfl rfl rfl rfl (by decide) rfl rfl) ?_)) <;> (first | refine QSg.pass ?_ | (((try simp only [zn]) <;> (try simp (disch := omega) only [zz hA, zb, zy, reduceCtorEq, Bool.false_eq_true, Int.reduceLT, Int.reduceLE, Int.reduceNeg]) <;> (try simp only [zw])) <;> omega)))
        | refine QX.raw ?_)
    | refine Thn.exit ?_
    | refine Blk.here ?_
    | refine Blk.other (by decide) ?_
    | refine ⟨.inl rfl, _, RetOk.ev tabOk (by conv => lhs; cbv), ?_⟩
    | fail)
  refine rPV_then (by conv => lhs; cbv) ?_
  rfl
/-- The one ahead, and the other one. -/
def joinP (V ranks : List Int) (a b : Int) : Int × Int := if lessM ranks (findU V b) (findU V a) then (findU V b, findU V a) else (findU V a, findU V b)
def joinV (V ranks : List Int) (a b : Int) : List Int := if findU V a = findU V b then V else V.set (joinP V ranks a b).2.toNat (joinP V ranks a b).1
def joinN (V ranks : List Int) (N : List (Int × Int)) (a b : Int) : List (Int × Int) := if findU V a = findU V b then N else N ++ [((joinP V ranks a b).2, (joinP V ranks a b).2)]
theorem join_c (V : List Int) (N : List (Int × Int)) (M ranks : List Int) (hR : RightU V ranks) (a b : Int) (ha : 0 ≤ a ∧ a < V.length) (hb : 0 ≤ b ∧ b < V.length) (hr : ranks.length ≤ 1000000) (hN : N.length ≤ 1000000) (hV : V.length ≤ 1000000) :
    PureCalls Try.prog 27 [clP A V N M, intsP A ranks, IP a, IP b] (clP A (joinV V ranks a b) (joinN V ranks N a b) M) := by
  have hfa := find_range hR ha.1 ha.2
  have hfb := find_range hR hb.1 hb.2
  have hxa := find_fix hR ha.1 ha.2
  have hxb := find_fix hR hb.1 hb.2
  refine PureCalls.of Try.func27 rfl (by kernel_rfl) rfl ?_
  try first | refine AOLg.of [] ?_ | refine QSg.of [] ?_
  repeat' (first
    | (refine AWp.pass ?_; first
        | refine AWp.seq ?_
        | refine AWp.block ?_
        | refine AWp.skip ?_
        | refine AWp.regG [] (by conv => lhs; cbv) ?_
        | refine AWp.cond_t rfl ?_
        | refine AWp.cond_f rfl ?_
        | (refine AWp.cond rfl ?_ ?_ <;> intro hc <;> (try rw [hc]) <;> ((try simp only [zn] at hc) <;> (try simp (disch := omega) only [zz hA, zb, zy, reduceCtorEq, Bool.false_eq_true, Int.reduceLT, Int.reduceLE, Int.reduceNeg] at hc) <;> (try simp only [zw] at hc)) <;> (try (exfalso; omega)))
        | refine AWp.exit ?_
        | refine AWp.ret ⟨.inr rfl, _, RetOk.ev tabOk (by conv => lhs; cbv), ?_⟩
        | refine AWp.drawKG [] 0 rfl (by decide +kernel) (by conv => lhs; cbv) (by conv => lhs; cbv) ?_
        | refine AWp.drawKG [] 1 rfl (by decide +kernel) (by conv => lhs; cbv) (by conv => lhs; cbv) ?_
        | refine AWp.drawKG [] 2 rfl (by decide +kernel) (by conv => lhs; cbv) (by conv => lhs; cbv) ?_
        | refine AWp.drawKG [] 3 rfl (by decide +kernel) (by conv => lhs; cbv) (by conv => lhs; cbv) ?_
        | refine AWp.drawKG [] 4 rfl (by decide +kernel) (by conv => lhs; cbv) (by conv => lhs; cbv) ?_
        | refine AWp.drawKG [] 5 rfl (by decide +kernel) (by conv => lhs; cbv) (by conv => lhs; cbv) ?_
        | refine AWp.drawKG [] 6 rfl (by decide +kernel) (by conv => lhs; cbv) (by conv => lhs; cbv) ?_
        | refine AWp.drawKG [] 8 rfl (by decide +kernel) (by conv => lhs; cbv) (by conv => lhs; cbv) ?_)
    | (refine AOLg.pass ?_; refine AOLg.nx hA tabOk (by conv => lhs; cbv) ?_; first
        | refine NX.done ?_
        | refine NX.gt ?_
        | refine NX.gf ?_
        | (refine NX.gs ?_ ?_ <;> intro hc <;> rw [hc] <;> ((try simp only [zn] at hc) <;> (try simp (disch := omega) only [zz hA, zb, zy, reduceCtorEq, Bool.false_eq_true, Int.reduceLT, Int.reduceLE, Int.reduceNeg] at hc) <;> (try simp only [zw] at hc)) <;> (try (exfalso; omega)))
        | (refine NX.kC ?_; first | (with_reducible refine NX.call (find_c hA V N M ranks hR a ha.1 ha.2) ?_) | (with_reducible refine NX.call (find_c hA V N M ranks hR b hb.1 hb.2) ?_) | (with_reducible refine NX.call (less_c hA ranks _ _ hr) ?_) | ((with_reducible refine NX.call (set_n hA V N M _ _ ?_ ?_ hN hV) ?_) <;> (first | refine AOLg.pass ?_ | (((try simp only [zn]) <;> (try simp (disch := omega) only [zz hA, zb, zy, reduceCtorEq, Bool.false_eq_true, Int.reduceLT, Int.reduceLE, Int.reduceNeg]) <;> (try simp only [zw])) <;> omega))) | ((first | refine NX.call (find_c hA V N M ranks hR a ha.1 ha.2) ?_ | refine NX.call (find_c hA V N M ranks hR b hb.1 hb.2) ?_ | refine NX.call (less_c hA ranks _ _ hr) ?_ | refine NX.call (set_n hA V N M _ _ ?_ ?_ hN hV) ?_) <;> (first | refine AOLg.pass ?_ | (((try simp only [zn]) <;> (try simp (disch := omega) only [zz hA, zb, zy, reduceCtorEq, Bool.false_eq_true, Int.reduceLT, Int.reduceLE, Int.reduceNeg]) <;> (try simp only [zw])) <;> omega))) | fail)
        | (refine NX.kO ?_; (first | refine NX.callO (find_c hA V N M ranks hR a ha.1 ha.2) (by simp [allEq]) rfl ?_ | refine NX.callO (find_c hA V N M ranks hR b hb.1 hb.2) (by simp [allEq]) rfl ?_ | refine NX.callO (less_c hA ranks _ _ hr) (by simp [allEq]) rfl ?_ | refine NX.callO (set_n hA V N M _ _ ?_ ?_ hN hV) (by simp [allEq]) rfl ?_) <;> (first | refine AOLg.pass ?_ | (((try simp only [zn]) <;> (try simp (disch := omega) only [zz hA, zb, zy, reduceCtorEq, Bool.false_eq_true, Int.reduceLT, Int.reduceLE, Int.reduceNeg]) <;> (try simp only [zw])) <;> omega)))
        | ((first | (refine NX.k 1 ?_; first | refine NX.one (One.elemM hA tabOk rfl rfl rfl rfl ?_ ?_) ?_ | refine NX.one (One.elemOwnM hA tabOk rfl rfl rfl rfl rfl ?_ ?_) ?_) | (refine NX.k 2 ?_; first | refine NX.one (One.clipM tabOk rfl rfl rfl rfl rfl ?_ ?_) ?_ | refine NX.one (One.cut_hM hA tabOk rfl rfl rfl rfl ?_ ?_) ?_ | refine NX.one (One.cut_lM hA tabOk rfl rfl rfl rfl ?_ ?_) ?_ | refine NX.one (One.cut_lhM hA tabOk rfl rfl rfl rfl rfl ?_ ?_ ?_) ?_) | (refine NX.k 3 ?_; first | refine NX.one (One.quoM hA rfl rfl rfl ?_) ?_) | (refine NX.k 4 ?_; first | refine NX.one (One.remM hA rfl rfl rfl ?_) ?_) | (refine NX.k 5 ?_; first | refine NX.one (One.shrM hA rfl rfl rfl ?_) ?_) | (refine NX.k 6 ?_; first | refine NX.one (One.bitsM hA rfl rfl rfl rfl) ?_) | (refine NX.k 7 ?_; first | refine NX.one (One.concatM hA rfl rfl rfl ?_) ?_) | (refine NX.k 8 ?_; first | refine NX.one (One.eqBoolM hA tabOk rfl rfl rfl rfl rfl) ?_) | (refine NX.k 9 ?_; first | refine NX.one (One.neBoolM hA tabOk rfl rfl rfl rfl rfl) ?_) | (refine NX.k 10 ?_; first | refine NX.one (One.lenOwnM hA tabOk rfl rfl rfl rfl) ?_) | (refine NX.k 11 ?_; first | refine NX.one (One.appendM hA tabOk _ rfl rfl rfl rfl rfl rfl ?_ ?_) ?_ | refine NX.one (One.appendMM hA tabOk rfl rfl rfl rfl rfl ?_ ?_) ?_ | refine NX.one (One.appendOwnM hA tabOk _ rfl rfl rfl rfl rfl rfl rfl ?_ ?_) ?_ | refine NX.one (One.appendOwnMM hA tabOk rfl rfl rfl rfl rfl rfl ?_ ?_) ?_ | refine NX.one (One.appendOwn0 hA tabOk rfl rfl rfl rfl rfl rfl ?_ ?_) ?_) | (refine NX.k 13 ?_; first | refine NX.one (One.byteM hA tabOk rfl rfl rfl rfl rfl ?_ ?_) ?_) | (refine NX.k 14 ?_; first | refine NX.one (One.loadRatM hA tabOk rfl rfl rfl rfl rfl rfl ?_) ?_) | (refine NX.k 15 ?_; first | refine NX.one (One.storeRatM hA tabOk _ rfl rfl rfl rfl rfl rfl rfl rfl (fun _ => rfl) ?_) ?_) | (refine NX.k 16 ?_; first | refine NX.one (One.makeM hA tabOk encI 0 rfl rfl rfl rfl rfl rfl rfl ?_ ?_ ?_) ?_) | (refine NX.k 17 ?_; first | refine NX.one (One.build0 tabOk rfl rfl) ?_) | (refine NX.k 18 ?_; first | refine NX.one (One.fieldRat tabOk rfl rfl rfl rfl (by decide) rfl rfl) ?_)) <;> (first | refine AOLg.pass ?_ | (((try simp only [zn]) <;> (try simp (disch := omega) only [zz hA, zb, zy, reduceCtorEq, Bool.false_eq_true, Int.reduceLT, Int.reduceLE, Int.reduceNeg]) <;> (try simp only [zw])) <;> omega)))
        | refine NX.raw ?_)
    | (refine QSg.pass ?_; refine QSg.nx hA tabOk (by conv => lhs; cbv) ?_; first
        | refine QX.done ?_
        | refine QX.gt ?_
        | refine QX.gf ?_
        | (refine QX.gs ?_ ?_ <;> intro hc <;> rw [hc] <;> ((try simp only [zn] at hc) <;> (try simp (disch := omega) only [zz hA, zb, zy, reduceCtorEq, Bool.false_eq_true, Int.reduceLT, Int.reduceLE, Int.reduceNeg] at hc) <;> (try simp only [zw] at hc)) <;> (try (exfalso; omega)))
        | (refine QX.kC ?_; first | (with_reducible refine QX.call (find_c hA V N M ranks hR a ha.1 ha.2) rfl ?_) | (with_reducible refine QX.call (find_c hA V N M ranks hR b hb.1 hb.2) rfl ?_) | (with_reducible refine QX.call (less_c hA ranks _ _ hr) rfl ?_) | ((with_reducible refine QX.call (set_n hA V N M _ _ ?_ ?_ hN hV) rfl ?_) <;> (first | refine QSg.pass ?_ | (((try simp only [zn]) <;> (try simp (disch := omega) only [zz hA, zb, zy, reduceCtorEq, Bool.false_eq_true, Int.reduceLT, Int.reduceLE, Int.reduceNeg]) <;> (try simp only [zw])) <;> omega))) | ((first | refine QX.call (find_c hA V N M ranks hR a ha.1 ha.2) rfl ?_ | refine QX.call (find_c hA V N M ranks hR b hb.1 hb.2) rfl ?_ | refine QX.call (less_c hA ranks _ _ hr) rfl ?_ | refine QX.call (set_n hA V N M _ _ ?_ ?_ hN hV) rfl ?_) <;> (first | refine QSg.pass ?_ | (((try simp only [zn]) <;> (try simp (disch := omega) only [zz hA, zb, zy, reduceCtorEq, Bool.false_eq_true, Int.reduceLT, Int.reduceLE, Int.reduceNeg]) <;> (try simp only [zw])) <;> omega))) | fail)
        | (refine QX.kO ?_; (first | refine QX.callO (find_c hA V N M ranks hR a ha.1 ha.2) rfl (by simp [allEq]) rfl ?_ | refine QX.callO (find_c hA V N M ranks hR b hb.1 hb.2) rfl (by simp [allEq]) rfl ?_ | refine QX.callO (less_c hA ranks _ _ hr) rfl (by simp [allEq]) rfl ?_ | refine QX.callO (set_n hA V N M _ _ ?_ ?_ hN hV) rfl (by simp [allEq]) rfl ?_) <;> (first | refine QSg.pass ?_ | (((try simp only [zn]) <;> (try simp (disch := omega) only [zz hA, zb, zy, reduceCtorEq, Bool.false_eq_true, Int.reduceLT, Int.reduceLE, Int.reduceNeg]) <;> (try simp only [zw])) <;> omega)))
        | ((first | (refine QX.k 1 ?_; first | refine QX.one rfl (One.elemM hA tabOk rfl rfl rfl rfl ?_ ?_) ?_ | refine QX.one rfl (One.elemOwnM hA tabOk rfl rfl rfl rfl rfl ?_ ?_) ?_) | (refine QX.k 2 ?_; first | refine QX.one rfl (One.clipM tabOk rfl rfl rfl rfl rfl ?_ ?_) ?_ | refine QX.one rfl (One.cut_hM hA tabOk rfl rfl rfl rfl ?_ ?_) ?_ | refine QX.one rfl (One.cut_lM hA tabOk rfl rfl rfl rfl ?_ ?_) ?_ | refine QX.one rfl (One.cut_lhM hA tabOk rfl rfl rfl rfl rfl ?_ ?_ ?_) ?_) | (refine QX.k 3 ?_; first | refine QX.one rfl (One.quoM hA rfl rfl rfl ?_) ?_) | (refine QX.k 4 ?_; first | refine QX.one rfl (One.remM hA rfl rfl rfl ?_) ?_) | (refine QX.k 5 ?_; first | refine QX.one rfl (One.shrM hA rfl rfl rfl ?_) ?_) | (refine QX.k 6 ?_; first | refine QX.one rfl (One.bitsM hA rfl rfl rfl rfl) ?_) | (refine QX.k 7 ?_; first | refine QX.one rfl (One.concatM hA rfl rfl rfl ?_) ?_) | (refine QX.k 8 ?_; first | refine QX.one rfl (One.eqBoolM hA tabOk rfl rfl rfl rfl rfl) ?_) | (refine QX.k 9 ?_; first | refine QX.one rfl (One.neBoolM hA tabOk rfl rfl rfl rfl rfl) ?_) | (refine QX.k 10 ?_; first | refine QX.one rfl (One.lenOwnM hA tabOk rfl rfl rfl rfl) ?_) | (refine QX.k 11 ?_; first | refine QX.one rfl (One.appendM hA tabOk _ rfl rfl rfl rfl rfl rfl ?_ ?_) ?_ | refine QX.one rfl (One.appendMM hA tabOk rfl rfl rfl rfl rfl ?_ ?_) ?_ | refine QX.one rfl (One.appendOwnM hA tabOk _ rfl rfl rfl rfl rfl rfl rfl ?_ ?_) ?_ | refine QX.one rfl (One.appendOwnMM hA tabOk rfl rfl rfl rfl rfl rfl ?_ ?_) ?_ | refine QX.one rfl (One.appendOwn0 hA tabOk rfl rfl rfl rfl rfl rfl ?_ ?_) ?_) | (refine QX.k 13 ?_; first | refine QX.one rfl (One.byteM hA tabOk rfl rfl rfl rfl rfl ?_ ?_) ?_) | (refine QX.k 14 ?_; first | refine QX.one rfl (One.loadRatM hA tabOk rfl rfl rfl rfl rfl rfl ?_) ?_) | (refine QX.k 15 ?_; first | refine QX.one rfl (One.storeRatM hA tabOk _ rfl rfl rfl rfl rfl rfl rfl rfl (fun _ => rfl) ?_) ?_) | (refine QX.k 16 ?_; first | refine QX.one rfl (One.makeM hA tabOk encI 0 rfl rfl rfl rfl rfl rfl rfl ?_ ?_ ?_) ?_) | (refine QX.k 17 ?_; first | refine QX.one rfl (One.build0 tabOk rfl rfl) ?_) | (refine QX.k 18 ?_; first | refine QX.one rfl (One.fieldRat tabOk rfl rfl rfl rfl (by decide) rfl rfl) ?_)) <;> (first | refine QSg.pass ?_ | (((try simp only [zn]) <;> (try simp (disch := omega) only [zz hA, zb, zy, reduceCtorEq, Bool.false_eq_true, Int.reduceLT, Int.reduceLE, Int.reduceNeg]) <;> (try simp only [zw])) <;> omega)))
        | refine QX.raw ?_)
    | refine Thn.exit ?_
    | refine Blk.here ?_
    | refine Blk.other (by decide) ?_
    | refine ⟨.inl rfl, _, RetOk.ev tabOk (by conv => lhs; cbv), ?_⟩
    | fail)
  · refine rPV_then (by conv => lhs; cbv) ?_
    ((try simp only [zn]) <;> (try simp (disch := omega) only [zz hA, zb, zy, reduceCtorEq, Bool.false_eq_true, Int.reduceLT, Int.reduceLE, Int.reduceNeg, joinV, joinN]) <;> (try simp only [zw]))
    rw [if_pos hc, if_pos hc]
    simp [hA, real, hid]
  · rename_i hne
    refine rPV_then (by conv => lhs; cbv) ?_
    ((try simp only [zn]) <;> (try simp (disch := omega) only [zz hA, zb, zy, reduceCtorEq, Bool.false_eq_true, Int.reduceLT, Int.reduceLE, Int.reduceNeg, joinV, joinN, joinP]) <;> (try simp only [zw]))
    rw [if_neg hne, if_neg hne, if_pos hc, hxa]
    simp [hA, real, hid]
  · rename_i hne
    refine rPV_then (by conv => lhs; cbv) ?_
    ((try simp only [zn]) <;> (try simp (disch := omega) only [zz hA, zb, zy, reduceCtorEq, Bool.false_eq_true, Int.reduceLT, Int.reduceLE, Int.reduceNeg, joinV, joinN, joinP]) <;> (try simp only [zw]))
    rw [if_neg hne, if_neg hne, if_neg (by rw [hc]; simp), hxb]
    simp [hA, real, hid]
end Go.Proofs.Ytinehodamekjgaa.Aw
