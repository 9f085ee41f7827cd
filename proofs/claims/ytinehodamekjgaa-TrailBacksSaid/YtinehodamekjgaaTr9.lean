/- The law TrailNone, walked. -/
import Derived.Test.YtinehodamekjgaaTr8
set_option linter.unusedVariables false
namespace Go.Proofs.Ytinehodamekjgaa.Aw
open Go Go.RowKit
set_option maxRecDepth 10000
structure Cl.fits (c : Cl) : Prop where
  v : c.V.length ≤ 140737488351232
  n : c.N.length ≤ 140737488351232
  m : c.M.length ≤ 140737488351232
def Cl.marked (c : Cl) : Cl := ⟨c.V, c.N, c.M ++ [(c.N.length : Int)]⟩
variable {A : Ar} (hA : A = real)
include hA
theorem few_cl (c : Cl) (h : c.fits) : PureCalls Try.prog 14 [c.pv] (.c (Bo (decide (c.V.length + c.N.length + c.M.length ≤ 500)))) := by
  have := few_c hA (ints c.V) (nts c.N) (ints c.M) (by simpa using h.v) (by simpa using h.n) (by simpa using h.m)
  simpa using this
theorem mark_cl (c : Cl) (h : c.small) : PureCalls Try.prog 17 [c.pv] c.marked.pv := by
  have := mark_c hA (ints c.V) (nts c.N) (ints c.M) (by have := h.m; simp; omega)
  have e : ints c.M ++ [[I (nts c.N).length]] = ints (c.M ++ [(c.N.length : Int)]) := by simp [ints, nts]
  rw [e] at this
  exact this
theorem backMarked (c : Cl) (h : c.small) : PureCalls Try.prog 18 [c.marked.pv] (.tup [c.pv, .c (I 0)]) := by
  have hv := h.v; have hn := h.n; have hm := h.m
  have := back_c1 hA c.V c.N (c.M ++ [(c.N.length : Int)]) c.N.length (by simp) (Nat.le_refl _) hv hn (by simp; omega) c.V (by simp [undoAll])
  rw [List.take_length, List.dropLast_concat] at this
  exact this
theorem keepMarked (c : Cl) (h : c.small) : PureCalls Try.prog 20 [c.marked.pv] (.tup [c.pv, .c (I 0)]) := by
  have hm := h.m
  have := keep_c1 hA (ints c.V) (nts c.N) (ints (c.M ++ [(c.N.length : Int)])) (by simp) (by simp; omega)
  have e : (ints (c.M ++ [(c.N.length : Int)])).dropLast = ints c.M := by simp [ints]
  rw [e] at this
  exact this
theorem lawNone (c : Cl) (h : c.fits) : PureCalls Try.prog 4 [c.pv] (.c (Bo true)) := by
  refine PureCalls.of Try.func4 rfl (by kernel_rfl) rfl ?_
  have hsh := shown_c hA
  have hfw := few_cl hA c h
  by_cases hf : c.V.length + c.N.length + c.M.length ≤ 500
  · rw [decide_eq_true hf] at hfw
    have hsm : c.small := ⟨by omega, by omega, by omega⟩
    have hrg := refRight hA c hsm
    have hmk := mark_cl hA c hsm
    have hbk := backMarked hA c hsm
    have hkp := keepMarked hA c hsm
    have hb0 := back_c0 hA (ints c.V) (nts c.N) [] rfl
    have hk0 := keep_c0 hA (ints c.V) (nts c.N) [] rfl
    have hs1 := refSame hA c c hsm hsm
    have hs2 := refSame hA ⟨c.V, c.N, []⟩ ⟨c.V, c.N, []⟩ ⟨hsm.v, hsm.n, by simp⟩ ⟨hsm.v, hsm.n, by simp⟩
    rw [decide_eq_true rfl] at hs1 hs2
    simp only [Cl.pv, Cl.marked] at hfw hrg hmk hbk hkp hs1 hs2 ⊢
    change PureCalls _ _ [cellsPV (ints c.V) (nts c.N) [], cellsPV (ints c.V) (nts c.N) []] _ at hs2
    generalize ints (c.M ++ [(c.N.length : Int)]) = Mr' at hmk hbk hkp
    generalize ints c.V = Vr at hfw hrg hmk hbk hkp hs1 hs2 hb0 hk0 ⊢
    generalize nts c.N = Nr at hfw hrg hmk hbk hkp hs1 hs2 hb0 hk0 ⊢
    generalize ints c.M = Mr at hfw hrg hmk hbk hkp hs1 hs2 ⊢
    generalize c.right = r at hrg
    refine AWp.seq (AWp.region (AOL.to hA tabOk (by conv => lhs; cbv) (AOL.nil ?_)))
    refine AWp.seq (AWp.region (AOL.to hA tabOk (by conv => lhs; cbv) ?_))
    refine One.call false rfl rfl rfl hsh rfl _ _ ?_
    refine AOL.to hA tabOk (by conv => lhs; cbv) (AOL.nil ?_)
    refine AWp.seq (AWp.seq (AWp.region (AOL.to hA tabOk (by conv => lhs; cbv) ?_)))
    refine One.call false rfl rfl rfl hfw rfl _ _ ?_
    refine AOL.upto hA tabOk 2 (by conv => lhs; cbv) ?_
    rw [show A .no true = false by rw [rno hA]; rfl]
    refine AOL.to hA tabOk (by conv => lhs; cbv) ?_
    refine One.call false rfl rfl rfl hrg rfl _ _ ?_
    refine AOL.to hA tabOk (by conv => lhs; cbv) (AOL.nil ?_)
    cases r with
    | false =>
      rw [show A .no false = true by rw [rno hA]; rfl]
      refine AWp.cond_t rfl ?_
      refine AWp.seq (AWp.region (AOL.to hA tabOk (by conv => lhs; cbv) (AOL.nil ?_)))
      exact AWp.ret ⟨.inr rfl, _, RetOk.one rfl (Res1.tmp _), rfl⟩
    | true =>
      rw [show A .no true = false by rw [rno hA]; rfl]
      refine AWp.cond_f rfl (AWp.skip ?_)
      refine AWp.seq (AWp.region (AOL.to hA tabOk (by conv => lhs; cbv) ?_))
      refine One.call false rfl rfl rfl hmk rfl _ _ ?_
      refine AOL.to hA tabOk (by conv => lhs; cbv) ?_
      refine One.call false rfl rfl rfl hbk rfl _ _ ?_
      refine AOL.to hA tabOk (by conv => lhs; cbv) (AOL.nil ?_)
      refine AWp.seq (AWp.region (AOL.to hA tabOk (by conv => lhs; cbv) ?_))
      refine One.call false rfl rfl rfl hmk rfl _ _ ?_
      refine AOL.to hA tabOk (by conv => lhs; cbv) ?_
      refine One.call false rfl rfl rfl hkp rfl _ _ ?_
      refine AOL.to hA tabOk (by conv => lhs; cbv) (AOL.nil ?_)
      refine AWp.seq (AWp.region (AOL.to hA tabOk (by conv => lhs; cbv) (AOL.nil ?_)))
      refine AWp.seq (AWp.region (AOL.to hA tabOk (by conv => lhs; cbv) ?_))
      refine One.call false rfl rfl rfl (hb0.weaken (.cons (.agg (.cons (.refl _) (.cons (.refl _) (.cons (.nil _ _ _) .nil)))) .nil)) rfl _ _ ?_
      refine AOL.to hA tabOk (by conv => lhs; cbv) (AOL.nil ?_)
      refine AWp.seq (AWp.region (AOL.to hA tabOk (by conv => lhs; cbv) ?_))
      refine One.call false rfl rfl rfl (hk0.weaken (.cons (.agg (.cons (.refl _) (.cons (.refl _) (.cons (.nil _ _ _) .nil)))) .nil)) rfl _ _ ?_
      refine AOL.to hA tabOk (by conv => lhs; cbv) (AOL.nil ?_)
      have e0 : A .eq 0 0 = true := by rw [req hA]; rfl
      have e10 : A .eq 10 10 = true := by rw [req hA]; rfl
      refine AWp.seq (AWp.region (AOL.upto hA tabOk 6 (by conv => lhs; cbv) ?_))
      rw [e0]
      refine AOL.upto hA tabOk 4 (by conv => lhs; cbv) ?_
      rw [e0]
      refine AOL.to hA tabOk (by conv => lhs; cbv) ?_
      refine One.call false rfl rfl rfl hs1 rfl _ _ ?_
      refine AOL.to hA tabOk (by conv => lhs; cbv) ?_
      refine One.call false rfl rfl rfl hs1 rfl _ _ ?_
      refine AOL.upto hA tabOk 5 (by conv => lhs; cbv) ?_
      rw [e10]
      refine AOL.upto hA tabOk 4 (by conv => lhs; cbv) ?_
      rw [e10]
      refine AOL.to hA tabOk (by conv => lhs; cbv) ?_
      refine One.call false rfl rfl rfl (hs2.weaken (.cons (.refl _) (.cons (.agg (.cons (.refl _) (.cons (.refl _) (.cons (.nil _ _ _) .nil)))) .nil))) rfl _ _ ?_
      refine AOL.to hA tabOk (by conv => lhs; cbv) ?_
      refine One.call false rfl rfl rfl (hs2.weaken (.cons (.refl _) (.cons (.agg (.cons (.refl _) (.cons (.refl _) (.cons (.nil _ _ _) .nil)))) .nil))) rfl _ _ ?_
      refine AOL.to hA tabOk (by conv => lhs; cbv) (AOL.nil ?_)
      exact AWp.ret ⟨.inr rfl, _, RetOk.one rfl (Res1.tmp _), rfl⟩
  · rw [decide_eq_false hf] at hfw
    simp only [Cl.pv] at hfw ⊢
    generalize ints c.V = Vr at hfw ⊢
    generalize nts c.N = Nr at hfw ⊢
    generalize ints c.M = Mr at hfw ⊢
    refine AWp.seq (AWp.region (AOL.to hA tabOk (by conv => lhs; cbv) (AOL.nil ?_)))
    refine AWp.seq (AWp.region (AOL.to hA tabOk (by conv => lhs; cbv) ?_))
    refine One.call false rfl rfl rfl hsh rfl _ _ ?_
    refine AOL.to hA tabOk (by conv => lhs; cbv) (AOL.nil ?_)
    refine AWp.seq (AWp.seq (AWp.region (AOL.to hA tabOk (by conv => lhs; cbv) ?_)))
    refine One.call false rfl rfl rfl hfw rfl _ _ ?_
    refine AOL.upto hA tabOk 2 (by conv => lhs; cbv) ?_
    rw [show A .no false = true by rw [rno hA]; rfl]
    refine AOL.to hA tabOk (by conv => lhs; cbv) (AOL.nil ?_)
    refine AWp.cond_t rfl ?_
    refine AWp.seq (AWp.region (AOL.to hA tabOk (by conv => lhs; cbv) (AOL.nil ?_)))
    exact AWp.ret ⟨.inr rfl, _, RetOk.one rfl (Res1.tmp _), rfl⟩
end Go.Proofs.Ytinehodamekjgaa.Aw
