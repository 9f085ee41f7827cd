/- The law TrailKeeps, walked. -/
import Derived.Test.YtinehodamekjgaaTr9
set_option linter.unusedVariables false
namespace Go.Proofs.Ytinehodamekjgaa.Aw
open Go Go.RowKit
set_option maxRecDepth 10000
def Cl.grown (c : Cl) (v : Int) : Cl := ⟨c.V ++ [v], c.N ++ [(-1, 0)], c.M⟩
theorem undo_two (V : List Int) (a b : Int) : undoAll [(-1, 0), (-1, 0)] (V ++ [a] ++ [b]) = some V := by
  simp [undoAll, undo1]
variable {A : Ar} (hA : A = real)
include hA
theorem grow_cl (c : Cl) (h : c.small) (v : Int) : PureCalls Try.prog 21 [c.pv, .c (I v)] (c.grown v).pv := by
  have h1 := h.v; have h2 := h.n
  have := grow_c hA (ints c.V) (nts c.N) (ints c.M) v (by simp; omega) (by simp; omega)
  have e1 : ints c.V ++ [[I v]] = ints (c.V ++ [v]) := by simp [ints]
  have e2 : nts c.N ++ [[I (-1), I 0]] = nts (c.N ++ [(-1, 0)]) := by simp [nts]
  rw [e1, e2] at this
  exact this
theorem lawKeeps (c : Cl) (h : c.fits) (v : Int) : PureCalls Try.prog 7 [c.pv, .c (I v)] (.c (Bo true)) := by
  refine PureCalls.of Try.func7 rfl (by kernel_rfl) rfl ?_
  have hsh := shown_c hA
  have hfw := few_cl hA c h
  by_cases hf : c.V.length + c.N.length + c.M.length ≤ 500
  · rw [decide_eq_true hf] at hfw
    have hsm : c.small := ⟨by omega, by omega, by omega⟩
    have hrg := refRight hA c hsm
    have s1 : c.marked.small := ⟨hsm.v, hsm.n, by simp [Cl.marked]; omega⟩
    have s2 : (c.marked.grown v).small := ⟨by simp [Cl.marked, Cl.grown]; omega, by simp [Cl.marked, Cl.grown]; omega, by simp [Cl.marked, Cl.grown]; omega⟩
    have s3 : (c.marked.grown v).marked.small := ⟨by simp [Cl.marked, Cl.grown]; omega, by simp [Cl.marked, Cl.grown]; omega, by simp [Cl.marked, Cl.grown]; omega⟩
    have g1 := mark_cl hA c hsm
    have g2 := grow_cl hA c.marked s1 v
    have g3 := mark_cl hA (c.marked.grown v) s2
    have g4 := grow_cl hA (c.marked.grown v).marked s3 (A .add .i64 v 1)
    have g5 := keep_c1 hA (ints (c.V ++ [v] ++ [A .add .i64 v 1])) (nts (c.N ++ [(-1, 0)] ++ [(-1, 0)])) (ints (c.M ++ [(c.N.length : Int)] ++ [((c.N ++ [((-1 : Int), (0 : Int))]).length : Int)])) (by simp) (by simp; omega)
    have e5 : (ints (c.M ++ [(c.N.length : Int)] ++ [((c.N ++ [((-1 : Int), (0 : Int))]).length : Int)])).dropLast = ints (c.M ++ [(c.N.length : Int)]) := by simp [ints, List.map_append]
    rw [e5] at g5
    have g6 := back_c1 hA (c.V ++ [v] ++ [A .add .i64 v 1]) (c.N ++ [(-1, 0)] ++ [(-1, 0)]) (c.M ++ [(c.N.length : Int)]) c.N.length (by simp) (by simp <;> omega) (by simp <;> omega) (by simp <;> omega) (by simp <;> omega) c.V (by rw [List.append_assoc, List.drop_left]; exact undo_two c.V v _)
    have e6 : (c.N ++ [((-1 : Int), (0 : Int))] ++ [((-1 : Int), (0 : Int))]).take c.N.length = c.N := by rw [List.append_assoc, List.take_left]
    rw [e6, List.dropLast_concat] at g6
    have hs1 := refSame hA c c hsm hsm
    rw [decide_eq_true rfl] at hs1
    have l1 : (ints (c.M ++ [(c.N.length : Int)] ++ [((c.N ++ [((-1 : Int), (0 : Int))]).length : Int)])).length = (ints (c.M ++ [(c.N.length : Int)])).length + 1 := by simp
    have l2 : (ints (c.M ++ [(c.N.length : Int)])).length ≤ 100000 := by simp; omega
    have ee : ∀ n : Int, A .eq n n = true := fun n => by rw [req hA]; exact decide_eq_true rfl
    simp only [Cl.pv, Cl.marked, Cl.grown] at hfw hrg g1 g2 g3 g4 g5 g6 hs1 ⊢
    generalize hv1 : A .add .i64 v 1 = v1 at g4 g5 g6
    generalize ints (c.M ++ [(c.N.length : Int)] ++ [((c.N ++ [((-1 : Int), (0 : Int))]).length : Int)]) = M2 at g3 g4 g5 l1
    generalize ints (c.M ++ [(c.N.length : Int)]) = M1 at g1 g2 g3 g5 g6 l1 l2
    generalize ints (c.V ++ [v] ++ [v1]) = V2 at g4 g5 g6
    generalize ints (c.V ++ [v]) = V1 at g2 g3 g4
    generalize nts (c.N ++ [(-1, 0)] ++ [(-1, 0)]) = N2 at g4 g5 g6
    generalize nts (c.N ++ [(-1, 0)]) = N1 at g2 g3 g4
    generalize ints c.V = Vr at hfw hrg g1 g2 g6 hs1 ⊢
    generalize nts c.N = Nr at hfw hrg g1 g2 g6 hs1 ⊢
    generalize ints c.M = Mr at hfw hrg g1 g6 hs1 ⊢
    generalize c.right = r at hrg
    refine AWp.seq (AWp.region (AOL.to hA tabOk (by conv => lhs; cbv) (AOL.nil ?_)))
    refine AWp.seq (AWp.region (AOL.to hA tabOk (by conv => lhs; cbv) ?_))
    refine One.call false rfl rfl rfl hsh rfl _ _ ?_
    refine AOL.to hA tabOk (by conv => lhs; cbv) (AOL.nil ?_)
    refine AWp.seq (AWp.seq (AWp.region (AOL.to hA tabOk (by conv => lhs; cbv) ?_)))
    refine One.call false rfl rfl rfl hfw rfl _ _ ?_
    refine AOL.upto hA tabOk 2 (by conv => lhs; cbv) ?_
    rw [show A .no true = false by rw [rno hA]; rfl]
    refine AOL.to hA tabOk (by conv => lhs; cbv) ?_
    refine One.call false rfl rfl rfl hrg rfl _ _ ?_
    refine AOL.to hA tabOk (by conv => lhs; cbv) (AOL.nil ?_)
    cases r with
    | false =>
      rw [show A .no false = true by rw [rno hA]; rfl]
      refine AWp.cond_t rfl ?_
      refine AWp.seq (AWp.region (AOL.to hA tabOk (by conv => lhs; cbv) (AOL.nil ?_)))
      exact AWp.ret ⟨.inr rfl, _, RetOk.one rfl (Res1.tmp _), rfl⟩
    | true =>
      rw [show A .no true = false by rw [rno hA]; rfl]
      refine AWp.cond_f rfl (AWp.skip ?_)
      refine AWp.seq (AWp.region (AOL.to hA tabOk (by conv => lhs; cbv) ?_))
      refine One.call false rfl rfl rfl g1 rfl _ _ ?_
      refine AOL.to hA tabOk (by conv => lhs; cbv) ?_
      refine One.call false rfl rfl rfl g2 rfl _ _ ?_
      refine AOL.to hA tabOk (by conv => lhs; cbv) ?_
      refine One.call false rfl rfl rfl g3 rfl _ _ ?_
      refine AOL.to hA tabOk (by conv => lhs; cbv) ?_
      rw [hv1]
      refine One.call false rfl rfl rfl g4 rfl _ _ ?_
      refine AOL.to hA tabOk (by conv => lhs; cbv) (AOL.nil ?_)
      refine AWp.seq (AWp.region (AOL.to hA tabOk (by conv => lhs; cbv) ?_))
      refine One.call false rfl rfl rfl g5 rfl _ _ ?_
      refine AOL.to hA tabOk (by conv => lhs; cbv) (AOL.nil ?_)
      refine AWp.seq (AWp.region (AOL.to hA tabOk (by conv => lhs; cbv) ?_))
      refine One.call false rfl rfl rfl g6 rfl _ _ ?_
      refine AOL.to hA tabOk (by conv => lhs; cbv) (AOL.nil ?_)
      refine AWp.seq (AWp.region (AOL.upto hA tabOk 6 (by conv => lhs; cbv) ?_))
      rw [ee 0]
      refine AOL.upto hA tabOk 4 (by conv => lhs; cbv) ?_
      rw [ee 0]
      refine AOL.upto hA tabOk 9 (by conv => lhs; cbv) ?_
      rw [ee (A .len V2)]
      refine AOL.upto hA tabOk 9 (by conv => lhs; cbv) ?_
      rw [ee (A .len N2)]
      refine AOL.upto hA tabOk 10 (by conv => lhs; cbv) ?_
      rw [show A .eq (A .len M1) (A .sub .i64 (A .len M2) 1) = true by rw [req hA, rsub hA, rlen hA, rlen hA, wok (by omega) (by omega)]; exact decide_eq_true (by omega)]
      refine AOL.to hA tabOk (by conv => lhs; cbv) ?_
      refine One.call false rfl rfl rfl hs1 rfl _ _ ?_
      refine AOL.to hA tabOk (by conv => lhs; cbv) (AOL.nil ?_)
      exact AWp.ret ⟨.inr rfl, _, RetOk.one rfl (Res1.tmp _), rfl⟩
  · rw [decide_eq_false hf] at hfw
    simp only [Cl.pv] at hfw ⊢
    generalize ints c.V = Vr at hfw ⊢
    generalize nts c.N = Nr at hfw ⊢
    generalize ints c.M = Mr at hfw ⊢
    refine AWp.seq (AWp.region (AOL.to hA tabOk (by conv => lhs; cbv) (AOL.nil ?_)))
    refine AWp.seq (AWp.region (AOL.to hA tabOk (by conv => lhs; cbv) ?_))
    refine One.call false rfl rfl rfl hsh rfl _ _ ?_
    refine AOL.to hA tabOk (by conv => lhs; cbv) (AOL.nil ?_)
    refine AWp.seq (AWp.seq (AWp.region (AOL.to hA tabOk (by conv => lhs; cbv) ?_)))
    refine One.call false rfl rfl rfl hfw rfl _ _ ?_
    refine AOL.upto hA tabOk 2 (by conv => lhs; cbv) ?_
    rw [show A .no false = true by rw [rno hA]; rfl]
    refine AOL.to hA tabOk (by conv => lhs; cbv) (AOL.nil ?_)
    refine AWp.cond_t rfl ?_
    refine AWp.seq (AWp.region (AOL.to hA tabOk (by conv => lhs; cbv) (AOL.nil ?_)))
    exact AWp.ret ⟨.inr rfl, _, RetOk.one rfl (Res1.tmp _), rfl⟩
end Go.Proofs.Ytinehodamekjgaa.Aw
