/- The law TrailTwo, walked. -/
import Derived.Test.YtinehodamekjgaaTr10
set_option linter.unusedVariables false
namespace Go.Proofs.Ytinehodamekjgaa.Aw
open Go Go.RowKit
set_option maxRecDepth 10000
def Cl.put (c : Cl) (i : Nat) (u v : Int) : Cl := ⟨c.V.set i v, c.N ++ [((i : Int), u)], c.M⟩
variable {A : Ar} (hA : A = real)
include hA
theorem set_cl (c : Cl) (h : c.small) (i : Nat) (u v : Int) (hu : c.V[i]? = some u) : PureCalls Try.prog 16 [c.pv, .c (I i), .c (I v)] (.tup [(c.put i u v).pv, .c (I 0)]) := by
  have h1 := h.v; have h2 := h.n
  have := set_c1 hA (ints c.V) (nts c.N) (ints c.M) i u v (by simp; omega) (by simp; omega) (ints_get? _ _ _ hu)
  have e1 : (ints c.V).set i [I v] = ints (c.V.set i v) := by simp [ints, List.map_set]
  have e2 : nts c.N ++ [[I i, I u]] = nts (c.N ++ [((i : Int), u)]) := by simp [nts]
  rw [e1, e2] at this
  exact this
/-- Back of a marked and then set one. -/
theorem backPut (c : Cl) (h : c.small) (hn' : c.N.length < 100000) (i : Nat) (u v : Int) (hu : c.V[i]? = some u) : PureCalls Try.prog 18 [(c.marked.put i u v).pv] (.tup [c.pv, .c (I 0)]) := by
  have hv := h.v; have hn := h.n; have hm := h.m
  have hi : i < c.V.length := (List.getElem?_eq_some_iff.1 hu).1
  have := back_c1 hA (c.V.set i v) (c.N ++ [((i : Int), u)]) (c.M ++ [(c.N.length : Int)]) c.N.length (by simp) (by simp) (by simpa using hv) (by simp; omega) (by simp; omega) c.V (by
    rw [List.drop_left]
    have hset : (c.V.set i v).set i u = c.V := by
      rw [List.set_set]
      apply List.ext_getElem?
      intro j
      by_cases e : i = j
      · subst e; rw [List.getElem?_set_self hi, hu]
      · rw [List.getElem?_set_ne e]
    simp only [undoAll, Option.bind_some, undo1]
    rw [if_neg (by omega), if_pos ⟨by omega, by simp; omega⟩]
    simp only [Int.toNat_natCast]
    rw [hset])
  rw [List.take_left, List.dropLast_concat] at this
  exact this
theorem lawTwo (c : Cl) (h : c.fits) (z a b : Int) : PureCalls Try.prog 3 [.agg [.sl 1 false (ints c.V), .sl 2 false (nts c.N), .sl 1 false (ints c.M), I z, I a, I b]] (.c (Bo true)) := by
  refine PureCalls.of Try.func3 rfl (by kernel_rfl) rfl ?_
  have hsh := shown_c hA
  have hfw := few_cl hA c h
  by_cases hf : c.V.length + c.N.length + c.M.length ≤ 500
  · rw [decide_eq_true hf] at hfw
    have hsm : c.small := ⟨by omega, by omega, by omega⟩
    have hrg := refRight hA c hsm
    have ee : ∀ n : Int, A .eq n n = true := fun n => by rw [req hA]; exact decide_eq_true rfl
    by_cases hz : 0 ≤ z ∧ z < c.V.length
    · obtain ⟨i, rfl⟩ : ∃ i : Nat, z = (i : Int) := ⟨z.toNat, by omega⟩
      have hi : i < c.V.length := by omega
      have hu : c.V[i]? = some c.V[i] := List.getElem?_eq_getElem hi
      generalize c.V[i] = u at hu
      have s1 : c.marked.small := ⟨hsm.v, hsm.n, by simp [Cl.marked]; omega⟩
      have sX : (c.marked.put i u a).small := ⟨by simp [Cl.marked, Cl.put]; omega, by simp [Cl.marked, Cl.put]; omega, by simp [Cl.marked, Cl.put]; omega⟩
      have sXm : (c.marked.put i u a).marked.small := ⟨by simp [Cl.marked, Cl.put]; omega, by simp [Cl.marked, Cl.put]; omega, by simp [Cl.marked, Cl.put]; omega⟩
      have huX : (c.marked.put i u a).V[i]? = some a := by simp [Cl.put, Cl.marked, hi]
      have huY : ((c.marked.put i u a).marked.put i a b).V[i]? = some b := by simp [Cl.put, Cl.marked, hi]
      have g1 := mark_cl hA c hsm
      have g2 := set_cl hA c.marked s1 i u a hu
      have g3 := mark_cl hA (c.marked.put i u a) sX
      have g4 := set_cl hA (c.marked.put i u a).marked sXm i a b huX
      have g5 := backPut hA (c.marked.put i u a) sX (by simp [Cl.marked, Cl.put]; omega) i a b huX
      have g6 := backPut hA c hsm (by omega) i u a hu
      have hs1 := refSame hA c c hsm hsm
      have hsX := refSame hA (c.marked.put i u a) (c.marked.put i u a) sX sX
      rw [decide_eq_true rfl] at hs1 hsX
      have lc : (ints c.V).length = c.V.length := by simp
      have lX : (ints (c.marked.put i u a).V).length = c.V.length := by simp [Cl.put, Cl.marked]
      have lY : (ints ((c.marked.put i u a).marked.put i a b).V).length = c.V.length := by simp [Cl.put, Cl.marked]
      have ec := ints_get? _ _ _ hu
      have eX := ints_get? _ _ _ huX
      have eY := ints_get? _ _ _ huY
      simp only [Cl.pv] at hfw hrg g1 g2 g3 g4 g5 g6 hs1 hsX
      have q1 : (c.marked).V = c.V := rfl
      have q2 : (c.marked).N = c.N := rfl
      have q3 : (c.marked.put i u a).marked.V = (c.marked.put i u a).V := rfl
      have q4 : (c.marked.put i u a).marked.N = (c.marked.put i u a).N := rfl
      have q5 : ((c.marked.put i u a).marked.put i a b).M = (c.marked.put i u a).marked.M := rfl
      have q6 : (c.marked.put i u a).M = c.marked.M := rfl
      rw [q1, q2] at g1 g2
      rw [q3, q4] at g3 g4
      rw [q5] at g4 g5
      rw [q6] at g2 g3 g5 g6 hsX
      generalize ints ((c.marked.put i u a).marked.put i a b).V = VY at g4 g5 lY eY
      generalize nts ((c.marked.put i u a).marked.put i a b).N = NY at g4 g5
      generalize ints (c.marked.put i u a).marked.M = MY at g3 g4 g5
      generalize ints (c.marked.put i u a).V = VX at g2 g3 g4 g5 g6 hsX lX eX
      generalize nts (c.marked.put i u a).N = NX at g2 g3 g4 g5 g6 hsX
      generalize ints c.marked.M = MX at g1 g2 g3 g5 g6 hsX
      generalize ints c.V = Vr at hfw hrg g1 g2 g6 hs1 lc ec ⊢
      generalize nts c.N = Nr at hfw hrg g1 g2 g6 hs1 ⊢
      generalize ints c.M = Mr at hfw hrg g1 g6 hs1 ⊢
      generalize c.right = r at hrg
      generalize hzi : (i : Int) = z at g2 g4 ⊢
      have hzn : z.toNat = i := by omega
      refine AWp.seq (AWp.region (AOL.to hA tabOk (by conv => lhs; cbv) (AOL.nil ?_)))
      refine AWp.seq (AWp.region (AOL.to hA tabOk (by conv => lhs; cbv) (AOL.nil ?_)))
      refine AWp.seq (AWp.region (AOL.to hA tabOk (by conv => lhs; cbv) (AOL.nil ?_)))
      refine AWp.seq (AWp.region (AOL.to hA tabOk (by conv => lhs; cbv) (AOL.nil ?_)))
      refine AWp.seq (AWp.region (AOL.to hA tabOk (by conv => lhs; cbv) (AOL.nil ?_)))
      refine AWp.seq (AWp.region (AOL.to hA tabOk (by conv => lhs; cbv) ?_))
      refine One.call false rfl rfl rfl hsh rfl _ _ ?_
      refine AOL.to hA tabOk (by conv => lhs; cbv) (AOL.nil ?_)
      refine AWp.seq (AWp.seq (AWp.region (AOL.to hA tabOk (by conv => lhs; cbv) ?_)))
      refine One.call false rfl rfl rfl hfw rfl _ _ ?_
      refine AOL.upto hA tabOk 2 (by conv => lhs; cbv) ?_
      rw [show A .no true = false by rw [rno hA]; rfl]
      refine AOL.to hA tabOk (by conv => lhs; cbv) ?_
      refine One.call false rfl rfl rfl hrg rfl _ _ ?_
      cases r with
      | false =>
        refine AOL.upto hA tabOk 3 (by conv => lhs; cbv) ?_
        rw [show A .no false = true by rw [rno hA]; rfl]
        refine AOL.to hA tabOk (by conv => lhs; cbv) (AOL.nil ?_)
        refine AWp.cond_t rfl ?_
        refine AWp.seq (AWp.region (AOL.to hA tabOk (by conv => lhs; cbv) (AOL.nil ?_)))
        exact AWp.ret ⟨.inr rfl, _, RetOk.one rfl (Res1.tmp _), rfl⟩
      | true =>
        refine AOL.upto hA tabOk 3 (by conv => lhs; cbv) ?_
        rw [show A .no true = false by rw [rno hA]; rfl]
        refine AOL.upto hA tabOk 4 (by conv => lhs; cbv) ?_
        rw [show A .lt z 0 = false by rw [rlt hA]; exact decide_eq_false (by omega)]
        refine AOL.to hA tabOk (by conv => lhs; cbv) (AOL.nil ?_)
        rw [show A .le (A .len Vr) z = false by rw [rle hA, rlen hA]; exact decide_eq_false (by omega)]
        refine AWp.cond_f rfl (AWp.skip ?_)
        refine AWp.seq (AWp.region (AOL.to hA tabOk (by conv => lhs; cbv) ?_))
        refine One.call false rfl rfl rfl g1 rfl _ _ ?_
        refine AOL.to hA tabOk (by conv => lhs; cbv) ?_
        refine One.call false rfl rfl rfl g2 rfl _ _ ?_
        refine AOL.to hA tabOk (by conv => lhs; cbv) (AOL.nil ?_)
        refine AWp.seq (AWp.region (AOL.to hA tabOk (by conv => lhs; cbv) ?_))
        refine One.call false rfl rfl rfl g3 rfl _ _ ?_
        refine AOL.to hA tabOk (by conv => lhs; cbv) ?_
        refine One.call false rfl rfl rfl g4 rfl _ _ ?_
        refine AOL.to hA tabOk (by conv => lhs; cbv) (AOL.nil ?_)
        refine AWp.seq (AWp.region (AOL.to hA tabOk (by conv => lhs; cbv) ?_))
        refine One.call false rfl rfl rfl g5 rfl _ _ ?_
        refine AOL.to hA tabOk (by conv => lhs; cbv) (AOL.nil ?_)
        refine AWp.seq (AWp.region (AOL.to hA tabOk (by conv => lhs; cbv) ?_))
        refine One.call false rfl rfl rfl g6 rfl _ _ ?_
        refine AOL.to hA tabOk (by conv => lhs; cbv) (AOL.nil ?_)
        refine AWp.seq (AWp.seq (AWp.region (AOL.upto hA tabOk 6 (by conv => lhs; cbv) ?_)))
        rw [show A .le (A .len VY) z = false by rw [rle hA, rlen hA]; exact decide_eq_false (by omega)]
        refine AOL.upto hA tabOk 7 (by conv => lhs; cbv) ?_
        rw [show A .le (A .len VX) z = false by rw [rle hA, rlen hA]; exact decide_eq_false (by omega)]
        refine AOL.to hA tabOk (by conv => lhs; cbv) (AOL.nil ?_)
        rw [show A .le (A .len Vr) z = false by rw [rle hA, rlen hA]; exact decide_eq_false (by omega)]
        refine AWp.cond_f rfl (AWp.skip ?_)
        refine AWp.seq (AWp.drawQ 51 rfl (by kernel_rfl) ?_)
        refine QS.upto hA tabOk 6 (by conv => lhs; cbv) ?_
        rw [ee 0]
        refine QS.upto hA tabOk 4 (by conv => lhs; cbv) ?_
        rw [ee 0]
        refine QS.to hA tabOk (by conv => lhs; cbv) ?_
        refine QS.one rfl (One.elem tabOk rfl rfl rfl rfl (by omega) (by rw [hzn]; exact eY)) ?_
        refine QS.upto hA tabOk 5 (by conv => lhs; cbv) ?_
        rw [ee b]
        refine QS.to hA tabOk (by conv => lhs; cbv) ?_
        refine QS.one rfl (One.elem tabOk rfl rfl rfl rfl (by omega) (by rw [hzn]; exact eX)) ?_
        refine QS.upto hA tabOk 5 (by conv => lhs; cbv) ?_
        rw [ee a]
        refine QS.to hA tabOk (by conv => lhs; cbv) ?_
        refine QS.one rfl (One.elem tabOk rfl rfl rfl rfl (by omega) (by rw [hzn]; exact ec)) ?_
        refine QS.to hA tabOk (by conv => lhs; cbv) ?_
        refine QS.one rfl (One.elem tabOk rfl rfl rfl rfl (by omega) (by rw [hzn]; exact ec)) ?_
        refine QS.upto hA tabOk 4 (by conv => lhs; cbv) ?_
        rw [ee u]
        refine QS.to hA tabOk (by conv => lhs; cbv) ?_
        refine QS.one rfl (One.call false rfl rfl rfl hsX rfl) ?_
        refine QS.to hA tabOk (by conv => lhs; cbv) ?_
        refine QS.one rfl (One.call false rfl rfl rfl hs1 rfl) ?_
        refine QS.to hA tabOk (by conv => lhs; cbv) ?_
        refine AOL.to hA tabOk (by conv => lhs; cbv) (AOL.nil ?_)
        exact AWp.ret ⟨.inr rfl, _, RetOk.one rfl (Res1.tmp _), rfl⟩
    · have lc : (ints c.V).length = c.V.length := by simp
      simp only [Cl.pv] at hfw hrg
      generalize ints c.V = Vr at hfw hrg lc ⊢
      generalize nts c.N = Nr at hfw hrg ⊢
      generalize ints c.M = Mr at hfw hrg ⊢
      generalize c.right = r at hrg
      refine AWp.seq (AWp.region (AOL.to hA tabOk (by conv => lhs; cbv) (AOL.nil ?_)))
      refine AWp.seq (AWp.region (AOL.to hA tabOk (by conv => lhs; cbv) (AOL.nil ?_)))
      refine AWp.seq (AWp.region (AOL.to hA tabOk (by conv => lhs; cbv) (AOL.nil ?_)))
      refine AWp.seq (AWp.region (AOL.to hA tabOk (by conv => lhs; cbv) (AOL.nil ?_)))
      refine AWp.seq (AWp.region (AOL.to hA tabOk (by conv => lhs; cbv) (AOL.nil ?_)))
      refine AWp.seq (AWp.region (AOL.to hA tabOk (by conv => lhs; cbv) ?_))
      refine One.call false rfl rfl rfl hsh rfl _ _ ?_
      refine AOL.to hA tabOk (by conv => lhs; cbv) (AOL.nil ?_)
      refine AWp.seq (AWp.seq (AWp.region (AOL.to hA tabOk (by conv => lhs; cbv) ?_)))
      refine One.call false rfl rfl rfl hfw rfl _ _ ?_
      refine AOL.upto hA tabOk 2 (by conv => lhs; cbv) ?_
      rw [show A .no true = false by rw [rno hA]; rfl]
      refine AOL.to hA tabOk (by conv => lhs; cbv) ?_
      refine One.call false rfl rfl rfl hrg rfl _ _ ?_
      cases r with
      | false =>
        refine AOL.upto hA tabOk 3 (by conv => lhs; cbv) ?_
        rw [show A .no false = true by rw [rno hA]; rfl]
        refine AOL.to hA tabOk (by conv => lhs; cbv) (AOL.nil ?_)
        refine AWp.cond_t rfl ?_
        refine AWp.seq (AWp.region (AOL.to hA tabOk (by conv => lhs; cbv) (AOL.nil ?_)))
        exact AWp.ret ⟨.inr rfl, _, RetOk.one rfl (Res1.tmp _), rfl⟩
      | true =>
        refine AOL.upto hA tabOk 3 (by conv => lhs; cbv) ?_
        rw [show A .no true = false by rw [rno hA]; rfl]
        refine AOL.upto hA tabOk 4 (by conv => lhs; cbv) ?_
        by_cases hz0 : z < 0
        · rw [show A .lt z 0 = true by rw [rlt hA]; exact decide_eq_true hz0]
          refine AOL.to hA tabOk (by conv => lhs; cbv) (AOL.nil ?_)
          refine AWp.cond_t rfl ?_
          refine AWp.seq (AWp.region (AOL.to hA tabOk (by conv => lhs; cbv) (AOL.nil ?_)))
          exact AWp.ret ⟨.inr rfl, _, RetOk.one rfl (Res1.tmp _), rfl⟩
        · rw [show A .lt z 0 = false by rw [rlt hA]; exact decide_eq_false hz0]
          refine AOL.to hA tabOk (by conv => lhs; cbv) (AOL.nil ?_)
          rw [show A .le (A .len Vr) z = true by rw [rle hA, rlen hA]; exact decide_eq_true (by omega)]
          refine AWp.cond_t rfl ?_
          refine AWp.seq (AWp.region (AOL.to hA tabOk (by conv => lhs; cbv) (AOL.nil ?_)))
          exact AWp.ret ⟨.inr rfl, _, RetOk.one rfl (Res1.tmp _), rfl⟩
  · rw [decide_eq_false hf] at hfw
    simp only [Cl.pv] at hfw
    generalize ints c.V = Vr at hfw ⊢
    generalize nts c.N = Nr at hfw ⊢
    generalize ints c.M = Mr at hfw ⊢
    refine AWp.seq (AWp.region (AOL.to hA tabOk (by conv => lhs; cbv) (AOL.nil ?_)))
    refine AWp.seq (AWp.region (AOL.to hA tabOk (by conv => lhs; cbv) (AOL.nil ?_)))
    refine AWp.seq (AWp.region (AOL.to hA tabOk (by conv => lhs; cbv) (AOL.nil ?_)))
    refine AWp.seq (AWp.region (AOL.to hA tabOk (by conv => lhs; cbv) (AOL.nil ?_)))
    refine AWp.seq (AWp.region (AOL.to hA tabOk (by conv => lhs; cbv) (AOL.nil ?_)))
    refine AWp.seq (AWp.region (AOL.to hA tabOk (by conv => lhs; cbv) ?_))
    refine One.call false rfl rfl rfl hsh rfl _ _ ?_
    refine AOL.to hA tabOk (by conv => lhs; cbv) (AOL.nil ?_)
    refine AWp.seq (AWp.seq (AWp.region (AOL.to hA tabOk (by conv => lhs; cbv) ?_)))
    refine One.call false rfl rfl rfl hfw rfl _ _ ?_
    refine AOL.upto hA tabOk 2 (by conv => lhs; cbv) ?_
    rw [show A .no false = true by rw [rno hA]; rfl]
    refine AOL.to hA tabOk (by conv => lhs; cbv) (AOL.nil ?_)
    refine AWp.cond_t rfl ?_
    refine AWp.seq (AWp.region (AOL.to hA tabOk (by conv => lhs; cbv) (AOL.nil ?_)))
    exact AWp.ret ⟨.inr rfl, _, RetOk.one rfl (Res1.tmp _), rfl⟩
end Go.Proofs.Ytinehodamekjgaa.Aw
