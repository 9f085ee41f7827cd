/- The law TrailSets, walked. -/
import Derived.Test.YtinehodamekjgaaTr11
set_option linter.unusedVariables false
namespace Go.Proofs.Ytinehodamekjgaa.Aw
open Go Go.RowKit
set_option maxRecDepth 10000
variable {A : Ar} (hA : A = real)
include hA
theorem lawSets (c : Cl) (h : c.fits) (z v : Int) : PureCalls Try.prog 6 [c.pv, .c (I z), .c (I v)] (.c (Bo true)) := by
  refine PureCalls.of Try.func6 rfl (by kernel_rfl) rfl ?_
  have hsh := shown_c hA
  have hfw := few_cl hA c h
  by_cases hf : c.V.length + c.N.length + c.M.length ≤ 500
  · rw [decide_eq_true hf] at hfw
    have hsm : c.small := ⟨by omega, by omega, by omega⟩
    have hrg := refRight hA c hsm
    have ee : ∀ n : Int, A .no (A .eq n n) = false := fun n => by rw [rno hA, req hA]; simp
    have g2 := grow_cl hA c hsm v
    have g3 := mark_cl hA c hsm
    have hI := refInts hA c.V c.V (by omega) (by omega)
    rw [decide_eq_true rfl] at hI
    have hs1 := refSame hA c c hsm hsm
    rw [decide_eq_true rfl] at hs1
    have hset : (∃ (i : Nat) (u : Int), z = (i : Int) ∧ c.V[i]? = some u ∧ i < c.V.length ∧ PureCalls Try.prog 16 [c.pv, .c (I z), .c (I v)] (.tup [(c.put i u v).pv, .c (I 0)])) ∨
        ((z < 0 ∨ (c.V.length : Int) ≤ z) ∧ PureCalls Try.prog 16 [c.pv, .c (I z), .c (I v)] (.tup [c.pv, .c (I 1)])) := by
      by_cases hz : 0 ≤ z ∧ z < c.V.length
      · obtain ⟨i, rfl⟩ : ∃ i : Nat, z = (i : Int) := ⟨z.toNat, by omega⟩
        have hi : i < c.V.length := by omega
        exact .inl ⟨i, c.V[i], rfl, List.getElem?_eq_getElem hi, hi, set_cl hA c hsm i _ v (List.getElem?_eq_getElem hi)⟩
      · exact .inr ⟨by omega, set_c0 hA _ _ _ z v (by simp only [List.length_map]; omega)⟩
    have lc : (ints c.V).length = c.V.length := by simp
    have lG : (ints (c.grown v).V).length = c.V.length + 1 := by simp [Cl.grown]
    have eG : (ints (c.grown v).V)[c.V.length]? = some [I v] := by simp [Cl.grown, ints]
    have q1 : c.marked.V = c.V := rfl
    have ln : (nts c.N).length = c.N.length := by simp
    have hVg := ints_get? c.V
    have hput : ∀ (i : Nat) (u : Int), (ints (c.put i u v).V).length = c.V.length ∧ (nts (c.put i u v).N).length = c.N.length + 1 ∧ (i < c.V.length → (ints (c.put i u v).V)[i]? = some [I v]) ∧ (∀ (k : Nat) (w : Int), k ≠ i → c.V[k]? = some w → (ints (c.put i u v).V)[k]? = some [I w]) ∧ (c.put i u v).M = c.M := fun i u => by
      refine ⟨by simp [Cl.put], by simp [Cl.put], fun hi => ints_get? _ _ _ (by simp [Cl.put, hi]), fun k w hk hw => ints_get? _ _ _ (by simp only [Cl.put]; rw [List.getElem?_set_ne (Ne.symm hk)]; exact hw), rfl⟩
    simp only [Cl.pv, q1] at hfw hrg g2 g3 hI hs1 hset ⊢
    generalize ints (c.grown v).V = VG at g2 lG eG
    generalize nts (c.grown v).N = NG at g2
    generalize ints (c.grown v).M = MG at g2
    generalize nts c.marked.N = NM at g3
    generalize ints c.marked.M = MM at g3
    generalize ints c.V = Vr at hfw hrg g2 g3 hI hs1 hset lc hVg ⊢
    generalize nts c.N = Nr at hfw hrg g2 g3 hs1 hset ln ⊢
    generalize hMr : ints c.M = Mr at hfw hrg g2 g3 hs1 hset ⊢
    generalize c.right = r at hrg
    refine AWp.seq (AWp.region (AOL.to hA tabOk (by conv => lhs; cbv) (AOL.nil ?_)))
    refine AWp.seq (AWp.region (AOL.to hA tabOk (by conv => lhs; cbv) ?_))
    refine One.call false rfl rfl rfl hsh rfl _ _ ?_
    refine AOL.to hA tabOk (by conv => lhs; cbv) (AOL.nil ?_)
    refine AWp.seq (AWp.seq (AWp.region (AOL.to hA tabOk (by conv => lhs; cbv) ?_)))
    refine One.call false rfl rfl rfl hfw rfl _ _ ?_
    refine AOL.upto hA tabOk 2 (by conv => lhs; cbv) ?_
    rw [show A .no true = false by rw [rno hA]; rfl]
    refine AOL.to hA tabOk (by conv => lhs; cbv) ?_
    refine One.call false rfl rfl rfl hrg rfl _ _ ?_
    refine AOL.to hA tabOk (by conv => lhs; cbv) (AOL.nil ?_)
    cases r with
    | false =>
      rw [show A .no false = true by rw [rno hA]; rfl]
      refine AWp.cond_t rfl ?_
      refine AWp.seq (AWp.region (AOL.to hA tabOk (by conv => lhs; cbv) (AOL.nil ?_)))
      exact AWp.ret ⟨.inr rfl, _, RetOk.one rfl (Res1.tmp _), rfl⟩
    | true =>
      rw [show A .no true = false by rw [rno hA]; rfl]
      refine AWp.cond_f rfl (AWp.skip ?_)
      have hadd : A .add .i64 (A .len Vr) 1 = ((c.V.length + 1 : Nat) : Int) := by rw [radd hA, rlen hA, lc, wok (by omega) (by omega)]; omega
      have hc1 : A .no (A .eq (A .len VG) (A .add .i64 (A .len Vr) 1)) = false := by rw [hadd, rlen hA, lG]; exact ee _
      have hlv : A .len Vr = (c.V.length : Int) := by rw [rlen hA, lc]
      rcases hset with ⟨i, u, hzi, hu, hi, g1⟩ | ⟨hz, g1⟩
      · obtain ⟨p1, p2, p3, p4, p5⟩ := hput i u
        rw [p5, hMr] at g1
        generalize ints (c.put i u v).V = VA at g1 p1 p3 p4
        generalize nts (c.put i u v).N = NA at g1 p2
        refine AWp.seq (AWp.region (AOL.to hA tabOk (by conv => lhs; cbv) ?_))
        refine One.call false rfl rfl rfl g1 rfl _ _ ?_
        refine AOL.to hA tabOk (by conv => lhs; cbv) (AOL.nil ?_)
        refine AWp.seq (AWp.region (AOL.to hA tabOk (by conv => lhs; cbv) ?_))
        refine One.call false rfl rfl rfl g2 rfl _ _ ?_
        refine AOL.to hA tabOk (by conv => lhs; cbv) (AOL.nil ?_)
        refine AWp.seq (AWp.region (AOL.to hA tabOk (by conv => lhs; cbv) ?_))
        refine One.call false rfl rfl rfl g3 rfl _ _ ?_
        refine AOL.to hA tabOk (by conv => lhs; cbv) (AOL.nil ?_)
        refine AWp.seq (AWp.seq (AWp.region (AOL.upto hA tabOk 9 (by conv => lhs; cbv) ?_)))
        rw [hc1]
        refine AOL.to hA tabOk (by conv => lhs; cbv) ?_
        refine One.elem tabOk rfl rfl rfl rfl (by rw [hlv]; omega) (by rw [hlv, Int.toNat_natCast]; exact eG) _ _ ?_
        refine AOL.upto hA tabOk 5 (by conv => lhs; cbv) ?_
        rw [ee v]
        refine AOL.to hA tabOk (by conv => lhs; cbv) ?_
        refine One.call false rfl rfl rfl hI rfl _ _ ?_
        refine AOL.to hA tabOk (by conv => lhs; cbv) (AOL.nil ?_)
        rw [show A .no true = false by rw [rno hA]; rfl]
        refine AWp.cond_f rfl (AWp.skip ?_)
        refine AWp.seq (AWp.seq (AWp.region (AOL.to hA tabOk (by conv => lhs; cbv) (AOL.nil ?_))))
        rw [ee 0]
        refine AWp.cond_f rfl (AWp.skip ?_)
        refine AWp.seq (AWp.seq (AWp.region (AOL.upto hA tabOk 8 (by conv => lhs; cbv) ?_)))
        rw [show A .no (A .eq (A .len VA) (A .len Vr)) = false by rw [rlen hA, p1, hlv]; exact ee _]
        refine AOL.upto hA tabOk 4 (by conv => lhs; cbv) ?_
        rw [show A .lt z 0 = false by rw [rlt hA]; exact decide_eq_false (by omega)]
        refine AOL.to hA tabOk (by conv => lhs; cbv) (AOL.nil ?_)
        rw [show A .le (A .len VA) z = false by rw [rle hA, rlen hA]; exact decide_eq_false (by omega)]
        refine AWp.cond_f rfl (AWp.skip ?_)
        refine AWp.seq (AWp.seq (AWp.region (AOL.to hA tabOk (by conv => lhs; cbv) (AOL.nil ?_))))
        refine AWp.block ?_
        refine AWp.loop (fun m s => ∃ k : Nat, m + k = c.V.length ∧ Sub ⟨147, [(1, .ic (I z)), (2, .ic (I v)), (3, .ptr 0 0), (7, .ic (Bo true)), (8, .ptr 1 0), (12, .ic (I (k : Int)))],
          [.var true 25 [.ic (.sl 1 false Vr), .ic (.sl 2 false Nr), .ic (.sl 1 false Mr)], .var true 25 [.ic (.sl 1 false VA), .ic (.sl 2 false NA), .ic (.sl 1 false Mr)],
           .var true 25 [.ic (.sl 1 false VG), .ic (.sl 2 false NG), .ic (.sl 1 false MG)], .var true 25 [.ic (.sl 1 false Vr), .ic (.sl 2 false NM), .ic (.sl 1 false MM)]]⟩ s) c.V.length
          ⟨0, by omega, Sub.of rfl rfl (.cons rfl (.cons rfl (.cons rfl (.cons rfl (.cons rfl (.cons rfl .nil))))))⟩ ?_
        rintro m s ⟨k, hk, hsub⟩
        refine AWp.sub hsub ?_
        generalize hy : (k : Int) = y
        refine AWp.seq (AWp.seq (AWp.region (AOL.to hA tabOk (by conv => lhs; cbv) (AOL.nil ?_))))
        rcases Nat.lt_or_ge k c.V.length with hkl | hkl
        · rw [show A .lt y (A .len Vr) = true by rw [rlt hA, hlv]; exact decide_eq_true (by omega)]
          refine AWp.cond_t rfl (AWp.skip ?_)
          have hyn : y.toNat = k := by omega
          have hadd1 : A .add .i64 y 1 = ((k + 1 : Nat) : Int) := by rw [radd hA, wok (by omega) (by omega)]; omega
          refine AWp.seq (AWp.block (AWp.seq (AWp.drawQ 30 rfl (by kernel_rfl) ?_)))
          by_cases hki : k = i
          · refine QS.upto hA tabOk 4 (by conv => lhs; cbv) ?_
            rw [show A .eq y z = true by rw [req hA]; exact decide_eq_true (by omega)]
            refine QS.to hA tabOk (by conv => lhs; cbv) ?_
            refine QS.one rfl (One.elem tabOk rfl rfl rfl rfl (by omega) (by rw [hyn, hki]; exact p3 hi)) ?_
            refine QS.upto hA tabOk 5 (by conv => lhs; cbv) ?_
            rw [ee v]
            refine QS.upto hA tabOk 4 (by conv => lhs; cbv) ?_
            rw [show A .no (A .eq y z) = false by rw [rno hA, req hA, decide_eq_true (by omega)]; rfl]
            refine QS.to hA tabOk (by conv => lhs; cbv) ?_
            refine AOL.to hA tabOk (by conv => lhs; cbv) (AOL.nil ?_)
            refine AWp.cond_f rfl (AWp.skip ?_)
            refine AWp.region (AOL.to hA tabOk (by conv => lhs; cbv) (AOL.nil ?_))
            rw [hadd1]
            exact ⟨m - 1, by omega, k + 1, by omega, Sub.of rfl rfl (.cons rfl (.cons rfl (.cons rfl (.cons rfl (.cons rfl (.cons rfl .nil))))))⟩
          · have hw : c.V[k]? = some c.V[k] := List.getElem?_eq_getElem hkl
            generalize c.V[k] = w at hw
            refine QS.upto hA tabOk 4 (by conv => lhs; cbv) ?_
            rw [show A .eq y z = false by rw [req hA]; exact decide_eq_false (by omega)]
            refine QS.upto hA tabOk 13 (by conv => lhs; cbv) ?_
            rw [show A .no (A .eq y z) = true by rw [rno hA, req hA, decide_eq_false (by omega)]; rfl]
            refine QS.to hA tabOk (by conv => lhs; cbv) ?_
            refine QS.one rfl (One.elem tabOk rfl rfl rfl rfl (by omega) (by rw [hyn]; exact p4 k w hki hw)) ?_
            refine QS.to hA tabOk (by conv => lhs; cbv) ?_
            refine QS.one rfl (One.elem tabOk rfl rfl rfl rfl (by omega) (by rw [hyn]; exact hVg k w hw)) ?_
            refine QS.to hA tabOk (by conv => lhs; cbv) ?_
            refine AOL.to hA tabOk (by conv => lhs; cbv) (AOL.nil ?_)
            rw [ee w]
            refine AWp.cond_f rfl (AWp.skip ?_)
            refine AWp.region (AOL.to hA tabOk (by conv => lhs; cbv) (AOL.nil ?_))
            rw [hadd1]
            exact ⟨m - 1, by omega, k + 1, by omega, Sub.of rfl rfl (.cons rfl (.cons rfl (.cons rfl (.cons rfl (.cons rfl (.cons rfl .nil))))))⟩
        · rw [show A .lt y (A .len Vr) = false by rw [rlt hA, hlv]; exact decide_eq_false (by omega)]
          refine AWp.cond_f rfl (AWp.exit (Thn.exit (Thn.exit (Blk.here ?_))))
          refine AWp.seq (AWp.region (AOL.to hA tabOk (by conv => lhs; cbv) (AOL.nil ?_)))
          rw [show A .eq (A .len NA) (A .add .i64 (A .len Nr) 1) = true by rw [req hA, radd hA, rlen hA, rlen hA, wok (by omega) (by omega)]; exact decide_eq_true (by omega)]
          exact AWp.ret ⟨.inr rfl, _, RetOk.one rfl (Res1.tmp _), rfl⟩
      · refine AWp.seq (AWp.region (AOL.to hA tabOk (by conv => lhs; cbv) ?_))
        refine One.call false rfl rfl rfl g1 rfl _ _ ?_
        refine AOL.to hA tabOk (by conv => lhs; cbv) (AOL.nil ?_)
        refine AWp.seq (AWp.region (AOL.to hA tabOk (by conv => lhs; cbv) ?_))
        refine One.call false rfl rfl rfl g2 rfl _ _ ?_
        refine AOL.to hA tabOk (by conv => lhs; cbv) (AOL.nil ?_)
        refine AWp.seq (AWp.region (AOL.to hA tabOk (by conv => lhs; cbv) ?_))
        refine One.call false rfl rfl rfl g3 rfl _ _ ?_
        refine AOL.to hA tabOk (by conv => lhs; cbv) (AOL.nil ?_)
        refine AWp.seq (AWp.seq (AWp.region (AOL.upto hA tabOk 9 (by conv => lhs; cbv) ?_)))
        rw [hc1]
        refine AOL.to hA tabOk (by conv => lhs; cbv) ?_
        refine One.elem tabOk rfl rfl rfl rfl (by rw [hlv]; omega) (by rw [hlv, Int.toNat_natCast]; exact eG) _ _ ?_
        refine AOL.upto hA tabOk 5 (by conv => lhs; cbv) ?_
        rw [ee v]
        refine AOL.to hA tabOk (by conv => lhs; cbv) ?_
        refine One.call false rfl rfl rfl hI rfl _ _ ?_
        refine AOL.to hA tabOk (by conv => lhs; cbv) (AOL.nil ?_)
        rw [show A .no true = false by rw [rno hA]; rfl]
        refine AWp.cond_f rfl (AWp.skip ?_)
        refine AWp.seq (AWp.seq (AWp.region (AOL.to hA tabOk (by conv => lhs; cbv) (AOL.nil ?_))))
        rw [show A .no (A .eq 1 0) = true by rw [rno hA, req hA]; rfl]
        refine AWp.cond_t rfl ?_
        refine AWp.seq (AWp.region (AOL.upto hA tabOk 5 (by conv => lhs; cbv) ?_))
        by_cases hz0 : z < 0
        · rw [show A .lt z 0 = true by rw [rlt hA]; exact decide_eq_true hz0]
          refine AOL.to hA tabOk (by conv => lhs; cbv) ?_
          refine One.call false rfl rfl rfl hs1 rfl _ _ ?_
          refine AOL.to hA tabOk (by conv => lhs; cbv) (AOL.nil ?_)
          exact AWp.ret ⟨.inr rfl, _, RetOk.one rfl (Res1.tmp _), rfl⟩
        · rw [show A .lt z 0 = false by rw [rlt hA]; exact decide_eq_false hz0]
          refine AOL.upto hA tabOk 8 (by conv => lhs; cbv) ?_
          rw [show A .le (A .len Vr) z = true by rw [rle hA, hlv]; exact decide_eq_true (by omega)]
          refine AOL.to hA tabOk (by conv => lhs; cbv) ?_
          refine One.call false rfl rfl rfl hs1 rfl _ _ ?_
          refine AOL.to hA tabOk (by conv => lhs; cbv) (AOL.nil ?_)
          exact AWp.ret ⟨.inr rfl, _, RetOk.one rfl (Res1.tmp _), rfl⟩
  · rw [decide_eq_false hf] at hfw
    simp only [Cl.pv] at hfw ⊢
    generalize ints c.V = Vr at hfw ⊢
    generalize nts c.N = Nr at hfw ⊢
    generalize ints c.M = Mr at hfw ⊢
    refine AWp.seq (AWp.region (AOL.to hA tabOk (by conv => lhs; cbv) (AOL.nil ?_)))
    refine AWp.seq (AWp.region (AOL.to hA tabOk (by conv => lhs; cbv) ?_))
    refine One.call false rfl rfl rfl hsh rfl _ _ ?_
    refine AOL.to hA tabOk (by conv => lhs; cbv) (AOL.nil ?_)
    refine AWp.seq (AWp.seq (AWp.region (AOL.to hA tabOk (by conv => lhs; cbv) ?_)))
    refine One.call false rfl rfl rfl hfw rfl _ _ ?_
    refine AOL.upto hA tabOk 2 (by conv => lhs; cbv) ?_
    rw [show A .no false = true by rw [rno hA]; rfl]
    refine AOL.to hA tabOk (by conv => lhs; cbv) (AOL.nil ?_)
    refine AWp.cond_t rfl ?_
    refine AWp.seq (AWp.region (AOL.to hA tabOk (by conv => lhs; cbv) (AOL.nil ?_)))
    exact AWp.ret ⟨.inr rfl, _, RetOk.one rfl (Res1.tmp _), rfl⟩
end Go.Proofs.Ytinehodamekjgaa.Aw
