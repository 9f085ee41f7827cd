/- TrailBacks, the round of the script, walked. -/
import Derived.Test.YtinehodamekjgaaBk2
set_option linter.unusedVariables false
namespace Go.Proofs.Ytinehodamekjgaa.Aw
open Go Go.RowKit
set_option maxRecDepth 10000
variable {A : Ar} (hA : A = real)
include hA
theorem lawBacks (c : Cl) (h : c.fits) (acts : List (Int × Int × Int)) (hacts : acts.length ≤ 140737488351232) : PureCalls Try.prog 5 [c.pv, .c (.sl 3 false (actRows acts))] (.c (Bo true)) := by
  refine PureCalls.of Try.func5 rfl (by kernel_rfl) rfl ?_
  have hsh := shown_c hA
  have hfw := few_cl hA c h
  have hal : (actRows acts).length = acts.length := by simp
  have hag : ∀ (i : Nat) (w p q : Int), acts[i]? = some (w, p, q) → (actRows acts)[i]? = some [I w, I p, I q] := fun i w p q hi => by simp [actRows, hi]
  by_cases hf : c.V.length + c.N.length + c.M.length ≤ 500
  · rw [decide_eq_true hf] at hfw
    have hsm : c.small := ⟨by omega, by omega, by omega⟩
    have hrg := refRight hA c hsm
    have g1 := mark_cl hA c hsm
    have hs1 := refSame hA c c hsm hsm
    rw [decide_eq_true rfl] at hs1
    have hcl : (ints c.M).length = c.M.length := by simp
    simp only [Cl.pv] at hfw hrg g1 hs1 ⊢
    generalize hcV : ints c.V = cV at hfw hrg g1 hs1 ⊢
    generalize hcN : nts c.N = cN at hfw hrg g1 hs1 ⊢
    generalize hcM : ints c.M = cM at hfw hrg g1 hs1 hcl ⊢
    generalize hX : actRows acts = X at hal hag ⊢
    generalize hr : c.right = r at hrg
    refine AWp.seq (AWp.region (AOL.to hA tabOk (by conv => lhs; cbv) (AOL.nil ?_)))
    refine AWp.seq (AWp.region (AOL.to hA tabOk (by conv => lhs; cbv) ?_))
    refine One.call false rfl rfl rfl hsh rfl _ _ ?_
    refine AOL.to hA tabOk (by conv => lhs; cbv) (AOL.nil ?_)
    refine AWp.seq (AWp.seq (AWp.region (AOL.to hA tabOk (by conv => lhs; cbv) ?_)))
    refine One.call false rfl rfl rfl hfw rfl _ _ ?_
    refine AOL.upto hA tabOk 2 (by conv => lhs; cbv) ?_
    rw [show A .no true = false by rw [rno hA]; rfl]
    refine AOL.to hA tabOk (by conv => lhs; cbv) ?_
    refine One.call false rfl rfl rfl hrg rfl _ _ ?_
    cases r with
    | false =>
      refine AOL.upto hA tabOk 3 (by conv => lhs; cbv) ?_
      rw [show A .no false = true by rw [rno hA]; rfl]
      refine AOL.to hA tabOk (by conv => lhs; cbv) (AOL.nil ?_)
      refine AWp.cond_t rfl ?_
      refine AWp.seq (AWp.region (AOL.to hA tabOk (by conv => lhs; cbv) (AOL.nil ?_)))
      exact AWp.ret ⟨.inr rfl, _, RetOk.one rfl (Res1.tmp _), rfl⟩
    | true =>
      refine AOL.upto hA tabOk 3 (by conv => lhs; cbv) ?_
      rw [show A .no true = false by rw [rno hA]; rfl]
      refine AOL.to hA tabOk (by conv => lhs; cbv) (AOL.nil ?_)
      by_cases h60 : 60 < acts.length
      · rw [show A .lt 60 (A .len X) = true by rw [rlt hA, rlen hA]; exact decide_eq_true (by omega)]
        refine AWp.cond_t rfl ?_
        refine AWp.seq (AWp.region (AOL.to hA tabOk (by conv => lhs; cbv) (AOL.nil ?_)))
        exact AWp.ret ⟨.inr rfl, _, RetOk.one rfl (Res1.tmp _), rfl⟩
      · rw [show A .lt 60 (A .len X) = false by rw [rlt hA, rlen hA]; exact decide_eq_false (by omega)]
        refine AWp.cond_f rfl (AWp.skip ?_)
        have q1 : c.marked.V = c.V := rfl
        have q2 : c.marked.N = c.N := rfl
        rw [q1, q2, hcV, hcN] at g1
        generalize hmM : ints c.marked.M = mM at g1
        refine AWp.seq (AWp.region (AOL.to hA tabOk (by conv => lhs; cbv) ?_))
        refine One.call false rfl rfl rfl g1 rfl _ _ ?_
        refine AOL.to hA tabOk (by conv => lhs; cbv) (AOL.nil ?_)
        refine AWp.seq (AWp.region (AOL.to hA tabOk (by conv => lhs; cbv) (AOL.nil ?_)))
        refine AWp.seq (AWp.seq (AWp.region (AOL.to hA tabOk (by conv => lhs; cbv) (AOL.nil ?_))))
        refine AWp.block ?_
        have hright : c.right = true := hr
        refine AWp.loop (fun m s => ∃ (k : Nat) (d : Cl) (L : List Int), m + k = acts.length ∧ Bk c d L ∧ Sz c d L k ∧ Sub ⟨125, [(1, .ic (.sl 3 false X)), (2, .ptr 0 0), (5, .ic (Bo true)), (6, .ptr 1 0), (7, .ic (I (L.length : Int))), (8, .ic (I (k : Int)))],
          [.var true 25 [.ic (.sl 1 false cV), .ic (.sl 2 false cN), .ic (.sl 1 false cM)], cobj d]⟩ s) acts.length
          ⟨0, c.marked, [], by omega, Bk.start c, ⟨by simp [Cl.marked]; omega, by simp [Cl.marked]; omega, by simp [Cl.marked], Nat.le_refl _⟩, Sub.of rfl (by rw [← hmM, ← hcV, ← hcN]; rfl) (.cons rfl (.cons rfl (.cons rfl (.cons rfl (.cons rfl (.cons rfl .nil))))))⟩ ?_
        rintro m s ⟨k, d, L, hmk, hbk, hsz, hsub⟩
        refine AWp.sub hsub (AWp.trim 2 (Nat.le_refl _) ?_)
        obtain ⟨z1, z2, z3, z4⟩ := hsz
        have hds : d.small := ⟨by omega, by omega, by omega⟩
        simp only [cobj]
        generalize hdV : ints d.V = dV
        generalize hdN : nts d.N = dN
        generalize hdM : ints d.M = dM
        generalize hy : (k : Int) = y
        generalize hl : (L.length : Int) = l
        refine AWp.seq (AWp.seq (AWp.region (AOL.to hA tabOk (by conv => lhs; cbv) (AOL.nil ?_))))
        rcases Nat.lt_or_ge k acts.length with hkl | hkl
        · rw [show A .lt y (A .len X) = true by rw [rlt hA, rlen hA]; exact decide_eq_true (by omega)]
          refine AWp.cond_t rfl (AWp.skip ?_)
          have hw : acts[k]? = some acts[k] := List.getElem?_eq_getElem hkl
          generalize acts[k] = act at hw
          obtain ⟨w, p, q⟩ := act
          have hyn : y.toNat = k := by omega
          refine AWp.seq (AWp.block (AWp.seq (AWp.region (AOL.to hA tabOk (by conv => lhs; cbv) ?_))))
          refine One.elem tabOk rfl rfl rfl rfl (by omega) (by rw [hyn]; exact hag k w p q hw) _ _ ?_
          refine AOL.to hA tabOk (by conv => lhs; cbv) (AOL.nil ?_)
          refine AWp.seq (AWp.seq (AWp.region (AOL.to hA tabOk (by conv => lhs; cbv) (AOL.nil ?_))))
          refine AWp.mono (Q := fun e s' => e = .normal ∧ ∃ (d' : Cl) (L' : List Int), Bk c d' L' ∧ Sz c d' L' (k + 1) ∧ Sub ⟨125, [(1, .ic (.sl 3 false X)), (2, .ptr 0 0), (5, .ic (Bo true)), (6, .ptr 1 0), (7, .ic (I (L'.length : Int))), (8, .ic (I y))],
            [.var true 25 [.ic (.sl 1 false cV), .ic (.sl 2 false cN), .ic (.sl 1 false cM)], cobj d', .var true 39 [.ic (I w), .ic (I p), .ic (I q)]]⟩ s') ?_ ?_
          · refine AWp.block (AWp.seq (AWp.region (AOL.to hA tabOk (by conv => lhs; cbv) (AOL.nil ?_))))
            by_cases w0 : w = 0
            · rw [show A .eq w 0 = true by rw [req hA]; exact decide_eq_true w0]
              obtain ⟨d', e, g, hd'⟩ := set_any hA d hds p q
              have hb' : Bk c d' L ∧ d'.V.length = d.V.length ∧ d'.N.length ≤ d.N.length + 1 ∧ d'.M = d.M := by
                rcases hd' with rfl | ⟨i, u, hu, rfl⟩
                · exact ⟨hbk, rfl, by omega, rfl⟩
                · exact ⟨hbk.put hu, by simp [Cl.put], by simp [Cl.put], rfl⟩
              obtain ⟨hb', r1, r2, r3⟩ := hb'
              simp only [Cl.pv] at g
              rw [hdV, hdN, hdM] at g
              generalize u1 : ints d'.V = xV at g
              generalize u2 : nts d'.N = xN at g
              generalize u3 : ints d'.M = xM at g
              refine AWp.cond_t rfl (AWp.region (AOL.to hA tabOk (by conv => lhs; cbv) ?_))
              refine One.call false rfl rfl rfl g rfl _ _ ?_
              refine AOL.to hA tabOk (by conv => lhs; cbv) (AOL.nil ?_)
              have hl2 : (L.length : Int) = l := hl
              exact ⟨rfl, d', L, hb', ⟨by omega, by omega, by rw [r3]; omega, by omega⟩, Sub.of rfl (by simp only [cobj]; rw [u1, u2, u3]) (.cons rfl (.cons rfl (.cons rfl (.cons rfl (.cons (by rw [hl2]; rfl) (.cons rfl .nil))))))⟩
            · rw [show A .eq w 0 = false by rw [req hA]; exact decide_eq_false w0]
              refine AWp.cond_f rfl (AWp.seq (AWp.region (AOL.to hA tabOk (by conv => lhs; cbv) (AOL.nil ?_))))
              by_cases w1 : w = 1
              · rw [show A .eq w 1 = true by rw [req hA]; exact decide_eq_true w1]
                obtain ⟨d', hd', g⟩ : ∃ d' : Cl, d' = d.grown q ∧ PureCalls Try.prog 21 [d.pv, .c (I q)] d'.pv := ⟨_, rfl, grow_cl hA d hds q⟩
                have hb' : Bk c d' L ∧ d'.V.length = d.V.length + 1 ∧ d'.N.length = d.N.length + 1 ∧ d'.M = d.M := by subst hd'; exact ⟨hbk.grown q, by simp [Cl.grown], by simp [Cl.grown], rfl⟩
                obtain ⟨hb', r1, r2, r3⟩ := hb'
                simp only [Cl.pv] at g
                rw [hdV, hdN, hdM] at g
                generalize u1 : ints d'.V = xV at g
                generalize u2 : nts d'.N = xN at g
                generalize u3 : ints d'.M = xM at g
                refine AWp.cond_t rfl (AWp.region (AOL.to hA tabOk (by conv => lhs; cbv) ?_))
                refine One.call false rfl rfl rfl g rfl _ _ ?_
                refine AOL.to hA tabOk (by conv => lhs; cbv) (AOL.nil ?_)
                have hl2 : (L.length : Int) = l := hl
                exact ⟨rfl, d', L, hb', ⟨by omega, by omega, by rw [r3]; omega, by omega⟩, Sub.of rfl (by simp only [cobj]; rw [u1, u2, u3]) (.cons rfl (.cons rfl (.cons rfl (.cons rfl (.cons (by rw [hl2]; rfl) (.cons rfl .nil))))))⟩
              · rw [show A .eq w 1 = false by rw [req hA]; exact decide_eq_false w1]
                refine AWp.cond_f rfl (AWp.seq (AWp.region (AOL.to hA tabOk (by conv => lhs; cbv) (AOL.nil ?_))))
                by_cases w2 : w = 2
                · rw [show A .eq w 2 = true by rw [req hA]; exact decide_eq_true w2]
                  obtain ⟨d', hd', g⟩ : ∃ d' : Cl, d' = d.marked ∧ PureCalls Try.prog 17 [d.pv] d'.pv := ⟨_, rfl, mark_cl hA d hds⟩
                  have hb' : Bk c d' (L ++ [(d.N.length : Int)]) ∧ d'.V.length = d.V.length ∧ d'.N.length = d.N.length ∧ d'.M.length = d.M.length + 1 := by subst hd'; exact ⟨hbk.marked, rfl, rfl, by simp [Cl.marked]⟩
                  obtain ⟨hb', r1, r2, r3⟩ := hb'
                  simp only [Cl.pv] at g
                  rw [hdV, hdN, hdM] at g
                  generalize u1 : ints d'.V = xV at g
                  generalize u2 : nts d'.N = xN at g
                  generalize u3 : ints d'.M = xM at g
                  refine AWp.cond_t rfl (AWp.seq (AWp.region (AOL.to hA tabOk (by conv => lhs; cbv) ?_)))
                  refine One.call false rfl rfl rfl g rfl _ _ ?_
                  refine AOL.to hA tabOk (by conv => lhs; cbv) (AOL.nil ?_)
                  refine AWp.region (AOL.to hA tabOk (by conv => lhs; cbv) (AOL.nil ?_))
                  have hl2 : ((L ++ [(d.N.length : Int)]).length : Int) = A .add .i64 l 1 := by rw [radd hA, wok (by omega) (by omega)]; simp; omega
                  exact ⟨rfl, d', _, hb', ⟨by omega, by omega, by simp; omega, by simp; omega⟩, Sub.of rfl (by simp only [cobj]; rw [u1, u2, u3]) (.cons rfl (.cons rfl (.cons rfl (.cons rfl (.cons (by rw [hl2]; rfl) (.cons rfl .nil))))))⟩
                · rw [show A .eq w 2 = false by rw [req hA]; exact decide_eq_false w2]
                  refine AWp.cond_f rfl (AWp.seq (AWp.region (AOL.to hA tabOk (by conv => lhs; cbv) (AOL.nil ?_))))
                  have same : ∀ (s' : St), Sub ⟨125, [(1, .ic (.sl 3 false X)), (2, .ptr 0 0), (5, .ic (Bo true)), (6, .ptr 1 0), (7, .ic (I (L.length : Int))), (8, .ic (I y))], [.var true 25 [.ic (.sl 1 false cV), .ic (.sl 2 false cN), .ic (.sl 1 false cM)], cobj d, .var true 39 [.ic (I w), .ic (I p), .ic (I q)]]⟩ s' → ∃ (d' : Cl) (L' : List Int), Bk c d' L' ∧ Sz c d' L' (k + 1) ∧ Sub ⟨125, [(1, .ic (.sl 3 false X)), (2, .ptr 0 0), (5, .ic (Bo true)), (6, .ptr 1 0), (7, .ic (I (L'.length : Int))), (8, .ic (I y))], [.var true 25 [.ic (.sl 1 false cV), .ic (.sl 2 false cN), .ic (.sl 1 false cM)], cobj d', .var true 39 [.ic (I w), .ic (I p), .ic (I q)]]⟩ s' :=
                    fun s' hs => ⟨d, L, hbk, ⟨by omega, by omega, by omega, by omega⟩, hs⟩
                  have hsame : ∀ (st : List AObj), st = [.var true 25 [.ic (.sl 1 false cV), .ic (.sl 2 false cN), .ic (.sl 1 false cM)], .var true 25 [.ic (.sl 1 false dV), .ic (.sl 2 false dN), .ic (.sl 1 false dM)], .var true 39 [.ic (I w), .ic (I p), .ic (I q)]] → st = [.var true 25 [.ic (.sl 1 false cV), .ic (.sl 2 false cN), .ic (.sl 1 false cM)], cobj d, .var true 39 [.ic (I w), .ic (I p), .ic (I q)]] := fun st hst => by rw [hst]; simp only [cobj]; rw [hdV, hdN, hdM]
                  by_cases w3 : w = 3
                  · rw [show A .eq w 3 = true by rw [req hA]; exact decide_eq_true w3]
                    refine AWp.cond_t rfl (AWp.seq (AWp.region (AOL.to hA tabOk (by conv => lhs; cbv) (AOL.nil ?_))))
                    cases hL : L with
                    | nil =>
                      rw [show A .lt 0 l = false by rw [rlt hA]; exact decide_eq_false (by rw [hL] at hl; simp at hl; omega)]
                      refine AWp.cond_f rfl (AWp.skip ⟨rfl, same _ (Sub.of rfl (hsame _ rfl) (.cons rfl (.cons rfl (.cons rfl (.cons rfl (.cons (by rw [hl]; rfl) (.cons rfl .nil)))))))⟩)
                    | cons a0 r0 =>
                      rw [show A .lt 0 l = true by rw [rlt hA]; exact decide_eq_true (by rw [hL] at hl; simp at hl; omega)]
                      obtain ⟨L', x, hLx⟩ : ∃ L' x, L = L' ++ [x] := ⟨L.dropLast, L.getLast (by rw [hL]; simp), (List.dropLast_concat_getLast _).symm⟩
                      have hll : L.length = L'.length + 1 := by rw [hLx]; simp
                      rw [hLx] at hbk
                      obtain ⟨kk, V', _, hk2, hM, hu, hb0⟩ := hbk.back
                      obtain ⟨d', hd', g⟩ : ∃ d' : Cl, d' = ⟨V', d.N.take kk, d.M.dropLast⟩ ∧ PureCalls Try.prog 18 [d.pv] (.tup [d'.pv, .c (I 0)]) := ⟨_, rfl, back_c1 hA d.V d.N d.M kk hM hk2 hds.v hds.n (by omega) V' hu⟩
                      have hb' : Bk c d' L' ∧ d'.V.length ≤ d.V.length ∧ d'.N.length ≤ d.N.length ∧ d'.M.length = d.M.length - 1 := by subst hd'; exact ⟨hb0, undoAll_le hu, by simp; omega, by simp⟩
                      obtain ⟨hb', r1, r2, r3⟩ := hb'
                      simp only [Cl.pv] at g
                      rw [hdV, hdN, hdM] at g
                      generalize u1 : ints d'.V = xV at g
                      generalize u2 : nts d'.N = xN at g
                      generalize u3 : ints d'.M = xM at g
                      refine AWp.cond_t rfl (AWp.seq (AWp.region (AOL.to hA tabOk (by conv => lhs; cbv) ?_)))
                      refine One.call false rfl rfl rfl g rfl _ _ ?_
                      refine AOL.to hA tabOk (by conv => lhs; cbv) (AOL.nil ?_)
                      refine AWp.region (AOL.to hA tabOk (by conv => lhs; cbv) (AOL.nil ?_))
                      have hl2 : (L'.length : Int) = A .sub .i64 l 1 := by rw [rsub hA, wok (by omega) (by omega)]; omega
                      exact ⟨rfl, d', L', hb', ⟨by omega, by omega, by omega, by omega⟩, Sub.of rfl (by simp only [cobj]; rw [u1, u2, u3]) (.cons rfl (.cons rfl (.cons rfl (.cons rfl (.cons (by rw [hl2]; rfl) (.cons rfl .nil))))))⟩
                  · rw [show A .eq w 3 = false by rw [req hA]; exact decide_eq_false w3]
                    refine AWp.cond_f rfl (AWp.seq (AWp.region (AOL.to hA tabOk (by conv => lhs; cbv) (AOL.nil ?_))))
                    cases hL : L with
                    | nil =>
                      rw [show A .lt 0 l = false by rw [rlt hA]; exact decide_eq_false (by rw [hL] at hl; simp at hl; omega)]
                      refine AWp.cond_f rfl (AWp.skip ⟨rfl, same _ (Sub.of rfl (hsame _ rfl) (.cons rfl (.cons rfl (.cons rfl (.cons rfl (.cons (by rw [hl]; rfl) (.cons rfl .nil)))))))⟩)
                    | cons a0 r0 =>
                      rw [show A .lt 0 l = true by rw [rlt hA]; exact decide_eq_true (by rw [hL] at hl; simp at hl; omega)]
                      obtain ⟨L', x, hLx⟩ : ∃ L' x, L = L' ++ [x] := ⟨L.dropLast, L.getLast (by rw [hL]; simp), (List.dropLast_concat_getLast _).symm⟩
                      have hll : L.length = L'.length + 1 := by rw [hLx]; simp
                      rw [hLx] at hbk
                      have hdne : d.M ≠ [] := fun e => by rw [e] at z3; simp only [List.length_nil] at z3; omega
                      obtain ⟨d', hd', g⟩ : ∃ d' : Cl, d' = ⟨d.V, d.N, d.M.dropLast⟩ ∧ PureCalls Try.prog 20 [d.pv] (.tup [d'.pv, .c (I 0)]) := ⟨_, rfl, keep_cl hA d hds hdne⟩
                      have hb' : Bk c d' L' ∧ d'.V.length ≤ d.V.length ∧ d'.N.length ≤ d.N.length ∧ d'.M.length = d.M.length - 1 := by subst hd'; exact ⟨hbk.keep, Nat.le_refl _, Nat.le_refl _, by simp⟩
                      obtain ⟨hb', r1, r2, r3⟩ := hb'
                      simp only [Cl.pv] at g
                      rw [hdV, hdN, hdM] at g
                      generalize u1 : ints d'.V = xV at g
                      generalize u2 : nts d'.N = xN at g
                      generalize u3 : ints d'.M = xM at g
                      refine AWp.cond_t rfl (AWp.seq (AWp.region (AOL.to hA tabOk (by conv => lhs; cbv) ?_)))
                      refine One.call false rfl rfl rfl g rfl _ _ ?_
                      refine AOL.to hA tabOk (by conv => lhs; cbv) (AOL.nil ?_)
                      refine AWp.region (AOL.to hA tabOk (by conv => lhs; cbv) (AOL.nil ?_))
                      have hl2 : (L'.length : Int) = A .sub .i64 l 1 := by rw [rsub hA, wok (by omega) (by omega)]; omega
                      exact ⟨rfl, d', L', hb', ⟨by omega, by omega, by omega, by omega⟩, Sub.of rfl (by simp only [cobj]; rw [u1, u2, u3]) (.cons rfl (.cons rfl (.cons rfl (.cons rfl (.cons (by rw [hl2]; rfl) (.cons rfl .nil))))))⟩
          · rintro e s' ⟨rfl, d', L', hb', ⟨y1, y2, y3, y4⟩, hsub'⟩
            refine AWp.sub hsub' ?_
            have hd's : d'.small := ⟨by omega, by omega, by omega⟩
            have hrt := refRight hA d' hd's
            rw [hb'.right hright] at hrt
            have hml : (ints d'.M).length = d'.M.length := by simp
            simp only [Cl.pv, cobj] at hrt ⊢
            generalize hvV : ints d'.V = vV at hrt ⊢
            generalize hvN : nts d'.N = vN at hrt ⊢
            generalize hvM : ints d'.M = vM at hrt hml ⊢
            generalize hl' : (L'.length : Int) = l'
            refine AWp.seq (AWp.region (AOL.to hA tabOk (by conv => lhs; cbv) ?_))
            refine One.call false rfl rfl rfl hrt rfl _ _ ?_
            refine AOL.upto hA tabOk 2 (by conv => lhs; cbv) ?_
            rw [show A .no true = false by rw [rno hA]; rfl]
            refine AOL.to hA tabOk (by conv => lhs; cbv) (AOL.nil ?_)
            rw [show A .no (A .eq (A .len vM) (A .add .i64 (A .add .i64 (A .len cM) 1) l')) = false by
              rw [rno hA, req hA, rlen hA, rlen hA, radd hA .i64 (cM.length : Int), wok (z := (cM.length : Int) + 1) (by omega) (by omega), radd hA, wok (by omega) (by omega), decide_eq_true (by omega)]; rfl]
            refine AWp.cond_f rfl (AWp.skip ?_)
            refine AWp.region (AOL.to hA tabOk (by conv => lhs; cbv) (AOL.nil ?_))
            rw [show A .add .i64 y 1 = ((k + 1 : Nat) : Int) by rw [radd hA, wok (by omega) (by omega)]; omega]
            refine ⟨[(1, .ic (.sl 3 false X)), (2, .ptr 0 0), (5, .ic (Bo true)), (6, .ptr 1 0), (7, .ic (I l')), (8, .ic (I ((k + 1 : Nat) : Int)))], Trim.of rfl (.same (.turn rfl .nil)) rfl (.cons rfl (.cons rfl (.cons rfl (.cons rfl (.cons rfl (.cons rfl .nil)))))), ?_⟩
            exact ⟨m - 1, by omega, k + 1, d', L', by omega, hb', ⟨y1, y2, y3, y4⟩, Sub.of rfl (by simp only [cobj]; rw [hvV, hvN, hvM]; rfl) (.cons rfl (.cons rfl (.cons rfl (.cons rfl (.cons (by rw [hl']; rfl) (.cons rfl .nil))))))⟩
        · rw [show A .lt y (A .len X) = false by rw [rlt hA, rlen hA]; exact decide_eq_false (by omega)]
          refine AWp.cond_f rfl (AWp.exit (Thn.exit ?_))
          have hlb : l ≤ 1000 := by omega
          refine ⟨[(2, .ptr 0 0), (5, .ic (Bo true)), (6, .ptr 1 0), (7, .ic (I l))], Trim.of rfl (.same (.same .nil)) rfl (.cons rfl (.cons rfl (.cons rfl (.cons rfl .nil)))), Thn.exit (Blk.here ?_)⟩
          refine AWp.seq (AWp.seq (AWp.region (AOL.to hA tabOk (by conv => lhs; cbv) (AOL.nil ?_))))
          refine AWp.block ?_
          refine AWp.loop (fun m s => ∃ (j : Nat) (d : Cl) (L : List Int), m + j = l ∧ L.length = m ∧ Bk c d L ∧ d.V.length ≤ 700 ∧ d.N.length ≤ 700 ∧ d.M.length ≤ 700 ∧ Sub ⟨125, [(2, .ptr 0 0), (5, .ic (Bo true)), (6, .ptr 1 0), (7, .ic (I l)), (10, .ic (I (j : Int)))],
            [.var true 25 [.ic (.sl 1 false cV), .ic (.sl 2 false cN), .ic (.sl 1 false cM)], cobj d]⟩ s) L.length
            ⟨0, d, L, by omega, rfl, hbk, by omega, by omega, by omega, Sub.of rfl (by simp only [cobj]; rw [hdV, hdN, hdM]) (.cons rfl (.cons rfl (.cons rfl (.cons rfl (.cons rfl .nil)))))⟩ ?_
          clear hbk z1 z2 z3 z4 hds hdV hdN hdM hl hsub
          rintro m s ⟨j, d, L, hmj, hLm, hbk, b1, b2, b3, hsub⟩
          refine AWp.sub hsub ?_
          simp only [cobj]
          generalize hdV : ints d.V = dV
          generalize hdN : nts d.N = dN
          generalize hdM : ints d.M = dM
          generalize hj : (j : Int) = y
          refine AWp.seq (AWp.seq (AWp.region (AOL.to hA tabOk (by conv => lhs; cbv) (AOL.nil ?_))))
          cases m with
          | zero =>
            rw [show A .lt y l = false by rw [rlt hA]; exact decide_eq_false (by omega)]
            refine AWp.cond_f rfl (AWp.exit (Thn.exit (Thn.exit (Blk.here ?_))))
            obtain rfl := List.length_eq_zero_iff.1 hLm
            obtain ⟨e1, e2⟩ := hbk.last
            have gb := back_c1 hA d.V d.N d.M c.N.length e1 hbk.n (by omega) (by omega) (by omega) c.V hbk.undo
            have e3 : d.N.take c.N.length = c.N := congrArg Cl.N e2
            have e4 : d.M.dropLast = c.M := congrArg Cl.M e2
            rw [e3, e4, hcV, hcN, hcM, hdV, hdN, hdM] at gb
            refine AWp.seq (AWp.region (AOL.to hA tabOk (by conv => lhs; cbv) ?_))
            refine One.call false rfl rfl rfl gb rfl _ _ ?_
            refine AOL.to hA tabOk (by conv => lhs; cbv) (AOL.nil ?_)
            refine AWp.seq (AWp.region (AOL.upto hA tabOk 6 (by conv => lhs; cbv) ?_))
            rw [show A .eq 0 0 = true by rw [req hA]; rfl]
            refine AOL.to hA tabOk (by conv => lhs; cbv) ?_
            refine One.call false rfl rfl rfl hs1 rfl _ _ ?_
            refine AOL.to hA tabOk (by conv => lhs; cbv) (AOL.nil ?_)
            exact AWp.ret ⟨.inr rfl, _, RetOk.one rfl (Res1.tmp _), rfl⟩
          | succ m =>
            rw [show A .lt y l = true by rw [rlt hA]; exact decide_eq_true (by omega)]
            refine AWp.cond_t rfl (AWp.skip ?_)
            have hne : L ≠ [] := fun e => by rw [e] at hLm; simp at hLm
            have hLx := List.dropLast_concat_getLast hne
            generalize L.getLast hne = x at hLx
            have hLl : L.dropLast.length = m := by simp; omega
            generalize L.dropLast = L' at hLx hLl
            subst hLx
            have hdne : d.M ≠ [] := fun e => by have := hbk.m; rw [e] at this; simp at this
            have gk := keep_cl hA d ⟨by omega, by omega, by omega⟩ hdne
            have hbk' := hbk.keep
            simp only [Cl.pv] at gk
            rw [hdV, hdN, hdM] at gk
            generalize hdM' : ints d.M.dropLast = dM' at gk
            refine AWp.seq (AWp.block (AWp.region (AOL.to hA tabOk (by conv => lhs; cbv) ?_)))
            refine One.call false rfl rfl rfl gk rfl _ _ ?_
            refine AOL.to hA tabOk (by conv => lhs; cbv) (AOL.nil ?_)
            refine AWp.region (AOL.to hA tabOk (by conv => lhs; cbv) (AOL.nil ?_))
            rw [show A .add .i64 y 1 = ((j + 1 : Nat) : Int) by rw [radd hA, wok (by omega) (by omega)]; omega]
            exact ⟨m, by omega, j + 1, ⟨d.V, d.N, d.M.dropLast⟩, L', by omega, hLl, hbk', b1, b2, by simp; omega, Sub.of rfl (by simp only [cobj]; rw [hdV, hdN, hdM']) (.cons rfl (.cons rfl (.cons rfl (.cons rfl (.cons rfl .nil)))))⟩
  · rw [decide_eq_false hf] at hfw
    simp only [Cl.pv] at hfw ⊢
    generalize ints c.V = Vr at hfw ⊢
    generalize nts c.N = Nr at hfw ⊢
    generalize ints c.M = Mr at hfw ⊢
    generalize actRows acts = X
    refine AWp.seq (AWp.region (AOL.to hA tabOk (by conv => lhs; cbv) (AOL.nil ?_)))
    refine AWp.seq (AWp.region (AOL.to hA tabOk (by conv => lhs; cbv) ?_))
    refine One.call false rfl rfl rfl hsh rfl _ _ ?_
    refine AOL.to hA tabOk (by conv => lhs; cbv) (AOL.nil ?_)
    refine AWp.seq (AWp.seq (AWp.region (AOL.to hA tabOk (by conv => lhs; cbv) ?_)))
    refine One.call false rfl rfl rfl hfw rfl _ _ ?_
    refine AOL.upto hA tabOk 2 (by conv => lhs; cbv) ?_
    rw [show A .no false = true by rw [rno hA]; rfl]
    refine AOL.to hA tabOk (by conv => lhs; cbv) (AOL.nil ?_)
    refine AWp.cond_t rfl ?_
    refine AWp.seq (AWp.region (AOL.to hA tabOk (by conv => lhs; cbv) (AOL.nil ?_)))
    exact AWp.ret ⟨.inr rfl, _, RetOk.one rfl (Res1.tmp _), rfl⟩
end Go.Proofs.Ytinehodamekjgaa.Aw
