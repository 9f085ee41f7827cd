/- Contracts of package trail, part 4: what is undone. -/
import Derived.Test.YtinehodamekjgaaTr3
set_option linter.unusedVariables false
namespace Go.Proofs.Ytinehodamekjgaa.Aw
open Go Go.RowKit
set_option maxRecDepth 10000
variable {A : Ar} (hA : A = real)
include hA
theorem backIter (N : List (Int × Int)) (J : Nat → List AObj → Prop) (Fin : List AObj → Prop)
    (hJ : ∀ k st, J k st → ∃ p0 p1 p2 p3 p4 p5 p7, st = [p0, p1, p2, p3, p4, p5, .var true 23 [.ic (.sl 2 false (nts N))], p7])
    (hy : ∀ k st n, J (k + 1) st → N[k]? = some n → AYield Try.prog 7 [.ic (I k), .agg [.ic (I n.1), .ic (I n.2)]] st (fun x st' => x = .ic (Bo true) ∧ J k st' ∨ x = .ic (Bo false) ∧ Fin st'))
    (hlen : N.length ≤ 1000000) (st : List AObj) (h0 : J N.length st) : ACalls Try.prog 51 [.yl 7, .ptr 6 0] st (fun x st' => x = .tup [] ∧ (J 0 st' ∨ Fin st')) := by
  obtain ⟨p0, p1, p2, p3, p4, p5, p7, rfl⟩ := hJ _ _ h0
  refine ACalls.of Try.func51 rfl (by kernel_rfl) rfl ?_
  generalize hR : nts N = R at h0 hJ ⊢
  have hRl : R.length = N.length := by rw [← hR]; simp
  refine AWp.seq (AWp.region (AOL.to hA tabOk (by conv => lhs; cbv) (AOL.nil ?_)))
  have hz : A .sub .i64 (A .len R) 1 = (N.length : Int) - 1 := by rw [rsub hA, rlen hA, hRl, wok (by omega) (by omega)]
  rw [hz]
  refine AWp.block ?_
  refine AWp.loop (fun k s => k ≤ N.length ∧ ∃ st, J k st ∧ Sub ⟨19, [(0, .yl 7), (1, .ptr 6 0), (3, .ic (I ((k : Int) - 1)))], st⟩ s) N.length ⟨Nat.le_refl _, _, h0, Sub.of rfl rfl (.cons rfl (.cons rfl (.cons rfl .nil)))⟩ ?_
  rintro k s ⟨hk, st, hj, hsub⟩
  refine AWp.sub hsub ?_
  obtain ⟨p0, p1, p2, p3, p4, p5, p7, rfl⟩ := hJ _ _ hj
  generalize hzk : (k : Int) - 1 = z
  refine AWp.seq (AWp.seq (AWp.region (AOL.to hA tabOk (by conv => lhs; cbv) (AOL.nil ?_))))
  cases k with
  | zero =>
    rw [show A .le 0 z = false by rw [rle hA]; exact decide_eq_false (by omega)]
    refine AWp.cond_f rfl (AWp.exit (Thn.exit (Thn.exit (Blk.here ?_))))
    exact ⟨.inl rfl, _, RetOk.none rfl, rfl, .inl hj⟩
  | succ k =>
    rw [show A .le 0 z = true by rw [rle hA]; exact decide_eq_true (by omega)]
    refine AWp.cond_t rfl (AWp.skip ?_)
    have hkz : (k : Int) = z := by omega
    have hn : N[k]? = some N[k] := List.getElem?_eq_getElem (by omega)
    refine AWp.seq (AWp.block (AWp.seq (AWp.region (AOL.to hA tabOk (by conv => lhs; cbv) ?_))))
    refine One.elem tabOk rfl rfl rfl rfl (by omega) (show R[z.toNat]? = some [I N[k].1, I N[k].2] by rw [← hR, ← hkz]; simp [hn]) _ _ ?_
    have hyk := hy k _ _ hj hn
    rw [hkz] at hyk
    generalize N[k].1 = n1 at hyk ⊢
    generalize N[k].2 = n2 at hyk ⊢
    refine AOL.to hA tabOk (by conv => lhs; cbv) ?_
    refine AOL.ycall rfl rfl hyk ?_
    rintro y st' (⟨rfl, hj'⟩ | ⟨rfl, hf⟩)
    · obtain ⟨p0, p1, p2, p3, p4, p5, p7, rfl⟩ := hJ _ _ hj'
      refine AOL.to hA tabOk (by conv => lhs; cbv) (AOL.nil ?_)
      rw [show A .no true = false by rw [rno hA]; rfl]
      refine AWp.cond_f rfl (AWp.skip ?_)
      refine AWp.region (AOL.to hA tabOk (by conv => lhs; cbv) (AOL.nil ?_))
      have hz2 : A .sub .i64 z 1 = (k : Int) - 1 := by rw [rsub hA, wok (by omega) (by omega)]; omega
      rw [hz2]
      exact ⟨k, by omega, by omega, _, hj', Sub.of rfl rfl (.cons rfl (.cons rfl (.cons rfl .nil)))⟩
    · refine AOL.to hA tabOk (by conv => lhs; cbv) (AOL.nil ?_)
      rw [show A .no false = true by rw [rno hA]; rfl]
      refine AWp.cond_t rfl (AWp.ret ?_)
      exact ⟨.inr rfl, _, RetOk.none rfl, rfl, .inr hf⟩
end Go.Proofs.Ytinehodamekjgaa.Aw
