/- Contracts of package trail, part 3: undo, Backward. -/
import Derived.Test.YtinehodamekjgaaTr2
set_option linter.unusedVariables false
namespace Go.Proofs.Ytinehodamekjgaa.Aw
open Go Go.RowKit
set_option maxRecDepth 10000
variable {A : Ar} (hA : A = real)
include hA
theorem undo_pop (o0 o1 o2 o3 o6 o7 o8 : AObj) (V : List (List IC)) (ver : Nat) (a b : Int) (ha : a = -1) (hV : 0 < V.length) (hV' : V.length ≤ 1000000) :
    ACalls Try.prog 47 [.agg [.ic (I a), .ic (I b)], .ptr 5 0] [o0, o1, o2, o3, .row true ver 3 1 V, .var true 63 [.own 4 ver], o6, o7, o8] (fun x st' => x = .ic (Bo true) ∧ ∃ j, st' = [o0, o1, o2, o3, .row true (ver + 1) 3 1 V.dropLast, .var true 63 [.own 4 (ver + 1)], o6, o7, o8, j]) := by
  refine ACalls.of Try.func47 rfl (by kernel_rfl) rfl ?_
  refine AWp.seq (AWp.region (AOL.to hA tabOk (by conv => lhs; cbv) (AOL.nil ?_)))
  refine AWp.seq (AWp.block (AWp.seq (AWp.region (AOL.upto hA tabOk 4 (by conv => lhs; cbv) ?_))))
  rw [show A .lt a 0 = true by rw [rlt hA]; exact decide_eq_true (by omega)]
  refine AOL.upto hA tabOk 3 (by conv => lhs; cbv) ?_
  refine One.lenOwn tabOk rfl rfl rfl rfl (rlen hA V).symm _ _ ?_
  refine AOL.upto hA tabOk 3 (by conv => lhs; cbv) ?_
  rw [show A .lt 0 (A .len V) = true by rw [rlt hA, rlen hA]; exact decide_eq_true (by omega)]
  refine AOL.to hA tabOk (by conv => lhs; cbv) (AOL.nil ?_)
  rw [show A .eq a (-1) = true by rw [req hA]; exact decide_eq_true ha]
  refine AWp.cond_t rfl ?_
  refine AWp.drawF 9 [0] rfl (by kernel_rfl) (by kernel_rfl) ?_
  refine QS.to hA tabOk (by conv => lhs; cbv) ?_
  refine QS.one rfl (One.lenOwn tabOk rfl rfl rfl rfl (rlen hA V).symm) ?_
  refine QS.to hA tabOk (by conv => lhs; cbv) ?_
  have hs : A .sub .i64 (A .len V) 1 = ((V.length - 1 : Nat) : Int) := by rw [rsub hA, rlen hA, wok (by omega) (by omega)]; omega
  refine One.takeOwn tabOk rfl rfl rfl rfl rfl (by rw [hs]; omega) (by rw [hs]; omega) _ _ ?_
  rw [hs]
  rw [show V.dropLast = V.take (((V.length - 1 : Nat) : Int)).toNat by rw [List.dropLast_eq_take, Int.toNat_natCast]]
  generalize V.take _ = R
  generalize ver + 1 = ver'
  refine AOL.to hA tabOk (by conv => lhs; cbv) (AOL.nil ?_)
  refine AWp.seq (AWp.region (AOL.to hA tabOk (by conv => lhs; cbv) (AOL.nil ?_)))
  exact AWp.ret ⟨.inr rfl, _, RetOk.one rfl (Res1.tmp _), rfl, _, rfl⟩
theorem undo_set (o0 o1 o2 o3 o6 o7 o8 : AObj) (V : List (List IC)) (ver : Nat) (a b u : Int) (i : Nat) (ha : a = (i : Int)) (hu : V[i]? = some [I u]) :
    ACalls Try.prog 47 [.agg [.ic (I a), .ic (I b)], .ptr 5 0] [o0, o1, o2, o3, .row true ver 3 1 V, .var true 63 [.own 4 ver], o6, o7, o8] (fun x st' => x = .ic (Bo true) ∧ ∃ j, st' = [o0, o1, o2, o3, .row true ver 3 1 (V.set i [I b]), .var true 63 [.own 4 ver], o6, o7, o8, j]) := by
  have hi : i < V.length := (List.getElem?_eq_some_iff.1 hu).1
  refine ACalls.of Try.func47 rfl (by kernel_rfl) rfl ?_
  refine AWp.seq (AWp.region (AOL.to hA tabOk (by conv => lhs; cbv) (AOL.nil ?_)))
  refine AWp.seq (AWp.block (AWp.seq (AWp.region (AOL.upto hA tabOk 4 (by conv => lhs; cbv) ?_))))
  rw [show A .lt a 0 = false by rw [rlt hA]; exact decide_eq_false (by omega)]
  refine AOL.to hA tabOk (by conv => lhs; cbv) (AOL.nil ?_)
  refine AWp.cond_f rfl ?_
  refine AWp.seq (AWp.drawQ 13 rfl (by kernel_rfl) ?_)
  refine QS.upto hA tabOk 4 (by conv => lhs; cbv) ?_
  rw [show A .le 0 a = true by rw [rle hA]; exact decide_eq_true (by omega)]
  refine QS.to hA tabOk (by conv => lhs; cbv) ?_
  refine QS.one rfl (One.lenOwn tabOk rfl rfl rfl rfl (rlen hA V).symm) ?_
  refine QS.to hA tabOk (by conv => lhs; cbv) ?_
  rw [show A .lt a (A .len V) = true by rw [rlt hA, rlen hA]; exact decide_eq_true (by omega)]
  refine AOL.to hA tabOk (by conv => lhs; cbv) (AOL.nil ?_)
  refine AWp.cond_t rfl ?_
  refine AWp.drawQ 8 rfl (by kernel_rfl) ?_
  refine QS.to hA tabOk (by conv => lhs; cbv) ?_
  refine QS.one rfl (One.elemOwn tabOk rfl rfl rfl rfl rfl (by omega) (by omega)) ?_
  have hzi : a.toNat = i := by omega
  rw [hzi]
  refine QS.to hA tabOk (by conv => lhs; cbv) ?_
  refine One.storeRat tabOk rfl rfl rfl rfl hu rfl rfl rfl (Nat.le_refl 1) _ _ ?_
  generalize hV' : V.set i _ = V'
  replace hV' : V.set i [I b] = V' := hV'
  rw [hV']
  refine AOL.to hA tabOk (by conv => lhs; cbv) (AOL.nil ?_)
  refine AWp.seq (AWp.region (AOL.to hA tabOk (by conv => lhs; cbv) (AOL.nil ?_)))
  exact AWp.ret ⟨.inr rfl, _, RetOk.one rfl (Res1.tmp _), rfl, _, rfl⟩

theorem undo_no (o0 o1 o2 o3 o6 o7 o8 : AObj) (V : List (List IC)) (ver : Nat) (a b : Int) (h1 : ¬ (a = -1 ∧ 0 < V.length)) (h2 : ¬ (0 ≤ a ∧ a < V.length)) (hV' : V.length ≤ 1000000) :
    ACalls Try.prog 47 [.agg [.ic (I a), .ic (I b)], .ptr 5 0] [o0, o1, o2, o3, .row true ver 3 1 V, .var true 63 [.own 4 ver], o6, o7, o8] (fun x st' => x = .ic (Bo false) ∧ ∃ j, st' = [o0, o1, o2, o3, .row true ver 3 1 V, .var true 63 [.own 4 ver], o6, o7, o8, j]) := by
  refine ACalls.of Try.func47 rfl (by kernel_rfl) rfl ?_
  refine AWp.seq (AWp.region (AOL.to hA tabOk (by conv => lhs; cbv) (AOL.nil ?_)))
  refine AWp.seq (AWp.block (AWp.seq (AWp.region (AOL.upto hA tabOk 4 (by conv => lhs; cbv) ?_))))
  rcases Int.lt_or_le a 0 with ha | ha
  · rw [show A .lt a 0 = true by rw [rlt hA]; exact decide_eq_true ha]
    refine AOL.upto hA tabOk 3 (by conv => lhs; cbv) ?_
    refine One.lenOwn tabOk rfl rfl rfl rfl (rlen hA V).symm _ _ ?_
    refine AOL.upto hA tabOk 3 (by conv => lhs; cbv) ?_
    rcases Nat.eq_zero_or_pos V.length with hz | hz
    · rw [show A .lt 0 (A .len V) = false by rw [rlt hA, rlen hA]; exact decide_eq_false (by omega)]
      refine AOL.to hA tabOk (by conv => lhs; cbv) (AOL.nil ?_)
      refine AWp.cond_f rfl ?_
      refine AWp.seq (AWp.drawQ 13 rfl (by kernel_rfl) ?_)
      refine QS.upto hA tabOk 4 (by conv => lhs; cbv) ?_
      rw [show A .le 0 a = false by rw [rle hA]; exact decide_eq_false (by omega)]
      refine QS.to hA tabOk (by conv => lhs; cbv) ?_
      refine AOL.to hA tabOk (by conv => lhs; cbv) (AOL.nil ?_)
      refine AWp.cond_f rfl ?_
      refine AWp.seq (AWp.region (AOL.to hA tabOk (by conv => lhs; cbv) (AOL.nil ?_)))
      exact AWp.ret ⟨.inr rfl, _, RetOk.one rfl (Res1.tmp _), rfl, _, rfl⟩
    · rw [show A .lt 0 (A .len V) = true by rw [rlt hA, rlen hA]; exact decide_eq_true (by omega)]
      refine AOL.to hA tabOk (by conv => lhs; cbv) (AOL.nil ?_)
      rw [show A .eq a (-1) = false by rw [req hA]; exact decide_eq_false (by omega)]
      refine AWp.cond_f rfl ?_
      refine AWp.seq (AWp.drawQ 13 rfl (by kernel_rfl) ?_)
      refine QS.upto hA tabOk 4 (by conv => lhs; cbv) ?_
      rw [show A .le 0 a = false by rw [rle hA]; exact decide_eq_false (by omega)]
      refine QS.to hA tabOk (by conv => lhs; cbv) ?_
      refine AOL.to hA tabOk (by conv => lhs; cbv) (AOL.nil ?_)
      refine AWp.cond_f rfl ?_
      refine AWp.seq (AWp.region (AOL.to hA tabOk (by conv => lhs; cbv) (AOL.nil ?_)))
      exact AWp.ret ⟨.inr rfl, _, RetOk.one rfl (Res1.tmp _), rfl, _, rfl⟩
  · rw [show A .lt a 0 = false by rw [rlt hA]; exact decide_eq_false (by omega)]
    refine AOL.to hA tabOk (by conv => lhs; cbv) (AOL.nil ?_)
    refine AWp.cond_f rfl ?_
    refine AWp.seq (AWp.drawQ 13 rfl (by kernel_rfl) ?_)
    refine QS.upto hA tabOk 4 (by conv => lhs; cbv) ?_
    rw [show A .le 0 a = true by rw [rle hA]; exact decide_eq_true (by omega)]
    refine QS.to hA tabOk (by conv => lhs; cbv) ?_
    refine QS.one rfl (One.lenOwn tabOk rfl rfl rfl rfl (rlen hA V).symm) ?_
    refine QS.to hA tabOk (by conv => lhs; cbv) ?_
    rw [show A .lt a (A .len V) = false by rw [rlt hA, rlen hA]; exact decide_eq_false (by omega)]
    refine AOL.to hA tabOk (by conv => lhs; cbv) (AOL.nil ?_)
    refine AWp.cond_f rfl ?_
    refine AWp.seq (AWp.region (AOL.to hA tabOk (by conv => lhs; cbv) (AOL.nil ?_)))
    exact AWp.ret ⟨.inr rfl, _, RetOk.one rfl (Res1.tmp _), rfl, _, rfl⟩
theorem backward_6 (o0 o1 o2 o3 o4 o5 : AObj) (N : List (List IC)) : ACalls Try.prog 48 [.ic (.sl 2 false N)] [o0, o1, o2, o3, o4, o5]
    (fun x st' => x = .fn (.func 51) [] [.ptr 6 0] ∧ st' = [o0, o1, o2, o3, o4, o5, .var true 23 [.ic (.sl 2 false N)]]) := by
  refine ACalls.of Try.func48 rfl (by kernel_rfl) rfl ?_
  refine AWp.seq (AWp.region (AOL.to hA tabOk (by conv => lhs; cbv) (AOL.nil ?_)))
  refine AWp.seq (AWp.region (AOL.to hA tabOk (by conv => lhs; cbv) (AOL.nil ?_)))
  exact AWp.ret ⟨.inr rfl, _, RetOk.one rfl (Res1.tmp _), rfl, rfl⟩
end Go.Proofs.Ytinehodamekjgaa.Aw
