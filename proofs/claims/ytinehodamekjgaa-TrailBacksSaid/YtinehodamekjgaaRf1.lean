/- Contracts of the document's answer, part 1: rows that are the same, cells that are the same. -/
import Derived.Test.YtinehodamekjgaaTr1
set_option linter.unusedVariables false
namespace Go.Proofs.Ytinehodamekjgaa.Aw
open Go Go.RowKit
set_option maxRecDepth 10000
theorem take_succ_eq {α : Type} {a b : List α} {k : Nat} {x y : α} (h : a.take k = b.take k) (ha : a[k]? = some x) (hb : b[k]? = some y) (e : x = y) : a.take (k + 1) = b.take (k + 1) := by
  rw [List.take_add_one, List.take_add_one, h, ha, hb, e]
theorem ints_get? (V : List Int) (i : Nat) (z : Int) (h : V[i]? = some z) : (ints V)[i]? = some [I z] := by simp [ints, h]
theorem nts_get? (V : List (Int × Int)) (i : Nat) (a b : Int) (h : V[i]? = some (a, b)) : (nts V)[i]? = some [I a, I b] := by simp [nts, h]
variable {A : Ar} (hA : A = real)
include hA
theorem refInts (a b : List Int) (ha : a.length ≤ 1000000) (hb : b.length ≤ 1000000) : PureCalls Try.prog 22 [.c (.sl 1 false (ints a)), .c (.sl 1 false (ints b))] (.c (Bo (decide (a = b)))) := by
  refine PureCalls.of Try.func22 rfl (by kernel_rfl) rfl ?_
  have hal : (ints a).length = a.length := by simp
  have hbl : (ints b).length = b.length := by simp
  have hag := ints_get? a
  have hbg := ints_get? b
  generalize ints a = X at hal hag ⊢
  generalize ints b = Y at hbl hbg ⊢
  refine AWp.seq (AWp.region (AOL.to hA tabOk (by conv => lhs; cbv) (AOL.nil ?_)))
  refine AWp.seq (AWp.seq (AWp.region (AOL.to hA tabOk (by conv => lhs; cbv) (AOL.nil ?_))))
  by_cases hl : a.length = b.length
  · rw [show A .no (A .eq (A .len X) (A .len Y)) = false by rw [rno hA, req hA, rlen hA, rlen hA, hal, hbl, hl]; simp]
    refine AWp.cond_f rfl (AWp.skip ?_)
    refine AWp.seq (AWp.seq (AWp.region (AOL.to hA tabOk (by conv => lhs; cbv) (AOL.nil ?_))))
    refine AWp.block ?_
    refine AWp.loop (fun m s => ∃ k : Nat, m + k = a.length ∧ a.take k = b.take k ∧ Sub ⟨26, [(0, .ic (.sl 1 false X)), (1, .ic (.sl 1 false Y)), (5, .ic (I (k : Int)))], []⟩ s) a.length ⟨0, by omega, by simp, Sub.of rfl rfl (.cons rfl (.cons rfl (.cons rfl .nil)))⟩ ?_
    rintro m s ⟨k, hm, htk, hsub⟩
    refine AWp.sub hsub ?_
    generalize hz : (k : Int) = z
    refine AWp.seq (AWp.seq (AWp.region (AOL.to hA tabOk (by conv => lhs; cbv) (AOL.nil ?_))))
    rcases Nat.lt_or_ge k a.length with hk | hk
    · rw [show A .lt z (A .len X) = true by rw [rlt hA, rlen hA, hal]; exact decide_eq_true (by omega)]
      refine AWp.cond_t rfl (AWp.skip ?_)
      have h1 : a[k]? = some a[k] := List.getElem?_eq_getElem hk
      have h2 : b[k]? = some (b[k]'(by omega)) := List.getElem?_eq_getElem (by omega)
      generalize a[k] = u at h1
      generalize b[k]'(by omega) = v at h2
      have hzk : z.toNat = k := by omega
      refine AWp.seq (AWp.block (AWp.seq (AWp.drawQ 9 rfl (by kernel_rfl) ?_)))
      refine QS.to hA tabOk (by conv => lhs; cbv) ?_
      refine QS.one rfl (One.elem tabOk rfl rfl rfl rfl (by omega) (by rw [hzk]; exact hag k u h1)) ?_
      refine QS.to hA tabOk (by conv => lhs; cbv) ?_
      refine QS.one rfl (One.elem tabOk rfl rfl rfl rfl (by omega) (by rw [hzk]; exact hbg k v h2)) ?_
      refine QS.to hA tabOk (by conv => lhs; cbv) ?_
      refine AOL.to hA tabOk (by conv => lhs; cbv) (AOL.nil ?_)
      by_cases huv : u = v
      · rw [show A .no (A .eq u v) = false by rw [rno hA, req hA, huv]; simp]
        refine AWp.cond_f rfl (AWp.skip ?_)
        refine AWp.region (AOL.to hA tabOk (by conv => lhs; cbv) (AOL.nil ?_))
        rw [show A .add .i64 z 1 = ((k + 1 : Nat) : Int) by rw [radd hA, wok (by omega) (by omega)]; omega]
        exact ⟨m - 1, by omega, k + 1, by omega, take_succ_eq htk h1 h2 huv, Sub.of rfl rfl (.cons rfl (.cons rfl (.cons rfl .nil)))⟩
      · rw [show A .no (A .eq u v) = true by rw [rno hA, req hA]; simp [huv]]
        refine AWp.cond_t rfl ?_
        refine AWp.seq (AWp.region (AOL.to hA tabOk (by conv => lhs; cbv) (AOL.nil ?_)))
        have hne : decide (a = b) = false := decide_eq_false fun e => huv (by rw [e, h2] at h1; simpa using h1.symm)
        rw [hne]
        exact AWp.ret ⟨.inr rfl, _, RetOk.one rfl (Res1.tmp _), rfl⟩
    · rw [show A .lt z (A .len X) = false by rw [rlt hA, rlen hA, hal]; exact decide_eq_false (by omega)]
      refine AWp.cond_f rfl (AWp.exit (Thn.exit (Thn.exit (Blk.here ?_))))
      have heq : decide (a = b) = true := decide_eq_true (by rwa [List.take_of_length_le hk, List.take_of_length_le (by omega)] at htk)
      rw [heq]
      refine AWp.seq (AWp.region (AOL.to hA tabOk (by conv => lhs; cbv) (AOL.nil ?_)))
      exact AWp.ret ⟨.inr rfl, _, RetOk.one rfl (Res1.tmp _), rfl⟩
  · rw [show A .no (A .eq (A .len X) (A .len Y)) = true by rw [rno hA, req hA, rlen hA, rlen hA, hal, hbl]; simp; omega]
    refine AWp.cond_t rfl ?_
    refine AWp.seq (AWp.region (AOL.to hA tabOk (by conv => lhs; cbv) (AOL.nil ?_)))
    have hne : decide (a = b) = false := decide_eq_false fun e => hl (by rw [e])
    rw [hne]
    exact AWp.ret ⟨.inr rfl, _, RetOk.one rfl (Res1.tmp _), rfl⟩
end Go.Proofs.Ytinehodamekjgaa.Aw
