/- Contracts of package trail, part 1. -/
import Derived.Test.YtinehodamekjgaaTab
set_option linter.unusedVariables false
namespace Go.Proofs.Ytinehodamekjgaa.Aw
open Go Go.RowKit
set_option maxRecDepth 10000
abbrev ints (l : List Int) : List (List IC) := l.map fun z => [I z]
abbrev nts (l : List (Int × Int)) : List (List IC) := l.map fun n => [I n.1, I n.2]
abbrev cellsPV (V N M : List (List IC)) : PV := .agg [.sl 1 false V, .sl 2 false N, .sl 1 false M]
def undo1 (n : Int × Int) (v : List Int) : Option (List Int) := if n.1 = -1 ∧ 0 < v.length then some v.dropLast else if 0 ≤ n.1 ∧ n.1 < v.length then some (v.set n.1.toNat n.2) else none
def undoAll : List (Int × Int) → List Int → Option (List Int)
  | [], v => some v
  | n :: r, v => (undoAll r v).bind (undo1 n)
theorem undo1_le {n : Int × Int} {v v' : List Int} (h : undo1 n v = some v') : v'.length ≤ v.length := by
  unfold undo1 at h
  split at h
  · simp only [Option.some.injEq] at h; subst h; simp
  · split at h
    · simp only [Option.some.injEq] at h; subst h; simp
    · simp at h
theorem ints_get {V : List Int} {i : Nat} (h : i < V.length) : (ints V)[i]? = some [I V[i]] := by simp [ints, h]
def undoneR : Option (List Int) → PV
  | some v => .tup [.c (.sl 1 false (ints v)), .c (Bo true)]
  | none => .tup [.c (.sl 0 true []), .c (Bo false)]
theorem undoAll_none {D : List (Int × Int)} {V : List Int} (k : Nat) (h : undoAll (D.drop k) V = none) : undoAll D V = none := by
  have happ : ∀ (l1 l2 : List (Int × Int)) (v : List Int), undoAll (l1 ++ l2) v = (undoAll l2 v).bind (undoAll l1) := by
    intro l1
    induction l1 with
    | nil => intro l2 v; simp [undoAll]
    | cons n r ih => intro l2 v; simp only [List.cons_append, undoAll, ih]; cases undoAll l2 v <;> simp
  have := happ (D.take k) (D.drop k) V
  rw [List.take_append_drop, h] at this
  exact this
variable {A : Ar} (hA : A = real)
include hA
theorem clip_c (V : List (List IC)) : PureCalls Try.prog 37 [.c (.sl 1 false V)] (.c (.sl 1 true V)) := by
  refine PureCalls.of Try.func37 rfl (by kernel_rfl) rfl ?_
  refine AWp.seq (AWp.region (AOL.to hA tabOk (by conv => lhs; cbv) (AOL.nil ?_)))
  refine AWp.seq (AWp.region (AOL.to hA tabOk (by conv => lhs; cbv) ?_))
  refine One.clip tabOk rfl rfl rfl rfl rfl (rlen hA _) (rlen hA _) _ _ ?_
  refine AOL.to hA tabOk (by conv => lhs; cbv) (AOL.nil ?_)
  exact AWp.ret ⟨.inr rfl, _, RetOk.one rfl (Res1.tmp 2), rfl⟩
theorem clipN_c (V : List (List IC)) : PureCalls Try.prog 46 [.c (.sl 2 false V)] (.c (.sl 2 true V)) := by
  refine PureCalls.of Try.func46 rfl (by kernel_rfl) rfl ?_
  refine AWp.seq (AWp.region (AOL.to hA tabOk (by conv => lhs; cbv) (AOL.nil ?_)))
  refine AWp.seq (AWp.region (AOL.to hA tabOk (by conv => lhs; cbv) ?_))
  refine One.clip tabOk rfl rfl rfl rfl rfl (rlen hA _) (rlen hA _) _ _ ?_
  refine AOL.to hA tabOk (by conv => lhs; cbv) (AOL.nil ?_)
  exact AWp.ret ⟨.inr rfl, _, RetOk.one rfl (Res1.tmp 2), rfl⟩
theorem noted_c (V N M : List (List IC)) (a b : Int) (hN : N.length ≤ 1000000) : PureCalls Try.prog 35 [cellsPV V N M, .c (I a), .c (I b)] (.c (.sl 2 false (N ++ [[I a, I b]]))) := by
  refine PureCalls.of Try.func35 rfl (by kernel_rfl) rfl ?_
  refine AWp.seq (AWp.region (AOL.to hA tabOk (by conv => lhs; cbv) (AOL.nil ?_)))
  refine AWp.seq (AWp.region (AOL.to hA tabOk (by conv => lhs; cbv) ?_))
  refine One.call false rfl rfl rfl (clipN_c hA N) rfl _ _ ?_
  refine AOL.to hA tabOk (by conv => lhs; cbv) ?_
  refine One.append tabOk rfl rfl rfl rfl (.inl rfl) rfl ?_ ?_ _ _ ?_
  · show (N.length + 1) * 16 ≤ _; omega
  · show N.length + 1 ≤ _; simp only [maxLen]; omega
  generalize N ++ _ = R
  refine AOL.to hA tabOk (by conv => lhs; cbv) (AOL.nil ?_)
  exact AWp.ret ⟨.inr rfl, _, RetOk.one rfl (Res1.tmp 6), rfl⟩
theorem copied_c (V : List (List IC)) (hN : V.length ≤ 1000000) : PureCalls Try.prog 36 [.c (.sl 1 false V)] (.c (.sl 1 false V)) := by
  refine PureCalls.of Try.func36 rfl (by kernel_rfl) rfl ?_
  refine AWp.seq (AWp.region (AOL.to hA tabOk (by conv => lhs; cbv) (AOL.nil ?_)))
  refine AWp.seq (AWp.region (AOL.to hA tabOk (by conv => lhs; cbv) ?_))
  refine One.make tabOk rfl rfl rfl rfl rfl rfl (by rw [rlen hA]; omega) ?_ ?_ _ _ ?_
  · rw [rlen hA]; show 8 * _ ≤ _; simp; omega
  · rw [rlen hA]; simp only [maxLen]; omega
  generalize hR : List.replicate (A .len V).toNat _ = R
  refine AOL.to hA tabOk (by conv => lhs; cbv) (AOL.nil ?_)
  refine AWp.seq (AWp.region (AOL.to hA tabOk (by conv => lhs; cbv) ?_))
  refine One.copyOwn tabOk rfl rfl rfl rfl rfl rfl ?_ _ _ ?_
  · rw [← hR, rlen hA]; simp
  refine AOL.to hA tabOk (by conv => lhs; cbv) (AOL.nil ?_)
  refine AWp.seq (AWp.region (AOL.to hA tabOk (by conv => lhs; cbv) (AOL.nil ?_)))
  exact AWp.ret ⟨.inr rfl, _, RetOk.one rfl (Res1.tmp 2), rfl⟩

theorem mark_c (V N M : List (List IC)) (hN : M.length ≤ 1000000) : PureCalls Try.prog 17 [cellsPV V N M] (cellsPV V N (M ++ [[I N.length]])) := by
  refine PureCalls.of Try.func17 rfl (by kernel_rfl) rfl ?_
  refine AWp.seq (AWp.region (AOL.to hA tabOk (by conv => lhs; cbv) (AOL.nil ?_)))
  refine AWp.seq (AWp.drawQ 9 rfl (by kernel_rfl) ?_)
  refine QS.to hA tabOk (by conv => lhs; cbv) ?_
  refine QS.one rfl (One.call false rfl rfl rfl (clip_c hA M) rfl) ?_
  refine QS.to hA tabOk (by conv => lhs; cbv) ?_
  refine QS.one rfl (One.append tabOk rfl rfl rfl rfl (.inl rfl) rfl ?_ ?_) ?_
  · show (M.length + 1) * 8 ≤ _; omega
  · show M.length + 1 ≤ _; simp only [maxLen]; omega
  rw [rlen hA]
  generalize M ++ _ = R
  refine QS.to hA tabOk (by conv => lhs; cbv) ?_
  refine AOL.to hA tabOk (by conv => lhs; cbv) (AOL.nil ?_)
  refine AWp.seq (AWp.region (AOL.to hA tabOk (by conv => lhs; cbv) (AOL.nil ?_)))
  exact AWp.ret ⟨.inr rfl, _, RetOk.one rfl (Res1.cell 2 25 _ _ _ _ _ _ rfl rfl rfl ⟨rfl, rfl⟩), rfl⟩

theorem copied_2 (o0 o1 : AObj) (V : List (List IC)) (hN : V.length ≤ 1000000) : ACalls Try.prog 36 [.ic (.sl 1 false V)] [o0, o1] (fun x st' => x = .own 2 0 ∧ st' = [o0, o1, .row true 0 3 1 V]) := by
  refine ACalls.of Try.func36 rfl (by kernel_rfl) rfl ?_
  refine AWp.seq (AWp.region (AOL.to hA tabOk (by conv => lhs; cbv) (AOL.nil ?_)))
  refine AWp.seq (AWp.region (AOL.to hA tabOk (by conv => lhs; cbv) ?_))
  refine One.make tabOk rfl rfl rfl rfl rfl rfl (by rw [rlen hA]; omega) ?_ ?_ _ _ ?_
  · rw [rlen hA]; show 8 * _ ≤ _; simp; omega
  · rw [rlen hA]; simp only [maxLen]; omega
  generalize hR : List.replicate (A .len V).toNat _ = R
  refine AOL.to hA tabOk (by conv => lhs; cbv) (AOL.nil ?_)
  refine AWp.seq (AWp.region (AOL.to hA tabOk (by conv => lhs; cbv) ?_))
  refine One.copyOwn tabOk rfl rfl rfl rfl rfl rfl ?_ _ _ ?_
  · rw [← hR, rlen hA]; simp
  refine AOL.to hA tabOk (by conv => lhs; cbv) (AOL.nil ?_)
  refine AWp.seq (AWp.region (AOL.to hA tabOk (by conv => lhs; cbv) (AOL.nil ?_)))
  exact AWp.ret ⟨.inr rfl, _, RetOk.one rfl (Res1.tmp 2), rfl, rfl⟩
theorem copied_4 (o0 o1 o2 o3 : AObj) (V : List (List IC)) (hN : V.length ≤ 1000000) : ACalls Try.prog 36 [.ic (.sl 1 false V)] [o0, o1, o2, o3] (fun x st' => x = .own 4 0 ∧ st' = [o0, o1, o2, o3, .row true 0 3 1 V]) := by
  refine ACalls.of Try.func36 rfl (by kernel_rfl) rfl ?_
  refine AWp.seq (AWp.region (AOL.to hA tabOk (by conv => lhs; cbv) (AOL.nil ?_)))
  refine AWp.seq (AWp.region (AOL.to hA tabOk (by conv => lhs; cbv) ?_))
  refine One.make tabOk rfl rfl rfl rfl rfl rfl (by rw [rlen hA]; omega) ?_ ?_ _ _ ?_
  · rw [rlen hA]; show 8 * _ ≤ _; simp; omega
  · rw [rlen hA]; simp only [maxLen]; omega
  generalize hR : List.replicate (A .len V).toNat _ = R
  refine AOL.to hA tabOk (by conv => lhs; cbv) (AOL.nil ?_)
  refine AWp.seq (AWp.region (AOL.to hA tabOk (by conv => lhs; cbv) ?_))
  refine One.copyOwn tabOk rfl rfl rfl rfl rfl rfl ?_ _ _ ?_
  · rw [← hR, rlen hA]; simp
  refine AOL.to hA tabOk (by conv => lhs; cbv) (AOL.nil ?_)
  refine AWp.seq (AWp.region (AOL.to hA tabOk (by conv => lhs; cbv) (AOL.nil ?_)))
  exact AWp.ret ⟨.inr rfl, _, RetOk.one rfl (Res1.tmp 2), rfl, rfl⟩
end Go.Proofs.Ytinehodamekjgaa.Aw
