/- Contracts of package trail, part 5: undone, Back, Right. -/
import Derived.Test.YtinehodamekjgaaTr4
set_option linter.unusedVariables false
namespace Go.Proofs.Ytinehodamekjgaa.Aw
open Go Go.RowKit
set_option maxRecDepth 10000
variable {A : Ar} (hA : A = real)
include hA
theorem undone_c (V : List Int) (N : List (Int × Int)) (M : List (List IC)) (frm : Nat) (hf : frm ≤ N.length) (hV : V.length ≤ 1000000) (hN : N.length ≤ 1000000) :
    PureCalls Try.prog 38 [cellsPV (ints V) (nts N) M, .c (I frm)] (undoneR (undoAll (N.drop frm) V)) := by
  refine PureCalls.of Try.func38 rfl (by kernel_rfl) rfl ?_
  have hcp := copied_4 hA
  generalize hVr : ints V = Vr
  generalize hNr : nts N = Nr
  generalize hfr : (frm : Int) = fr
  have hVl : Vr.length = V.length := by rw [← hVr]; simp
  have hNl : Nr.length = N.length := by rw [← hNr]; simp
  refine AWp.seq (AWp.region (AOL.to hA tabOk (by conv => lhs; cbv) (AOL.nil ?_)))
  refine AWp.seq (AWp.region (AOL.to hA tabOk (by conv => lhs; cbv) (AOL.nil ?_)))
  refine AWp.seq (AWp.region (AOL.to hA tabOk (by conv => lhs; cbv) ?_))
  refine AOL.scall rfl rfl (hcp _ _ _ _ Vr (by omega)) ?_
  rintro y st' ⟨rfl, rfl⟩
  refine AOL.to hA tabOk (by conv => lhs; cbv) (AOL.nil ?_)
  refine AWp.seq (AWp.seq (AWp.region (AOL.to hA tabOk (by conv => lhs; cbv) ?_)))
  refine One.cut_l tabOk rfl rfl rfl rfl (by omega) (by omega) _ _ ?_
  have hdr : Nr.drop fr.toNat = nts (N.drop frm) := by rw [← hNr, ← hfr, Int.toNat_natCast]; simp [nts]
  rw [hdr]
  generalize hDl : N.drop frm = D
  have hDlen : D.length ≤ 1000000 := by rw [← hDl]; simp; omega
  have hB := backIter hA D
  generalize hDr : nts D = Dr at hB ⊢
  refine AOL.to hA tabOk (by conv => lhs; cbv) ?_
  refine AOL.scall rfl rfl (backward_6 hA _ _ _ _ _ _ Dr) ?_
  rintro y st' ⟨rfl, rfl⟩
  refine AOL.to hA tabOk (by conv => lhs; cbv) (AOL.nil ?_)
  refine AWp.block (AWp.rangeFunc' rfl ?_)
  intro c hc
  have hdrop : ∀ (k : Nat) (n : Int × Int), D[k]? = some n → D.drop k = n :: D.drop (k + 1) := fun k n hn => by
    obtain ⟨h1, h2⟩ := List.getElem?_eq_some_iff.1 hn
    rw [List.drop_eq_getElem_cons h1, h2]
  refine ⟨_, hB (fun k st => ∃ Vk ver, undoAll (D.drop k) V = some Vk ∧ Vk.length ≤ V.length ∧ st = [.var true 25 [.ic (.sl 1 false Vr), .ic (.sl 2 false Nr), .ic (.sl 1 false M)], .var true 63 [.ic (.sl 0 true [])], .var true 4 [.ic (Bo false)],
      .var true 76 [.fn (.func 47) [] []], .row true ver 3 1 (ints Vk), .var true 63 [.own 4 ver], .var true 23 [.ic (.sl 2 false Dr)], .lp c])
    (fun st => undoAll D V = none ∧ ∃ p4 p5 d, d = { c with state := .done, pend := some .ret } ∧ st = [.var true 25 [.ic (.sl 1 false Vr), .ic (.sl 2 false Nr), .ic (.sl 1 false M)], .var true 63 [.ic (.sl 0 true [])], .var true 4 [.ic (Bo false)],
      .var true 76 [.fn (.func 47) [] []], p4, p5, .var true 23 [.ic (.sl 2 false Dr)], .lp d])
    ?_ ?_ hDlen _ ?_, ?_⟩
  · rintro k st ⟨Vk, ver, hu, hle, rfl⟩
    exact ⟨_, _, _, _, _, _, _, rfl⟩
  · rintro k st ⟨a, b⟩ ⟨Vk, ver, hu, hle, rfl⟩ hn
    have hstep : undoAll (D.drop k) V = undo1 (a, b) Vk := by rw [hdrop k _ hn]; simp [undoAll, hu]
    refine AYield.of' 8 hc rfl (Nat.le_refl _) rfl rfl ?_
    intro l
    simp only []
    generalize hkz : (k : Int) = z
    have hIl : (ints Vk).length = Vk.length := by simp
    generalize hI : ints Vk = Ik at hIl
    refine AWp.region (AOL.to hA tabOk (by conv => lhs; cbv) (AOL.nil ?_))
    refine ⟨rfl, rfl, ?_⟩
    intro bz hbz
    refine AWp.block (AWp.seq (AWp.region (AOL.to hA tabOk (by conv => lhs; cbv) ?_)))
    by_cases h1 : a = -1 ∧ 0 < Vk.length
    · have hun : undo1 (a, b) Vk = some Vk.dropLast := by simp [undo1, h1.1, h1.2]
      refine AOL.scall rfl rfl (undo_pop hA _ _ _ _ _ _ _ Ik ver a b h1.1 (by omega) (by omega)) ?_
      rintro y st' ⟨rfl, j, rfl⟩
      generalize ver + 1 = ver'
      have hd2 : Ik.dropLast = ints Vk.dropLast := by rw [← hI]; simp [ints, List.map_dropLast]
      rw [hd2]
      generalize hI2 : ints Vk.dropLast = Ik2
      refine AOL.to hA tabOk (by conv => lhs; cbv) (AOL.nil ?_)
      rw [show A .no true = false by rw [rno hA]; rfl]
      refine AWp.cond_f rfl (AWp.skip ?_)
      exact ⟨rfl, Nat.le_of_ble_eq_true rfl, .same (.same (.same (.same (.turn rfl (.turn rfl (.same (.same .nil))))))), .inl ⟨rfl, Vk.dropLast, ver', by rw [hstep, hun], by simp; omega, by rw [hI2]; rfl⟩⟩
    · by_cases h2 : 0 ≤ a ∧ a < Vk.length
      · have hun : undo1 (a, b) Vk = some (Vk.set a.toNat b) := by simp only [undo1]; rw [if_neg h1, if_pos h2]
        have hai : a = (a.toNat : Int) := by omega
        have hlt : a.toNat < Vk.length := by omega
        have hu2 : Ik[a.toNat]? = some [I (Vk[a.toNat]'hlt)] := by rw [← hI]; exact ints_get hlt
        refine AOL.scall rfl rfl (undo_set hA _ _ _ _ _ _ _ Ik ver a b _ a.toNat hai hu2) ?_
        rintro y st' ⟨rfl, j, rfl⟩
        have hd2 : Ik.set a.toNat [I b] = ints (Vk.set a.toNat b) := by rw [← hI]; simp [ints, List.map_set]
        rw [hd2]
        generalize hI2 : ints (Vk.set a.toNat b) = Ik2
        refine AOL.to hA tabOk (by conv => lhs; cbv) (AOL.nil ?_)
        rw [show A .no true = false by rw [rno hA]; rfl]
        refine AWp.cond_f rfl (AWp.skip ?_)
        exact ⟨rfl, Nat.le_of_ble_eq_true rfl, .same (.same (.same (.same (.turn rfl (.turn rfl (.same (.same .nil))))))), .inl ⟨rfl, Vk.set a.toNat b, ver, by rw [hstep, hun], by simpa using hle, by rw [hI2]; rfl⟩⟩
      · have hun : undo1 (a, b) Vk = none := by simp only [undo1]; rw [if_neg h1, if_neg h2]
        refine AOL.scall rfl rfl (undo_no hA _ _ _ _ _ _ _ Ik ver a b (by omega) (by omega) (by omega)) ?_
        rintro y st' ⟨rfl, j, rfl⟩
        refine AOL.to hA tabOk (by conv => lhs; cbv) (AOL.nil ?_)
        rw [show A .no false = true by rw [rno hA]; rfl]
        refine AWp.cond_t rfl ?_
        refine AWp.seq (AWp.region (AOL.to hA tabOk (by conv => lhs; cbv) (AOL.nil ?_)))
        refine AWp.ret ?_
        have hnone : undoAll D V = none := by
          have happ : ∀ (l1 l2 : List (Int × Int)) (v : List Int), undoAll (l1 ++ l2) v = (undoAll l2 v).bind (undoAll l1) := by
            intro l1
            induction l1 with
            | nil => intro l2 v; simp [undoAll]
            | cons n r ih => intro l2 v; simp only [List.cons_append, undoAll, ih]; cases undoAll l2 v <;> simp
          have := happ (D.take k) (D.drop k) V
          rw [List.take_append_drop, hstep, hun] at this
          exact this
        exact ⟨rfl, Nat.le_of_ble_eq_true rfl, fun d hd => ⟨.same (.same (.same (.same (.turn rfl (.turn rfl (.same (.turn (by rw [hd, hc]; rfl) .nil))))))), .inr ⟨rfl, hnone, _, _, d, hd, rfl⟩⟩⟩
  · exact ⟨V, 0, by simp [undoAll], Nat.le_refl _, by rw [hVr]; rfl⟩
  · rintro y st' ⟨rfl, ⟨Vk, ver, hu, hle, rfl⟩ | ⟨hnone, p4, p5, d, hd, rfl⟩⟩
    · refine .inl ⟨rfl, fun x => ?_⟩
      rw [List.drop_zero] at hu
      rw [hu]
      simp only [undoneR]
      generalize ints Vk = Ik
      refine AWp.seq (AWp.region (AOL.to hA tabOk (by conv => lhs; cbv) (AOL.nil ?_)))
      exact AWp.ret ⟨.inr rfl, _, RetOk.two rfl (Res1.cell _ _ _ _ _ _ _ _ rfl rfl rfl rfl) (Res1.cell _ _ _ _ _ _ _ _ rfl rfl rfl rfl), rPV_own2 rfl rfl⟩
    · refine .inr ⟨.ret, d, rfl, hd, fun x => ?_⟩
      rw [hnone]
      exact AWp.ret ⟨.inr rfl, _, RetOk.two rfl (Res1.cell _ _ _ _ _ _ _ _ rfl rfl rfl rfl) (Res1.cell _ _ _ _ _ _ _ _ rfl rfl rfl rfl), rfl⟩
end Go.Proofs.Ytinehodamekjgaa.Aw
