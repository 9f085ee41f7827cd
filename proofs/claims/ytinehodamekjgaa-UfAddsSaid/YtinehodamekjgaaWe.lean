/- Texts of the proof, put together: the abstract walk, contracts of the functions that the statement reaches, plain laws, part 5 of 5. -/
import Derived.Test.YtinehodamekjgaaWd
/- The statements Three, Adds, Back, walked. -/
set_option linter.unusedVariables false
set_option linter.unusedSimpArgs false
namespace Go.Proofs.Ytinehodamekjgaa.Aw
open Go Go.RowKit
set_option maxRecDepth 10000
attribute [local irreducible] AWp AOL QS One AOLg QSg NX QX
variable {A : Ar} (hA : A = real)
include hA
theorem urightP (V : List Int) (N : List (Int × Int)) (M ranks : List Int) (hV : V.length ≤ 100000) (hN : N.length ≤ 100000) (hM : M.length ≤ 100000) (hr : ranks.length ≤ 1000000) :
    PureCalls Try.prog 25 [clP A V N M, intsP A ranks] (BP (hid A (rightB V ranks && Cl.right ⟨V, N, M⟩))) := refURight_c hA ⟨V, N, M⟩ ⟨hV, hN, hM⟩ ranks hr
theorem usame_c (V V' : List Int) (N N' : List (Int × Int)) (M M' : List Int) (hV : V.length ≤ 100000) (hN : N.length ≤ 100000) (hM : M.length ≤ 100000) (hV' : V'.length ≤ 100000) (hN' : N'.length ≤ 100000) (hM' : M'.length ≤ 100000) :
    PureCalls Try.prog 19 [clP A V N M, clP A V' N' M'] (BP (hid A (decide (V = V' ∧ N = N' ∧ M = M')))) := by
  have := refSame hA ⟨V, N, M⟩ ⟨V', N', M'⟩ ⟨hV, hN, hM⟩ ⟨hV', hN', hM'⟩
  rw [← clP_eq hA, ← clP_eq hA] at this
  rw [hid_eq hA]
  simpa using this
theorem back_n (V V' : List Int) (N N' : List (Int × Int)) (M : List Int) (hu : undoAll (N'.drop N.length) V' = some V) (ht : N'.take N.length = N) (hl : N.length ≤ N'.length) (hV : V'.length ≤ 100000) (hN : N'.length ≤ 100000) (hM : M.length ≤ 100000) :
    PureCalls Try.prog 18 [clP A V' N' (M ++ [(N.length : Int)])] (.tup [clP A V N M, IP 0]) := by
  have := back_c1 hA V' N' (M ++ [(N.length : Int)]) N.length (by simp) hl hV hN (by simp; omega) V hu
  rw [ht, List.dropLast_concat] at this
  simp only [clP, hid_eq hA]
  exact this
set_option maxHeartbeats 4000000 in
theorem three_law (V : List Int) (N : List (Int × Int)) (M ranks : List Int) (a b n : Int) (hV : V.length ≤ 140737488351232) (hN : N.length ≤ 140737488351232) (hM : M.length ≤ 140737488351232) (hr : ranks.length ≤ 140737488351232) : PureCalls Try.prog 10 [.agg [.sl 1 false (hid A (List.map encI V)), .sl 2 false (hid A (List.map encN N)), .sl 1 false (hid A (List.map encI M)), .sl 1 false (hid A (List.map encI ranks)), .lit (.int .i64 a), .lit (.int .i64 b), .lit (.int .i64 n)]] (BP true) := by
  have hfew := ufew_c hA V N M ranks hV hN hM
  by_cases hf : V.length + N.length + M.length ≤ 500 ∧ ranks.length ≤ 200
  · obtain ⟨hf1, hf2⟩ := hf
    rw [show decide (V.length + N.length + M.length ≤ 500 ∧ ranks.length ≤ 200) = true from decide_eq_true (by omega)] at hfew
    have hri := urightP hA V N M ranks (by omega) (by omega) (by omega) (by omega)
    by_cases hg : (rightB V ranks && (⟨V, N, M⟩ : Cl).right) = true ∧ (0 ≤ a ∧ a < V.length) ∧ (0 ≤ b ∧ b < V.length) ∧ (0 ≤ n ∧ n < V.length)
    · obtain ⟨g1, ga, gb, gn⟩ := hg
      rw [g1] at hri
      have hR : RightU V ranks := (rightB_iff _ _).1 (by revert g1; cases rightB V ranks <;> simp)
      have hR1 := joinV_right hR ga.1 ga.2 gb.1 gb.2
      have hR2 := joinV_right hR gn.1 gn.2 ga.1 ga.2
      have l1 := joinV_len V ranks a b
      have l2 := joinV_len V ranks n a
      have m1 := joinN_len V ranks N a b
      have m2 := joinN_len V ranks N n a
      have l3 := joinV_len (joinV V ranks a b) ranks b n
      have l4 := joinV_len (joinV V ranks n a) ranks b n
      have hX := joinV_right hR1 gb.1 (by omega) gn.1 (b := n) (by omega)
      have hY := joinV_right hR2 gb.1 (by omega) gn.1 (b := n) (by omega)
      have hj1 := join_c hA V N M ranks hR a b ga gb (by omega) (by omega) (by omega)
      have hj2 := join_c hA V N M ranks hR n a gn ga (by omega) (by omega) (by omega)
      have hj3 := join_c hA _ (joinN V ranks N a b) M ranks hR1 b n (by omega) (by omega) (by omega) (by omega) (by omega)
      have hj4 := join_c hA _ (joinN V ranks N n a) M ranks hR2 b n (by omega) (by omega) (by omega) (by omega) (by omega)
      have hs : ∀ {k : Int}, 0 ≤ k → k < V.length → findU (joinV (joinV V ranks a b) ranks b n) k = findU (joinV (joinV V ranks n a) ranks b n) k := fun h0 h1 => three_same hR ga.1 ga.2 gb.1 gb.2 gn.1 gn.2 h0 h1
      have e1 : findU (joinV (joinV V ranks a b) ranks b n) a = findU (joinV (joinV V ranks a b) ranks b n) n := by
        rw [three_find hR ga.1 ga.2 gb.1 gb.2 gn.1 gn.2 ga.1 ga.2, three_find hR ga.1 ga.2 gb.1 gb.2 gn.1 gn.2 gn.1 gn.2, if_pos (.inl rfl), if_pos (.inr (.inr rfl))]
      generalize joinN V ranks N a b = N1 at *
      generalize joinN V ranks N n a = N2 at *
      generalize joinV V ranks a b = V1 at *
      generalize joinV V ranks n a = V2 at *
      generalize joinV V1 ranks b n = X at *
      generalize joinV V2 ranks b n = Y at *
      generalize joinN V1 ranks N1 b n = N3 at *
      generalize joinN V2 ranks N2 b n = N4 at *
      have e2 := hs ga.1 ga.2
      have ec : (thoseM X.length fun k => decide (findU X k = findU X b)) = thoseM Y.length fun k => decide (findU Y k = findU Y b) := by
        rw [show Y.length = X.length by omega]
        exact thoseM_congr fun k hk => by rw [hs (by omega) (by omega), hs gb.1 gb.2]
      have hc1 := class_c hA X N3 M ranks hX b (by omega) (by omega) (by omega)
      have hc2 := class_c hA Y N4 M ranks hY b (by omega) (by omega) (by omega)
      rw [← ec] at hc2
      have hlen := thoseM_len X.length fun k => decide (findU X k = findU X b)
      generalize (thoseM X.length fun k => decide (findU X k = findU X b)) = K at *
      have hin := uInts_c hA K K (by omega) (by omega)
      rw [decide_eq_true rfl] at hin
      refine PureCalls.of Try.func10 rfl (by kernel_rfl) rfl ?_
      try first | refine AOLg.of [] ?_ | refine QSg.of [] ?_
      repeat' (first
        | (refine AWp.pass ?_; first
            | refine AWp.seq ?_
            | refine AWp.block ?_
            | refine AWp.skip ?_
            | refine AWp.regG [] (by conv => lhs; cbv) ?_
            | refine AWp.cond_t rfl ?_
            | refine AWp.cond_f rfl ?_
            | (refine AWp.cond rfl ?_ ?_ <;> intro hc <;> (try rw [hc]) <;> ((try simp only [zn] at hc) <;> (try simp (disch := omega) only [zz hA, zb, zy, reduceCtorEq, Bool.false_eq_true, Int.reduceLT, Int.reduceLE, Int.reduceNeg] at hc) <;> (try simp only [zw] at hc)) <;> (try (exfalso; omega)))
            | refine AWp.exit ?_
            | refine AWp.ret ⟨.inr rfl, _, RetOk.ev tabOk (by conv => lhs; cbv), ?_⟩
            | refine AWp.drawKG [] 0 rfl (by decide +kernel) (by conv => lhs; cbv) (by conv => lhs; cbv) ?_
            | refine AWp.drawKG [] 1 rfl (by decide +kernel) (by conv => lhs; cbv) (by conv => lhs; cbv) ?_
            | refine AWp.drawKG [] 2 rfl (by decide +kernel) (by conv => lhs; cbv) (by conv => lhs; cbv) ?_
            | refine AWp.drawKG [] 3 rfl (by decide +kernel) (by conv => lhs; cbv) (by conv => lhs; cbv) ?_
            | refine AWp.drawKG [] 4 rfl (by decide +kernel) (by conv => lhs; cbv) (by conv => lhs; cbv) ?_
            | refine AWp.drawKG [] 5 rfl (by decide +kernel) (by conv => lhs; cbv) (by conv => lhs; cbv) ?_
            | refine AWp.drawKG [] 6 rfl (by decide +kernel) (by conv => lhs; cbv) (by conv => lhs; cbv) ?_
            | refine AWp.drawKG [] 8 rfl (by decide +kernel) (by conv => lhs; cbv) (by conv => lhs; cbv) ?_)
        | (refine AOLg.pass ?_; refine AOLg.nx hA tabOk (by conv => lhs; cbv) ?_; first
            | refine NX.done ?_
            | refine NX.gt ?_
            | refine NX.gf ?_
            | (refine NX.gs ?_ ?_ <;> intro hc <;> rw [hc] <;> ((try simp only [zn] at hc) <;> (try simp (disch := omega) only [zz hA, zb, zy, reduceCtorEq, Bool.false_eq_true, Int.reduceLT, Int.reduceLE, Int.reduceNeg] at hc) <;> (try simp only [zw] at hc)) <;> (try (exfalso; omega)))
            | (refine NX.kC ?_; first | (with_reducible refine NX.call (shown5_c hA) ?_) | (with_reducible refine NX.call (hfew) ?_) | (with_reducible refine NX.call (hri) ?_) | (with_reducible refine NX.call (there_c hA _ _ _ _) ?_) | (with_reducible refine NX.call (hj1) ?_) | (with_reducible refine NX.call (hj2) ?_) | (with_reducible refine NX.call (hj3) ?_) | (with_reducible refine NX.call (hj4) ?_) | ((with_reducible refine NX.call (find_c hA X N3 M ranks hX _ ?_ ?_) ?_) <;> (first | refine AOLg.pass ?_ | (((try simp only [zn]) <;> (try simp (disch := omega) only [zz hA, zb, zy, reduceCtorEq, Bool.false_eq_true, Int.reduceLT, Int.reduceLE, Int.reduceNeg]) <;> (try simp only [zw])) <;> omega))) | ((with_reducible refine NX.call (find_c hA Y N4 M ranks hY _ ?_ ?_) ?_) <;> (first | refine AOLg.pass ?_ | (((try simp only [zn]) <;> (try simp (disch := omega) only [zz hA, zb, zy, reduceCtorEq, Bool.false_eq_true, Int.reduceLT, Int.reduceLE, Int.reduceNeg]) <;> (try simp only [zw])) <;> omega))) | (with_reducible refine NX.call (hc1) ?_) | (with_reducible refine NX.call (hc2) ?_) | (with_reducible refine NX.call (hin) ?_) | ((first | refine NX.call (shown5_c hA) ?_ | refine NX.call (hfew) ?_ | refine NX.call (hri) ?_ | refine NX.call (there_c hA _ _ _ _) ?_ | refine NX.call (hj1) ?_ | refine NX.call (hj2) ?_ | refine NX.call (hj3) ?_ | refine NX.call (hj4) ?_ | refine NX.call (find_c hA X N3 M ranks hX _ ?_ ?_) ?_ | refine NX.call (find_c hA Y N4 M ranks hY _ ?_ ?_) ?_ | refine NX.call (hc1) ?_ | refine NX.call (hc2) ?_ | refine NX.call (hin) ?_) <;> (first | refine AOLg.pass ?_ | (((try simp only [zn]) <;> (try simp (disch := omega) only [zz hA, zb, zy, reduceCtorEq, Bool.false_eq_true, Int.reduceLT, Int.reduceLE, Int.reduceNeg]) <;> (try simp only [zw])) <;> omega))) | fail)
            | (refine NX.kO ?_; (first | refine NX.callO (shown5_c hA) (by simp [allEq]) rfl ?_ | refine NX.callO (hfew) (by simp [allEq]) rfl ?_ | refine NX.callO (hri) (by simp [allEq]) rfl ?_ | refine NX.callO (there_c hA _ _ _ _) (by simp [allEq]) rfl ?_ | refine NX.callO (hj1) (by simp [allEq]) rfl ?_ | refine NX.callO (hj2) (by simp [allEq]) rfl ?_ | refine NX.callO (hj3) (by simp [allEq]) rfl ?_ | refine NX.callO (hj4) (by simp [allEq]) rfl ?_ | refine NX.callO (find_c hA X N3 M ranks hX _ ?_ ?_) (by simp [allEq]) rfl ?_ | refine NX.callO (find_c hA Y N4 M ranks hY _ ?_ ?_) (by simp [allEq]) rfl ?_ | refine NX.callO (hc1) (by simp [allEq]) rfl ?_ | refine NX.callO (hc2) (by simp [allEq]) rfl ?_ | refine NX.callO (hin) (by simp [allEq]) rfl ?_) <;> (first | refine AOLg.pass ?_ | (((try simp only [zn]) <;> (try simp (disch := omega) only [zz hA, zb, zy, reduceCtorEq, Bool.false_eq_true, Int.reduceLT, Int.reduceLE, Int.reduceNeg]) <;> (try simp only [zw])) <;> omega)))
            | ((first | (refine NX.k 1 ?_; first | refine NX.one (One.elemM hA tabOk rfl rfl rfl rfl ?_ ?_) ?_ | refine NX.one (One.elemOwnM hA tabOk rfl rfl rfl rfl rfl ?_ ?_) ?_) | (refine NX.k 2 ?_; first | refine NX.one (One.clipM tabOk rfl rfl rfl rfl rfl ?_ ?_) ?_ | refine NX.one (One.cut_hM hA tabOk rfl rfl rfl rfl ?_ ?_) ?_ | refine NX.one (One.cut_lM hA tabOk rfl rfl rfl rfl ?_ ?_) ?_ | refine NX.one (One.cut_lhM hA tabOk rfl rfl rfl rfl rfl ?_ ?_ ?_) ?_) | (refine NX.k 3 ?_; first | refine NX.one (One.quoM hA rfl rfl rfl ?_) ?_) | (refine NX.k 4 ?_; first | refine NX.one (One.remM hA rfl rfl rfl ?_) ?_) | (refine NX.k 5 ?_; first | refine NX.one (One.shrM hA rfl rfl rfl ?_) ?_) | (refine NX.k 6 ?_; first | refine NX.one (One.bitsM hA rfl rfl rfl rfl) ?_) | (refine NX.k 7 ?_; first | refine NX.one (One.concatM hA rfl rfl rfl ?_) ?_) | (refine NX.k 8 ?_; first | refine NX.one (One.eqBoolM hA tabOk rfl rfl rfl rfl rfl) ?_) | (refine NX.k 9 ?_; first | refine NX.one (One.neBoolM hA tabOk rfl rfl rfl rfl rfl) ?_) | (refine NX.k 10 ?_; first | refine NX.one (One.lenOwnM hA tabOk rfl rfl rfl rfl) ?_) | (refine NX.k 11 ?_; first | refine NX.one (One.appendM hA tabOk _ rfl rfl rfl rfl rfl rfl ?_ ?_) ?_ | refine NX.one (One.appendMM hA tabOk rfl rfl rfl rfl rfl ?_ ?_) ?_ | refine NX.one (One.appendOwnM hA tabOk _ rfl rfl rfl rfl rfl rfl rfl ?_ ?_) ?_ | refine NX.one (One.appendOwnMM hA tabOk rfl rfl rfl rfl rfl rfl ?_ ?_) ?_ | refine NX.one (One.appendOwn0 hA tabOk rfl rfl rfl rfl rfl rfl ?_ ?_) ?_) | (refine NX.k 13 ?_; first | refine NX.one (One.byteM hA tabOk rfl rfl rfl rfl rfl ?_ ?_) ?_) | (refine NX.k 14 ?_; first | refine NX.one (One.loadRatM hA tabOk rfl rfl rfl rfl rfl rfl ?_) ?_) | (refine NX.k 15 ?_; first | refine NX.one (One.storeRatM hA tabOk _ rfl rfl rfl rfl rfl rfl rfl rfl (fun _ => rfl) ?_) ?_) | (refine NX.k 16 ?_; first | refine NX.one (One.makeM hA tabOk encI 0 rfl rfl rfl rfl rfl rfl rfl ?_ ?_ ?_) ?_) | (refine NX.k 17 ?_; first | refine NX.one (One.build0 tabOk rfl rfl) ?_) | (refine NX.k 18 ?_; first | refine NX.one (One.fieldRat tabOk rfl rfl rfl rfl (by decide) rfl rfl) ?_)) <;> (first | refine AOLg.pass ?_ | (((try simp only [zn]) <;> (try simp (disch := omega) only [zz hA, zb, zy, reduceCtorEq, Bool.false_eq_true, Int.reduceLT, Int.reduceLE, Int.reduceNeg]) <;> (try simp only [zw])) <;> omega)))
            | refine NX.raw ?_)
        | (refine QSg.pass ?_; refine QSg.nx hA tabOk (by conv => lhs; cbv) ?_; first
            | refine QX.done ?_
            | refine QX.gt ?_
            | refine QX.gf ?_
            | (refine QX.gs ?_ ?_ <;> intro hc <;> rw [hc] <;> ((try simp only [zn] at hc) <;> (try simp (disch := omega) only [zz hA, zb, zy, reduceCtorEq, Bool.false_eq_true, Int.reduceLT, Int.reduceLE, Int.reduceNeg] at hc) <;> (try simp only [zw] at hc)) <;> (try (exfalso; omega)))
            | (refine QX.kC ?_; first | (with_reducible refine QX.call (shown5_c hA) rfl ?_) | (with_reducible refine QX.call (hfew) rfl ?_) | (with_reducible refine QX.call (hri) rfl ?_) | (with_reducible refine QX.call (there_c hA _ _ _ _) rfl ?_) | (with_reducible refine QX.call (hj1) rfl ?_) | (with_reducible refine QX.call (hj2) rfl ?_) | (with_reducible refine QX.call (hj3) rfl ?_) | (with_reducible refine QX.call (hj4) rfl ?_) | ((with_reducible refine QX.call (find_c hA X N3 M ranks hX _ ?_ ?_) rfl ?_) <;> (first | refine QSg.pass ?_ | (((try simp only [zn]) <;> (try simp (disch := omega) only [zz hA, zb, zy, reduceCtorEq, Bool.false_eq_true, Int.reduceLT, Int.reduceLE, Int.reduceNeg]) <;> (try simp only [zw])) <;> omega))) | ((with_reducible refine QX.call (find_c hA Y N4 M ranks hY _ ?_ ?_) rfl ?_) <;> (first | refine QSg.pass ?_ | (((try simp only [zn]) <;> (try simp (disch := omega) only [zz hA, zb, zy, reduceCtorEq, Bool.false_eq_true, Int.reduceLT, Int.reduceLE, Int.reduceNeg]) <;> (try simp only [zw])) <;> omega))) | (with_reducible refine QX.call (hc1) rfl ?_) | (with_reducible refine QX.call (hc2) rfl ?_) | (with_reducible refine QX.call (hin) rfl ?_) | ((first | refine QX.call (shown5_c hA) rfl ?_ | refine QX.call (hfew) rfl ?_ | refine QX.call (hri) rfl ?_ | refine QX.call (there_c hA _ _ _ _) rfl ?_ | refine QX.call (hj1) rfl ?_ | refine QX.call (hj2) rfl ?_ | refine QX.call (hj3) rfl ?_ | refine QX.call (hj4) rfl ?_ | refine QX.call (find_c hA X N3 M ranks hX _ ?_ ?_) rfl ?_ | refine QX.call (find_c hA Y N4 M ranks hY _ ?_ ?_) rfl ?_ | refine QX.call (hc1) rfl ?_ | refine QX.call (hc2) rfl ?_ | refine QX.call (hin) rfl ?_) <;> (first | refine QSg.pass ?_ | (((try simp only [zn]) <;> (try simp (disch := omega) only [zz hA, zb, zy, reduceCtorEq, Bool.false_eq_true, Int.reduceLT, Int.reduceLE, Int.reduceNeg]) <;> (try simp only [zw])) <;> omega))) | fail)
            | (refine QX.kO ?_; (first | refine QX.callO (shown5_c hA) rfl (by simp [allEq]) rfl ?_ | refine QX.callO (hfew) rfl (by simp [allEq]) rfl ?_ | refine QX.callO (hri) rfl (by simp [allEq]) rfl ?_ | refine QX.callO (there_c hA _ _ _ _) rfl (by simp [allEq]) rfl ?_ | refine QX.callO (hj1) rfl (by simp [allEq]) rfl ?_ | refine QX.callO (hj2) rfl (by simp [allEq]) rfl ?_ | refine QX.callO (hj3) rfl (by simp [allEq]) rfl ?_ | refine QX.callO (hj4) rfl (by simp [allEq]) rfl ?_ | refine QX.callO (find_c hA X N3 M ranks hX _ ?_ ?_) rfl (by simp [allEq]) rfl ?_ | refine QX.callO (find_c hA Y N4 M ranks hY _ ?_ ?_) rfl (by simp [allEq]) rfl ?_ | refine QX.callO (hc1) rfl (by simp [allEq]) rfl ?_ | refine QX.callO (hc2) rfl (by simp [allEq]) rfl ?_ | refine QX.callO (hin) rfl (by simp [allEq]) rfl ?_) <;> (first | refine QSg.pass ?_ | (((try simp only [zn]) <;> (try simp (disch := omega) only [zz hA, zb, zy, reduceCtorEq, Bool.false_eq_true, Int.reduceLT, Int.reduceLE, Int.reduceNeg]) <;> (try simp only [zw])) <;> omega)))
            | ((first | (refine QX.k 1 ?_; first | refine QX.one rfl (One.elemM hA tabOk rfl rfl rfl rfl ?_ ?_) ?_ | refine QX.one rfl (One.elemOwnM hA tabOk rfl rfl rfl rfl rfl ?_ ?_) ?_) | (refine QX.k 2 ?_; first | refine QX.one rfl (One.clipM tabOk rfl rfl rfl rfl rfl ?_ ?_) ?_ | refine QX.one rfl (One.cut_hM hA tabOk rfl rfl rfl rfl ?_ ?_) ?_ | refine QX.one rfl (One.cut_lM hA tabOk rfl rfl rfl rfl ?_ ?_) ?_ | refine QX.one rfl (One.cut_lhM hA tabOk rfl rfl rfl rfl rfl ?_ ?_ ?_) ?_) | (refine QX.k 3 ?_; first | refine QX.one rfl (One.quoM hA rfl rfl rfl ?_) ?_) | (refine QX.k 4 ?_; first | refine QX.one rfl (One.remM hA rfl rfl rfl ?_) ?_) | (refine QX.k 5 ?_; first | refine QX.one rfl (One.shrM hA rfl rfl rfl ?_) ?_) | (refine QX.k 6 ?_; first | refine QX.one rfl (One.bitsM hA rfl rfl rfl rfl) ?_) | (refine QX.k 7 ?_; first | refine QX.one rfl (One.concatM hA rfl rfl rfl ?_) ?_) | (refine QX.k 8 ?_; first | refine QX.one rfl (One.eqBoolM hA tabOk rfl rfl rfl rfl rfl) ?_) | (refine QX.k 9 ?_; first | refine QX.one rfl (One.neBoolM hA tabOk rfl rfl rfl rfl rfl) ?_) | (refine QX.k 10 ?_; first | refine QX.one rfl (One.lenOwnM hA tabOk rfl rfl rfl rfl) ?_) | (refine QX.k 11 ?_; first | refine QX.one rfl (One.appendM hA tabOk _ rfl rfl rfl rfl rfl rfl ?_ ?_) ?_ | refine QX.one rfl (One.appendMM hA tabOk rfl rfl rfl rfl rfl ?_ ?_) ?_ | refine QX.one rfl (One.appendOwnM hA tabOk _ rfl rfl rfl rfl rfl rfl rfl ?_ ?_) ?_ | refine QX.one rfl (One.appendOwnMM hA tabOk rfl rfl rfl rfl rfl rfl ?_ ?_) ?_ | refine QX.one rfl (One.appendOwn0 hA tabOk rfl rfl rfl rfl rfl rfl ?_ ?_) ?_) | (refine QX.k 13 ?_; first | refine QX.one rfl (One.byteM hA tabOk rfl rfl rfl rfl rfl ?_ ?_) ?_) | (refine QX.k 14 ?_; first | refine QX.one rfl (One.loadRatM hA tabOk rfl rfl rfl rfl rfl rfl ?_) ?_) | (refine QX.k 15 ?_; first | refine QX.one rfl (One.storeRatM hA tabOk _ rfl rfl rfl rfl rfl rfl rfl rfl (fun _ => rfl) ?_) ?_) | (refine QX.k 16 ?_; first | refine QX.one rfl (One.makeM hA tabOk encI 0 rfl rfl rfl rfl rfl rfl rfl ?_ ?_ ?_) ?_) | (refine QX.k 17 ?_; first | refine QX.one rfl (One.build0 tabOk rfl rfl) ?_) | (refine QX.k 18 ?_; first | refine QX.one rfl (One.fieldRat tabOk rfl rfl rfl rfl (by decide) rfl rfl) ?_)) <;> (first | refine QSg.pass ?_ | (((try simp only [zn]) <;> (try simp (disch := omega) only [zz hA, zb, zy, reduceCtorEq, Bool.false_eq_true, Int.reduceLT, Int.reduceLE, Int.reduceNeg]) <;> (try simp only [zw])) <;> omega)))
            | refine QX.raw ?_)
        | refine Thn.exit ?_
        | refine Blk.here ?_
        | refine Blk.other (by decide) ?_
        | refine ⟨.inl rfl, _, RetOk.ev tabOk (by conv => lhs; cbv), ?_⟩
        | fail)
      all_goals first
        | (exfalso; omega)
        | (refine rPV_then (by conv => lhs; cbv) ?_
           simp [hA, real, hid]; done)
        | (refine rPV_then (by conv => lhs; cbv) ?_
           simp [hA, real, hid]; omega)
    · refine PureCalls.of Try.func10 rfl (by kernel_rfl) rfl ?_
      try first | refine AOLg.of [] ?_ | refine QSg.of [] ?_
      repeat' (first
        | (refine AWp.pass ?_; first
            | refine AWp.seq ?_
            | refine AWp.block ?_
            | refine AWp.skip ?_
            | refine AWp.regG [] (by conv => lhs; cbv) ?_
            | refine AWp.cond_t rfl ?_
            | refine AWp.cond_f rfl ?_
            | (refine AWp.cond rfl ?_ ?_ <;> intro hc <;> (try rw [hc]) <;> ((try simp only [zn] at hc) <;> (try simp (disch := omega) only [zz hA, zb, zy, reduceCtorEq, Bool.false_eq_true, Int.reduceLT, Int.reduceLE, Int.reduceNeg] at hc) <;> (try simp only [zw] at hc)) <;> (try (exfalso; omega)))
            | refine AWp.exit ?_
            | refine AWp.ret ⟨.inr rfl, _, RetOk.ev tabOk (by conv => lhs; cbv), ?_⟩
            | refine AWp.drawKG [] 0 rfl (by decide +kernel) (by conv => lhs; cbv) (by conv => lhs; cbv) ?_
            | refine AWp.drawKG [] 1 rfl (by decide +kernel) (by conv => lhs; cbv) (by conv => lhs; cbv) ?_
            | refine AWp.drawKG [] 2 rfl (by decide +kernel) (by conv => lhs; cbv) (by conv => lhs; cbv) ?_
            | refine AWp.drawKG [] 3 rfl (by decide +kernel) (by conv => lhs; cbv) (by conv => lhs; cbv) ?_
            | refine AWp.drawKG [] 4 rfl (by decide +kernel) (by conv => lhs; cbv) (by conv => lhs; cbv) ?_
            | refine AWp.drawKG [] 5 rfl (by decide +kernel) (by conv => lhs; cbv) (by conv => lhs; cbv) ?_
            | refine AWp.drawKG [] 6 rfl (by decide +kernel) (by conv => lhs; cbv) (by conv => lhs; cbv) ?_
            | refine AWp.drawKG [] 8 rfl (by decide +kernel) (by conv => lhs; cbv) (by conv => lhs; cbv) ?_)
        | (refine AOLg.pass ?_; refine AOLg.nx hA tabOk (by conv => lhs; cbv) ?_; first
            | refine NX.done ?_
            | refine NX.gt ?_
            | refine NX.gf ?_
            | (refine NX.gs ?_ ?_ <;> intro hc <;> rw [hc] <;> ((try simp only [zn] at hc) <;> (try simp (disch := omega) only [zz hA, zb, zy, reduceCtorEq, Bool.false_eq_true, Int.reduceLT, Int.reduceLE, Int.reduceNeg] at hc) <;> (try simp only [zw] at hc)) <;> (try (exfalso; omega)))
            | (refine NX.kC ?_; first | (with_reducible refine NX.call (shown5_c hA) ?_) | (with_reducible refine NX.call (hfew) ?_) | (with_reducible refine NX.call (hri) ?_) | (with_reducible refine NX.call (there_c hA V N M a) ?_) | (with_reducible refine NX.call (there_c hA V N M b) ?_) | (with_reducible refine NX.call (there_c hA V N M n) ?_) | ((first | refine NX.call (shown5_c hA) ?_ | refine NX.call (hfew) ?_ | refine NX.call (hri) ?_ | refine NX.call (there_c hA V N M a) ?_ | refine NX.call (there_c hA V N M b) ?_ | refine NX.call (there_c hA V N M n) ?_)) | fail)
            | (refine NX.kO ?_; (first | refine NX.callO (shown5_c hA) (by simp [allEq]) rfl ?_ | refine NX.callO (hfew) (by simp [allEq]) rfl ?_ | refine NX.callO (hri) (by simp [allEq]) rfl ?_ | refine NX.callO (there_c hA V N M a) (by simp [allEq]) rfl ?_ | refine NX.callO (there_c hA V N M b) (by simp [allEq]) rfl ?_ | refine NX.callO (there_c hA V N M n) (by simp [allEq]) rfl ?_))
            | ((first | (refine NX.k 1 ?_; first | refine NX.one (One.elemM hA tabOk rfl rfl rfl rfl ?_ ?_) ?_ | refine NX.one (One.elemOwnM hA tabOk rfl rfl rfl rfl rfl ?_ ?_) ?_) | (refine NX.k 2 ?_; first | refine NX.one (One.clipM tabOk rfl rfl rfl rfl rfl ?_ ?_) ?_ | refine NX.one (One.cut_hM hA tabOk rfl rfl rfl rfl ?_ ?_) ?_ | refine NX.one (One.cut_lM hA tabOk rfl rfl rfl rfl ?_ ?_) ?_ | refine NX.one (One.cut_lhM hA tabOk rfl rfl rfl rfl rfl ?_ ?_ ?_) ?_) | (refine NX.k 3 ?_; first | refine NX.one (One.quoM hA rfl rfl rfl ?_) ?_) | (refine NX.k 4 ?_; first | refine NX.one (One.remM hA rfl rfl rfl ?_) ?_) | (refine NX.k 5 ?_; first | refine NX.one (One.shrM hA rfl rfl rfl ?_) ?_) | (refine NX.k 6 ?_; first | refine NX.one (One.bitsM hA rfl rfl rfl rfl) ?_) | (refine NX.k 7 ?_; first | refine NX.one (One.concatM hA rfl rfl rfl ?_) ?_) | (refine NX.k 8 ?_; first | refine NX.one (One.eqBoolM hA tabOk rfl rfl rfl rfl rfl) ?_) | (refine NX.k 9 ?_; first | refine NX.one (One.neBoolM hA tabOk rfl rfl rfl rfl rfl) ?_) | (refine NX.k 10 ?_; first | refine NX.one (One.lenOwnM hA tabOk rfl rfl rfl rfl) ?_) | (refine NX.k 11 ?_; first | refine NX.one (One.appendM hA tabOk _ rfl rfl rfl rfl rfl rfl ?_ ?_) ?_ | refine NX.one (One.appendMM hA tabOk rfl rfl rfl rfl rfl ?_ ?_) ?_ | refine NX.one (One.appendOwnM hA tabOk _ rfl rfl rfl rfl rfl rfl rfl ?_ ?_) ?_ | refine NX.one (One.appendOwnMM hA tabOk rfl rfl rfl rfl rfl rfl ?_ ?_) ?_ | refine NX.one (One.appendOwn0 hA tabOk rfl rfl rfl rfl rfl rfl ?_ ?_) ?_) | (refine NX.k 13 ?_; first | refine NX.one (One.byteM hA tabOk rfl rfl rfl rfl rfl ?_ ?_) ?_) | (refine NX.k 14 ?_; first | refine NX.one (One.loadRatM hA tabOk rfl rfl rfl rfl rfl rfl ?_) ?_) | (refine NX.k 15 ?_; first | refine NX.one (One.storeRatM hA tabOk _ rfl rfl rfl rfl rfl rfl rfl rfl (fun _ => rfl) ?_) ?_) | (refine NX.k 16 ?_; first | refine NX.one (One.makeM hA tabOk encI 0 rfl rfl rfl rfl rfl rfl rfl ?_ ?_ ?_) ?_) | (refine NX.k 17 ?_; first | refine NX.one (One.build0 tabOk rfl rfl) ?_) | (refine NX.k 18 ?_; first | refine NX.one (One.fieldRat tabOk rfl rfl rfl rfl (by decide) rfl rfl) ?_)) <;> (first | refine AOLg.pass ?_ | (((try simp only [zn]) <;> (try simp (disch := omega) only [zz hA, zb, zy, reduceCtorEq, Bool.false_eq_true, Int.reduceLT, Int.reduceLE, Int.reduceNeg]) <;> (try simp only [zw])) <;> omega)))
            | refine NX.raw ?_)
        | (refine QSg.pass ?_; refine QSg.nx hA tabOk (by conv => lhs; cbv) ?_; first
            | refine QX.done ?_
            | refine QX.gt ?_
            | refine QX.gf ?_
            | (refine QX.gs ?_ ?_ <;> intro hc <;> rw [hc] <;> ((try simp only [zn] at hc) <;> (try simp (disch := omega) only [zz hA, zb, zy, reduceCtorEq, Bool.false_eq_true, Int.reduceLT, Int.reduceLE, Int.reduceNeg] at hc) <;> (try simp only [zw] at hc)) <;> (try (exfalso; omega)))
            | (refine QX.kC ?_; first | (with_reducible refine QX.call (shown5_c hA) rfl ?_) | (with_reducible refine QX.call (hfew) rfl ?_) | (with_reducible refine QX.call (hri) rfl ?_) | (with_reducible refine QX.call (there_c hA V N M a) rfl ?_) | (with_reducible refine QX.call (there_c hA V N M b) rfl ?_) | (with_reducible refine QX.call (there_c hA V N M n) rfl ?_) | ((first | refine QX.call (shown5_c hA) rfl ?_ | refine QX.call (hfew) rfl ?_ | refine QX.call (hri) rfl ?_ | refine QX.call (there_c hA V N M a) rfl ?_ | refine QX.call (there_c hA V N M b) rfl ?_ | refine QX.call (there_c hA V N M n) rfl ?_)) | fail)
            | (refine QX.kO ?_; (first | refine QX.callO (shown5_c hA) rfl (by simp [allEq]) rfl ?_ | refine QX.callO (hfew) rfl (by simp [allEq]) rfl ?_ | refine QX.callO (hri) rfl (by simp [allEq]) rfl ?_ | refine QX.callO (there_c hA V N M a) rfl (by simp [allEq]) rfl ?_ | refine QX.callO (there_c hA V N M b) rfl (by simp [allEq]) rfl ?_ | refine QX.callO (there_c hA V N M n) rfl (by simp [allEq]) rfl ?_))
            | ((first | (refine QX.k 1 ?_; first | refine QX.one rfl (One.elemM hA tabOk rfl rfl rfl rfl ?_ ?_) ?_ | refine QX.one rfl (One.elemOwnM hA tabOk rfl rfl rfl rfl rfl ?_ ?_) ?_) | (refine QX.k 2 ?_; first | refine QX.one rfl (One.clipM tabOk rfl rfl rfl rfl rfl ?_ ?_) ?_ | refine QX.one rfl (One.cut_hM hA tabOk rfl rfl rfl rfl ?_ ?_) ?_ | refine QX.one rfl (One.cut_lM hA tabOk rfl rfl rfl rfl ?_ ?_) ?_ | refine QX.one rfl (One.cut_lhM hA tabOk rfl rfl rfl rfl rfl ?_ ?_ ?_) ?_) | (refine QX.k 3 ?_; first | refine QX.one rfl (One.quoM hA rfl rfl rfl ?_) ?_) | (refine QX.k 4 ?_; first | refine QX.one rfl (One.remM hA rfl rfl rfl ?_) ?_) | (refine QX.k 5 ?_; first | refine QX.one rfl (One.shrM hA rfl rfl rfl ?_) ?_) | (refine QX.k 6 ?_; first | refine QX.one rfl (One.bitsM hA rfl rfl rfl rfl) ?_) | (refine QX.k 7 ?_; first | refine QX.one rfl (One.concatM hA rfl rfl rfl ?_) ?_) | (refine QX.k 8 ?_; first | refine QX.one rfl (One.eqBoolM hA tabOk rfl rfl rfl rfl rfl) ?_) | (refine QX.k 9 ?_; first | refine QX.one rfl (One.neBoolM hA tabOk rfl rfl rfl rfl rfl) ?_) | (refine QX.k 10 ?_; first | refine QX.one rfl (One.lenOwnM hA tabOk rfl rfl rfl rfl) ?_) | (refine QX.k 11 ?_; first | refine QX.one rfl (One.appendM hA tabOk _ rfl rfl rfl rfl rfl rfl ?_ ?_) ?_ | refine QX.one rfl (One.appendMM hA tabOk rfl rfl rfl rfl rfl ?_ ?_) ?_ | refine QX.one rfl (One.appendOwnM hA tabOk _ rfl rfl rfl rfl rfl rfl rfl ?_ ?_) ?_ | refine QX.one rfl (One.appendOwnMM hA tabOk rfl rfl rfl rfl rfl rfl ?_ ?_) ?_ | refine QX.one rfl (One.appendOwn0 hA tabOk rfl rfl rfl rfl rfl rfl ?_ ?_) ?_) | (refine QX.k 13 ?_; first | refine QX.one rfl (One.byteM hA tabOk rfl rfl rfl rfl rfl ?_ ?_) ?_) | (refine QX.k 14 ?_; first | refine QX.one rfl (One.loadRatM hA tabOk rfl rfl rfl rfl rfl rfl ?_) ?_) | (refine QX.k 15 ?_; first | refine QX.one rfl (One.storeRatM hA tabOk _ rfl rfl rfl rfl rfl rfl rfl rfl (fun _ => rfl) ?_) ?_) | (refine QX.k 16 ?_; first | refine QX.one rfl (One.makeM hA tabOk encI 0 rfl rfl rfl rfl rfl rfl rfl ?_ ?_ ?_) ?_) | (refine QX.k 17 ?_; first | refine QX.one rfl (One.build0 tabOk rfl rfl) ?_) | (refine QX.k 18 ?_; first | refine QX.one rfl (One.fieldRat tabOk rfl rfl rfl rfl (by decide) rfl rfl) ?_)) <;> (first | refine QSg.pass ?_ | (((try simp only [zn]) <;> (try simp (disch := omega) only [zz hA, zb, zy, reduceCtorEq, Bool.false_eq_true, Int.reduceLT, Int.reduceLE, Int.reduceNeg]) <;> (try simp only [zw])) <;> omega)))
            | refine QX.raw ?_)
        | refine Thn.exit ?_
        | refine Blk.here ?_
        | refine Blk.other (by decide) ?_
        | refine ⟨.inl rfl, _, RetOk.ev tabOk (by conv => lhs; cbv), ?_⟩
        | fail)
      all_goals first
        | (refine rPV_then (by conv => lhs; cbv) ?_
           simp [hA, real, hid]; done)
        | (exfalso
           simp_all [hid, real] <;> omega)
  · rw [show decide (V.length + N.length + M.length ≤ 500 ∧ ranks.length ≤ 200) = false from decide_eq_false hf] at hfew
    refine PureCalls.of Try.func10 rfl (by kernel_rfl) rfl ?_
    try first | refine AOLg.of [] ?_ | refine QSg.of [] ?_
    repeat' (first
      | (refine AWp.pass ?_; first
          | refine AWp.seq ?_
          | refine AWp.block ?_
          | refine AWp.skip ?_
          | refine AWp.regG [] (by conv => lhs; cbv) ?_
          | refine AWp.cond_t rfl ?_
          | refine AWp.cond_f rfl ?_
          | (refine AWp.cond rfl ?_ ?_ <;> intro hc <;> (try rw [hc]) <;> ((try simp only [zn] at hc) <;> (try simp (disch := omega) only [zz hA, zb, zy, reduceCtorEq, Bool.false_eq_true, Int.reduceLT, Int.reduceLE, Int.reduceNeg] at hc) <;> (try simp only [zw] at hc)) <;> (try (exfalso; omega)))
          | refine AWp.exit ?_
          | refine AWp.ret ⟨.inr rfl, _, RetOk.ev tabOk (by conv => lhs; cbv), ?_⟩
          | refine AWp.drawKG [] 0 rfl (by decide +kernel) (by conv => lhs; cbv) (by conv => lhs; cbv) ?_
          | refine AWp.drawKG [] 1 rfl (by decide +kernel) (by conv => lhs; cbv) (by conv => lhs; cbv) ?_
          | refine AWp.drawKG [] 2 rfl (by decide +kernel) (by conv => lhs; cbv) (by conv => lhs; cbv) ?_
          | refine AWp.drawKG [] 3 rfl (by decide +kernel) (by conv => lhs; cbv) (by conv => lhs; cbv) ?_
          | refine AWp.drawKG [] 4 rfl (by decide +kernel) (by conv => lhs; cbv) (by conv => lhs; cbv) ?_
          | refine AWp.drawKG [] 5 rfl (by decide +kernel) (by conv => lhs; cbv) (by conv => lhs; cbv) ?_
          | refine AWp.drawKG [] 6 rfl (by decide +kernel) (by conv => lhs; cbv) (by conv => lhs; cbv) ?_
          | refine AWp.drawKG [] 8 rfl (by decide +kernel) (by conv => lhs; cbv) (by conv => lhs; cbv) ?_)
      | (refine AOLg.pass ?_; refine AOLg.nx hA tabOk (by conv => lhs; cbv) ?_; first
          | refine NX.done ?_
          | refine NX.gt ?_
          | refine NX.gf ?_
          | (refine NX.gs ?_ ?_ <;> intro hc <;> rw [hc] <;> ((try simp only [zn] at hc) <;> (try simp (disch := omega) only [zz hA, zb, zy, reduceCtorEq, Bool.false_eq_true, Int.reduceLT, Int.reduceLE, Int.reduceNeg] at hc) <;> (try simp only [zw] at hc)) <;> (try (exfalso; omega)))
          | (refine NX.kC ?_; first | (with_reducible refine NX.call (shown5_c hA) ?_) | (with_reducible refine NX.call (hfew) ?_) | ((first | refine NX.call (shown5_c hA) ?_ | refine NX.call (hfew) ?_)) | fail)
          | (refine NX.kO ?_; (first | refine NX.callO (shown5_c hA) (by simp [allEq]) rfl ?_ | refine NX.callO (hfew) (by simp [allEq]) rfl ?_))
          | ((first | (refine NX.k 1 ?_; first | refine NX.one (One.elemM hA tabOk rfl rfl rfl rfl ?_ ?_) ?_ | refine NX.one (One.elemOwnM hA tabOk rfl rfl rfl rfl rfl ?_ ?_) ?_) | (refine NX.k 2 ?_; first | refine NX.one (One.clipM tabOk rfl rfl rfl rfl rfl ?_ ?_) ?_ | refine NX.one (One.cut_hM hA tabOk rfl rfl rfl rfl ?_ ?_) ?_ | refine NX.one (One.cut_lM hA tabOk rfl rfl rfl rfl ?_ ?_) ?_ | refine NX.one (One.cut_lhM hA tabOk rfl rfl rfl rfl rfl ?_ ?_ ?_) ?_) | (refine NX.k 3 ?_; first | refine NX.one (One.quoM hA rfl rfl rfl ?_) ?_) | (refine NX.k 4 ?_; first | refine NX.one (One.remM hA rfl rfl rfl ?_) ?_) | (refine NX.k 5 ?_; first | refine NX.one (One.shrM hA rfl rfl rfl ?_) ?_) | (refine NX.k 6 ?_; first | refine NX.one (One.bitsM hA rfl rfl rfl rfl) ?_) | (refine NX.k 7 ?_; first | refine NX.one (One.concatM hA rfl rfl rfl ?_) ?_) | (refine NX.k 8 ?_; first | refine NX.one (One.eqBoolM hA tabOk rfl rfl rfl rfl rfl) ?_) | (refine NX.k 9 ?_; first | refine NX.one (One.neBoolM hA tabOk rfl rfl rfl rfl rfl) ?_) | (refine NX.k 10 ?_; first | refine NX.one (One.lenOwnM hA tabOk rfl rfl rfl rfl) ?_) | (refine NX.k 11 ?_; first | refine NX.one (One.appendM hA tabOk _ rfl rfl rfl rfl rfl rfl ?_ ?_) ?_ | refine NX.one (One.appendMM hA tabOk rfl rfl rfl rfl rfl ?_ ?_) ?_ | refine NX.one (One.appendOwnM hA tabOk _ rfl rfl rfl rfl rfl rfl rfl ?_ ?_) ?_ | refine NX.one (One.appendOwnMM hA tabOk rfl rfl rfl rfl rfl rfl ?_ ?_) ?_ | refine NX.one (One.appendOwn0 hA tabOk rfl rfl rfl rfl rfl rfl ?_ ?_) ?_) | (refine NX.k 13 ?_; first | refine NX.one (One.byteM hA tabOk rfl rfl rfl rfl rfl ?_ ?_) ?_) | (refine NX.k 14 ?_; first | refine NX.one (One.loadRatM hA tabOk rfl rfl rfl rfl rfl rfl ?_) ?_) | (refine NX.k 15 ?_; first | refine NX.one (One.storeRatM hA tabOk _ rfl rfl rfl rfl rfl rfl rfl rfl (fun _ => rfl) ?_) ?_) | (refine NX.k 16 ?_; first | refine NX.one (One.makeM hA tabOk encI 0 rfl rfl rfl rfl rfl rfl rfl ?_ ?_ ?_) ?_) | (refine NX.k 17 ?_; first | refine NX.one (One.build0 tabOk rfl rfl) ?_) | (refine NX.k 18 ?_; first | refine NX.one (One.fieldRat tabOk rfl rfl rfl rfl (by decide) rfl rfl) ?_)) <;> (first | refine AOLg.pass ?_ | (((try simp only [zn]) <;> (try simp (disch := omega) only [zz hA, zb, zy, reduceCtorEq, Bool.false_eq_true, Int.reduceLT, Int.reduceLE, Int.reduceNeg]) <;> (try simp only [zw])) <;> omega)))
          | refine NX.raw ?_)
      | (refine QSg.pass ?_; refine QSg.nx hA tabOk (by conv => lhs; cbv) ?_; first
          | refine QX.done ?_
          | refine QX.gt ?_
          | refine QX.gf ?_
          | (refine QX.gs ?_ ?_ <;> intro hc <;> rw [hc] <;> ((try simp only [zn] at hc) <;> (try simp (disch := omega) only [zz hA, zb, zy, reduceCtorEq, Bool.false_eq_true, Int.reduceLT, Int.reduceLE, Int.reduceNeg] at hc) <;> (try simp only [zw] at hc)) <;> (try (exfalso; omega)))
          | (refine QX.kC ?_; first | (with_reducible refine QX.call (shown5_c hA) rfl ?_) | (with_reducible refine QX.call (hfew) rfl ?_) | ((first | refine QX.call (shown5_c hA) rfl ?_ | refine QX.call (hfew) rfl ?_)) | fail)
          | (refine QX.kO ?_; (first | refine QX.callO (shown5_c hA) rfl (by simp [allEq]) rfl ?_ | refine QX.callO (hfew) rfl (by simp [allEq]) rfl ?_))
          | ((first | (refine QX.k 1 ?_; first | refine QX.one rfl (One.elemM hA tabOk rfl rfl rfl rfl ?_ ?_) ?_ | refine QX.one rfl (One.elemOwnM hA tabOk rfl rfl rfl rfl rfl ?_ ?_) ?_) | (refine QX.k 2 ?_; first | refine QX.one rfl (One.clipM tabOk rfl rfl rfl rfl rfl ?_ ?_) ?_ | refine QX.one rfl (One.cut_hM hA tabOk rfl rfl rfl rfl ?_ ?_) ?_ | refine QX.one rfl (One.cut_lM hA tabOk rfl rfl rfl rfl ?_ ?_) ?_ | refine QX.one rfl (One.cut_lhM hA tabOk rfl rfl rfl rfl rfl ?_ ?_ ?_) ?_) | (refine QX.k 3 ?_; first | refine QX.one rfl (One.quoM hA rfl rfl rfl ?_) ?_) | (refine QX.k 4 ?_; first | refine QX.one rfl (One.remM hA rfl rfl rfl ?_) ?_) | (refine QX.k 5 ?_; first | refine QX.one rfl (One.shrM hA rfl rfl rfl ?_) ?_) | (refine QX.k 6 ?_; first | refine QX.one rfl (One.bitsM hA rfl rfl rfl rfl) ?_) | (refine QX.k 7 ?_; first | refine QX.one rfl (One.concatM hA rfl rfl rfl ?_) ?_) | (refine QX.k 8 ?_; first | refine QX.one rfl (One.eqBoolM hA tabOk rfl rfl rfl rfl rfl) ?_) | (refine QX.k 9 ?_; first | refine QX.one rfl (One.neBoolM hA tabOk rfl rfl rfl rfl rfl) ?_) | (refine QX.k 10 ?_; first | refine QX.one rfl (One.lenOwnM hA tabOk rfl rfl rfl rfl) ?_) | (refine QX.k 11 ?_; first | refine QX.one rfl (One.appendM hA tabOk _ rfl rfl rfl rfl rfl rfl ?_ ?_) ?_ | refine QX.one rfl (One.appendMM hA tabOk rfl rfl rfl rfl rfl ?_ ?_) ?_ | refine QX.one rfl (One.appendOwnM hA tabOk _ rfl rfl rfl rfl rfl rfl rfl ?_ ?_) ?_ | refine QX.one rfl (One.appendOwnMM hA tabOk rfl rfl rfl rfl rfl rfl ?_ ?_) ?_ | refine QX.one rfl (One.appendOwn0 hA tabOk rfl rfl rfl rfl rfl rfl ?_ ?_) ?_) | (refine QX.k 13 ?_; first | refine QX.one rfl (One.byteM hA tabOk rfl rfl rfl rfl rfl ?_ ?_) ?_) | (refine QX.k 14 ?_; first | refine QX.one rfl (One.loadRatM hA tabOk rfl rfl rfl rfl rfl rfl ?_) ?_) | (refine QX.k 15 ?_; first | refine QX.one rfl (One.storeRatM hA tabOk _ rfl rfl rfl rfl rfl rfl rfl rfl (fun _ => rfl) ?_) ?_) | (refine QX.k 16 ?_; first | refine QX.one rfl (One.makeM hA tabOk encI 0 rfl rfl rfl rfl rfl rfl rfl ?_ ?_ ?_) ?_) | (refine QX.k 17 ?_; first | refine QX.one rfl (One.build0 tabOk rfl rfl) ?_) | (refine QX.k 18 ?_; first | refine QX.one rfl (One.fieldRat tabOk rfl rfl rfl rfl (by decide) rfl rfl) ?_)) <;> (first | refine QSg.pass ?_ | (((try simp only [zn]) <;> (try simp (disch := omega) only [zz hA, zb, zy, reduceCtorEq, Bool.false_eq_true, Int.reduceLT, Int.reduceLE, Int.reduceNeg]) <;> (try simp only [zw])) <;> omega)))
          | refine QX.raw ?_)
      | refine Thn.exit ?_
      | refine Blk.here ?_
      | refine Blk.other (by decide) ?_
      | refine ⟨.inl rfl, _, RetOk.ev tabOk (by conv => lhs; cbv), ?_⟩
      | fail)
    all_goals
      refine rPV_then (by conv => lhs; cbv) ?_
      simp [hA, real, hid]
end Go.Proofs.Ytinehodamekjgaa.Aw

/- The statements Adds, Back, walked. -/
set_option linter.unusedVariables false
set_option linter.unusedSimpArgs false
namespace Go.Proofs.Ytinehodamekjgaa.Aw
open Go Go.RowKit
set_option maxRecDepth 10000
attribute [local irreducible] AWp AOL QS One AOLg QSg NX QX
variable {A : Ar} (hA : A = real)
include hA
set_option maxHeartbeats 4000000 in
theorem adds_law (V : List Int) (N : List (Int × Int)) (M ranks : List Int) (a : Int) (hV : V.length ≤ 140737488351232) (hN : N.length ≤ 140737488351232) (hM : M.length ≤ 140737488351232) (hr : ranks.length ≤ 140737488351232) : PureCalls Try.prog 11 [clP A V N M, intsP A ranks, IP a] (BP true) := by
  have hfew := ufew_c hA V N M ranks hV hN hM
  by_cases hf : V.length + N.length + M.length ≤ 500 ∧ ranks.length ≤ 200
  · obtain ⟨hf1, hf2⟩ := hf
    rw [show decide (V.length + N.length + M.length ≤ 500 ∧ ranks.length ≤ 200) = true from decide_eq_true (by omega)] at hfew
    have hri := urightP hA V N M ranks (by omega) (by omega) (by omega) (by omega)
    by_cases hg : (rightB V ranks && (⟨V, N, M⟩ : Cl).right) = true ∧ (0 ≤ a ∧ a < V.length)
    · obtain ⟨g1, ga⟩ := hg
      rw [g1] at hri
      have hR : RightU V ranks := (rightB_iff _ _).1 (by revert g1; cases rightB V ranks <;> simp)
      have hX := add_right hR
      have hadd := add_c hA V N M (by omega) (by omega)
      have hlx : (V ++ [(V.length : Int)]).length = V.length + 1 := by simp
      have hf1 := add_new V
      have hf2 := add_find hR ga.1 ga.2
      have hcx := class_c hA (V ++ [(V.length : Int)]) (N ++ [(-1, 0)]) M ranks hX (V.length : Int) (by omega) (by omega) (by omega)
      rw [add_own hR] at hcx
      have hca := class_c hA (V ++ [(V.length : Int)]) (N ++ [(-1, 0)]) M ranks hX a (by omega) (by omega) (by omega)
      rw [add_class hR ga.1 ga.2] at hca
      have hcu := class_c hA V N M ranks hR a (by omega) (by omega) (by omega)
      have hlen := thoseM_len V.length fun k => decide (findU V k = findU V a)
      generalize (thoseM V.length fun k => decide (findU V k = findU V a)) = K at *
      have hin := uInts_c hA K K (by omega) (by omega)
      rw [decide_eq_true rfl] at hin
      have hfx := firsts_c hA (V ++ [(V.length : Int)]) (N ++ [(-1, 0)]) M (by omega)
      rw [add_firsts V] at hfx
      have hfu := firsts_c hA V N M (by omega)
      have hlen2 := thoseM_len V.length fun k => decide (V.getD k.toNat default = k)
      generalize (thoseM V.length fun k => decide (V.getD k.toNat default = k)) = F at *
      have hl2 : ((V.length : Int)).toNat = V.length := by omega
      generalize V ++ [(V.length : Int)] = X at *
      generalize hFz : F ++ [(V.length : Int)] = F2 at *
      have hg0 : [(V.length : Int)].getD (Int.toNat 0) default = (V.length : Int) := rfl
      have hF2 : F2.length = F.length + 1 := by rw [← hFz]; simp
      refine PureCalls.of Try.func11 rfl (by kernel_rfl) rfl ?_
      have hcx' : ∀ y : Int, y = (V.length : Int) → PureCalls Try.prog 31 [clP A X (N ++ [(-1, 0)]) M, IP y] (intsP A [(V.length : Int)]) := by rintro _ rfl; exact hcx
      try first | refine AOLg.of [] ?_ | refine QSg.of [] ?_
      repeat' (first
        | (refine AWp.pass ?_; first
            | refine AWp.seq ?_
            | refine AWp.block ?_
            | refine AWp.skip ?_
            | refine AWp.regG [] (by conv => lhs; cbv) ?_
            | refine AWp.cond_t rfl ?_
            | refine AWp.cond_f rfl ?_
            | (refine AWp.cond rfl ?_ ?_ <;> intro hc <;> (try rw [hc]) <;> ((try simp only [zn] at hc) <;> (try simp (disch := omega) only [zz hA, zb, zy, reduceCtorEq, Bool.false_eq_true, Int.reduceLT, Int.reduceLE, Int.reduceNeg] at hc) <;> (try simp only [zw] at hc)) <;> (try (exfalso; omega)))
            | refine AWp.exit ?_
            | refine AWp.ret ⟨.inr rfl, _, RetOk.ev tabOk (by conv => lhs; cbv), ?_⟩
            | refine AWp.drawKG [] 0 rfl (by decide +kernel) (by conv => lhs; cbv) (by conv => lhs; cbv) ?_
            | refine AWp.drawKG [] 1 rfl (by decide +kernel) (by conv => lhs; cbv) (by conv => lhs; cbv) ?_
            | refine AWp.drawKG [] 2 rfl (by decide +kernel) (by conv => lhs; cbv) (by conv => lhs; cbv) ?_
            | refine AWp.drawKG [] 3 rfl (by decide +kernel) (by conv => lhs; cbv) (by conv => lhs; cbv) ?_
            | refine AWp.drawKG [] 4 rfl (by decide +kernel) (by conv => lhs; cbv) (by conv => lhs; cbv) ?_
            | refine AWp.drawKG [] 5 rfl (by decide +kernel) (by conv => lhs; cbv) (by conv => lhs; cbv) ?_
            | refine AWp.drawKG [] 6 rfl (by decide +kernel) (by conv => lhs; cbv) (by conv => lhs; cbv) ?_
            | refine AWp.drawKG [] 8 rfl (by decide +kernel) (by conv => lhs; cbv) (by conv => lhs; cbv) ?_)
        | (refine AOLg.pass ?_; refine AOLg.nx hA tabOk (by conv => lhs; cbv) ?_; first
            | refine NX.done ?_
            | refine NX.gt ?_
            | refine NX.gf ?_
            | (refine NX.gs ?_ ?_ <;> intro hc <;> rw [hc] <;> ((try simp only [zn] at hc) <;> (try simp (disch := omega) only [zz hA, zb, zy, reduceCtorEq, Bool.false_eq_true, Int.reduceLT, Int.reduceLE, Int.reduceNeg] at hc) <;> (try simp only [zw] at hc)) <;> (try (exfalso; omega)))
            | (refine NX.kC ?_; first | (with_reducible refine NX.call (shown5_c hA) ?_) | (with_reducible refine NX.call (hfew) ?_) | (with_reducible refine NX.call (hri) ?_) | (with_reducible refine NX.call (there_c hA _ _ _ _) ?_) | (with_reducible refine NX.call (hadd) ?_) | ((with_reducible refine NX.call (hcx' _ ?_) ?_) <;> (first | refine AOLg.pass ?_ | (((try simp only [zn]) <;> (try simp (disch := omega) only [zz hA, zb, zy, reduceCtorEq, Bool.false_eq_true, Int.reduceLT, Int.reduceLE, Int.reduceNeg]) <;> (try simp only [zw])) <;> omega))) | (with_reducible refine NX.call (hca) ?_) | (with_reducible refine NX.call (hcu) ?_) | (with_reducible refine NX.call (hin) ?_) | (with_reducible refine NX.call (hfx) ?_) | (with_reducible refine NX.call (hfu) ?_) | ((with_reducible refine NX.call (find_c hA X (N ++ [(-1, 0)]) M ranks hX _ ?_ ?_) ?_) <;> (first | refine AOLg.pass ?_ | (((try simp only [zn]) <;> (try simp (disch := omega) only [zz hA, zb, zy, reduceCtorEq, Bool.false_eq_true, Int.reduceLT, Int.reduceLE, Int.reduceNeg]) <;> (try simp only [zw])) <;> omega))) | ((with_reducible refine NX.call (find_c hA V N M ranks hR _ ?_ ?_) ?_) <;> (first | refine AOLg.pass ?_ | (((try simp only [zn]) <;> (try simp (disch := omega) only [zz hA, zb, zy, reduceCtorEq, Bool.false_eq_true, Int.reduceLT, Int.reduceLE, Int.reduceNeg]) <;> (try simp only [zw])) <;> omega))) | ((first | refine NX.call (shown5_c hA) ?_ | refine NX.call (hfew) ?_ | refine NX.call (hri) ?_ | refine NX.call (there_c hA _ _ _ _) ?_ | refine NX.call (hadd) ?_ | refine NX.call (hcx' _ ?_) ?_ | refine NX.call (hca) ?_ | refine NX.call (hcu) ?_ | refine NX.call (hin) ?_ | refine NX.call (hfx) ?_ | refine NX.call (hfu) ?_ | refine NX.call (find_c hA X (N ++ [(-1, 0)]) M ranks hX _ ?_ ?_) ?_ | refine NX.call (find_c hA V N M ranks hR _ ?_ ?_) ?_) <;> (first | refine AOLg.pass ?_ | (((try simp only [zn]) <;> (try simp (disch := omega) only [zz hA, zb, zy, reduceCtorEq, Bool.false_eq_true, Int.reduceLT, Int.reduceLE, Int.reduceNeg]) <;> (try simp only [zw])) <;> omega))) | fail)
            | (refine NX.kO ?_; (first | refine NX.callO (shown5_c hA) (by simp [allEq]) rfl ?_ | refine NX.callO (hfew) (by simp [allEq]) rfl ?_ | refine NX.callO (hri) (by simp [allEq]) rfl ?_ | refine NX.callO (there_c hA _ _ _ _) (by simp [allEq]) rfl ?_ | refine NX.callO (hadd) (by simp [allEq]) rfl ?_ | refine NX.callO (hcx' _ ?_) (by simp [allEq]) rfl ?_ | refine NX.callO (hca) (by simp [allEq]) rfl ?_ | refine NX.callO (hcu) (by simp [allEq]) rfl ?_ | refine NX.callO (hin) (by simp [allEq]) rfl ?_ | refine NX.callO (hfx) (by simp [allEq]) rfl ?_ | refine NX.callO (hfu) (by simp [allEq]) rfl ?_ | refine NX.callO (find_c hA X (N ++ [(-1, 0)]) M ranks hX _ ?_ ?_) (by simp [allEq]) rfl ?_ | refine NX.callO (find_c hA V N M ranks hR _ ?_ ?_) (by simp [allEq]) rfl ?_) <;> (first | refine AOLg.pass ?_ | (((try simp only [zn]) <;> (try simp (disch := omega) only [zz hA, zb, zy, reduceCtorEq, Bool.false_eq_true, Int.reduceLT, Int.reduceLE, Int.reduceNeg]) <;> (try simp only [zw])) <;> omega)))
            | ((first | (refine NX.k 1 ?_; first | refine NX.one (One.elemM hA tabOk rfl rfl rfl rfl ?_ ?_) ?_ | refine NX.one (One.elemOwnM hA tabOk rfl rfl rfl rfl rfl ?_ ?_) ?_) | (refine NX.k 2 ?_; first | refine NX.one (One.clipM tabOk rfl rfl rfl rfl rfl ?_ ?_) ?_ | refine NX.one (One.cut_hM hA tabOk rfl rfl rfl rfl ?_ ?_) ?_ | refine NX.one (One.cut_lM hA tabOk rfl rfl rfl rfl ?_ ?_) ?_ | refine NX.one (One.cut_lhM hA tabOk rfl rfl rfl rfl rfl ?_ ?_ ?_) ?_) | (refine NX.k 3 ?_; first | refine NX.one (One.quoM hA rfl rfl rfl ?_) ?_) | (refine NX.k 4 ?_; first | refine NX.one (One.remM hA rfl rfl rfl ?_) ?_) | (refine NX.k 5 ?_; first | refine NX.one (One.shrM hA rfl rfl rfl ?_) ?_) | (refine NX.k 6 ?_; first | refine NX.one (One.bitsM hA rfl rfl rfl rfl) ?_) | (refine NX.k 7 ?_; first | refine NX.one (One.concatM hA rfl rfl rfl ?_) ?_) | (refine NX.k 8 ?_; first | refine NX.one (One.eqBoolM hA tabOk rfl rfl rfl rfl rfl) ?_) | (refine NX.k 9 ?_; first | refine NX.one (One.neBoolM hA tabOk rfl rfl rfl rfl rfl) ?_) | (refine NX.k 10 ?_; first | refine NX.one (One.lenOwnM hA tabOk rfl rfl rfl rfl) ?_) | (refine NX.k 11 ?_; first | refine NX.one (One.appendM hA tabOk _ rfl rfl rfl rfl rfl rfl ?_ ?_) ?_ | refine NX.one (One.appendMM hA tabOk rfl rfl rfl rfl rfl ?_ ?_) ?_ | refine NX.one (One.appendOwnM hA tabOk _ rfl rfl rfl rfl rfl rfl rfl ?_ ?_) ?_ | refine NX.one (One.appendOwnMM hA tabOk rfl rfl rfl rfl rfl rfl ?_ ?_) ?_ | refine NX.one (One.appendOwn0 hA tabOk rfl rfl rfl rfl rfl rfl ?_ ?_) ?_) | (refine NX.k 13 ?_; first | refine NX.one (One.byteM hA tabOk rfl rfl rfl rfl rfl ?_ ?_) ?_) | (refine NX.k 14 ?_; first | refine NX.one (One.loadRatM hA tabOk rfl rfl rfl rfl rfl rfl ?_) ?_) | (refine NX.k 15 ?_; first | refine NX.one (One.storeRatM hA tabOk _ rfl rfl rfl rfl rfl rfl rfl rfl (fun _ => rfl) ?_) ?_) | (refine NX.k 16 ?_; first | refine NX.one (One.makeM hA tabOk encI 0 rfl rfl rfl rfl rfl rfl rfl ?_ ?_ ?_) ?_) | (refine NX.k 17 ?_; first | refine NX.one (One.build0 tabOk rfl rfl) ?_) | (refine NX.k 18 ?_; first | refine NX.one (One.fieldRat tabOk rfl rfl rfl rfl (by decide) rfl rfl) ?_)) <;> (first | refine AOLg.pass ?_ | (((try simp only [zn]) <;> (try simp (disch := omega) only [zz hA, zb, zy, reduceCtorEq, Bool.false_eq_true, Int.reduceLT, Int.reduceLE, Int.reduceNeg]) <;> (try simp only [zw])) <;> omega)))
            | refine NX.raw ?_)
        | (refine QSg.pass ?_; refine QSg.nx hA tabOk (by conv => lhs; cbv) ?_; first
            | refine QX.done ?_
            | refine QX.gt ?_
            | refine QX.gf ?_
            | (refine QX.gs ?_ ?_ <;> intro hc <;> rw [hc] <;> ((try simp only [zn] at hc) <;> (try simp (disch := omega) only [zz hA, zb, zy, reduceCtorEq, Bool.false_eq_true, Int.reduceLT, Int.reduceLE, Int.reduceNeg] at hc) <;> (try simp only [zw] at hc)) <;> (try (exfalso; omega)))
            | (refine QX.kC ?_; first | (with_reducible refine QX.call (shown5_c hA) rfl ?_) | (with_reducible refine QX.call (hfew) rfl ?_) | (with_reducible refine QX.call (hri) rfl ?_) | (with_reducible refine QX.call (there_c hA _ _ _ _) rfl ?_) | (with_reducible refine QX.call (hadd) rfl ?_) | ((with_reducible refine QX.call (hcx' _ ?_) rfl ?_) <;> (first | refine QSg.pass ?_ | (((try simp only [zn]) <;> (try simp (disch := omega) only [zz hA, zb, zy, reduceCtorEq, Bool.false_eq_true, Int.reduceLT, Int.reduceLE, Int.reduceNeg]) <;> (try simp only [zw])) <;> omega))) | (with_reducible refine QX.call (hca) rfl ?_) | (with_reducible refine QX.call (hcu) rfl ?_) | (with_reducible refine QX.call (hin) rfl ?_) | (with_reducible refine QX.call (hfx) rfl ?_) | (with_reducible refine QX.call (hfu) rfl ?_) | ((with_reducible refine QX.call (find_c hA X (N ++ [(-1, 0)]) M ranks hX _ ?_ ?_) rfl ?_) <;> (first | refine QSg.pass ?_ | (((try simp only [zn]) <;> (try simp (disch := omega) only [zz hA, zb, zy, reduceCtorEq, Bool.false_eq_true, Int.reduceLT, Int.reduceLE, Int.reduceNeg]) <;> (try simp only [zw])) <;> omega))) | ((with_reducible refine QX.call (find_c hA V N M ranks hR _ ?_ ?_) rfl ?_) <;> (first | refine QSg.pass ?_ | (((try simp only [zn]) <;> (try simp (disch := omega) only [zz hA, zb, zy, reduceCtorEq, Bool.false_eq_true, Int.reduceLT, Int.reduceLE, Int.reduceNeg]) <;> (try simp only [zw])) <;> omega))) | ((first | refine QX.call (shown5_c hA) rfl ?_ | refine QX.call (hfew) rfl ?_ | refine QX.call (hri) rfl ?_ | refine QX.call (there_c hA _ _ _ _) rfl ?_ | refine QX.call (hadd) rfl ?_ | refine QX.call (hcx' _ ?_) rfl ?_ | refine QX.call (hca) rfl ?_ | refine QX.call (hcu) rfl ?_ | refine QX.call (hin) rfl ?_ | refine QX.call (hfx) rfl ?_ | refine QX.call (hfu) rfl ?_ | refine QX.call (find_c hA X (N ++ [(-1, 0)]) M ranks hX _ ?_ ?_) rfl ?_ | refine QX.call (find_c hA V N M ranks hR _ ?_ ?_) rfl ?_) <;> (first | refine QSg.pass ?_ | (((try simp only [zn]) <;> (try simp (disch := omega) only [zz hA, zb, zy, reduceCtorEq, Bool.false_eq_true, Int.reduceLT, Int.reduceLE, Int.reduceNeg]) <;> (try simp only [zw])) <;> omega))) | fail)
            | (refine QX.kO ?_; (first | refine QX.callO (shown5_c hA) rfl (by simp [allEq]) rfl ?_ | refine QX.callO (hfew) rfl (by simp [allEq]) rfl ?_ | refine QX.callO (hri) rfl (by simp [allEq]) rfl ?_ | refine QX.callO (there_c hA _ _ _ _) rfl (by simp [allEq]) rfl ?_ | refine QX.callO (hadd) rfl (by simp [allEq]) rfl ?_ | refine QX.callO (hcx' _ ?_) rfl (by simp [allEq]) rfl ?_ | refine QX.callO (hca) rfl (by simp [allEq]) rfl ?_ | refine QX.callO (hcu) rfl (by simp [allEq]) rfl ?_ | refine QX.callO (hin) rfl (by simp [allEq]) rfl ?_ | refine QX.callO (hfx) rfl (by simp [allEq]) rfl ?_ | refine QX.callO (hfu) rfl (by simp [allEq]) rfl ?_ | refine QX.callO (find_c hA X (N ++ [(-1, 0)]) M ranks hX _ ?_ ?_) rfl (by simp [allEq]) rfl ?_ | refine QX.callO (find_c hA V N M ranks hR _ ?_ ?_) rfl (by simp [allEq]) rfl ?_) <;> (first | refine QSg.pass ?_ | (((try simp only [zn]) <;> (try simp (disch := omega) only [zz hA, zb, zy, reduceCtorEq, Bool.false_eq_true, Int.reduceLT, Int.reduceLE, Int.reduceNeg]) <;> (try simp only [zw])) <;> omega)))
            | ((first | (refine QX.k 1 ?_; first | refine QX.one rfl (One.elemM hA tabOk rfl rfl rfl rfl ?_ ?_) ?_ | refine QX.one rfl (One.elemOwnM hA tabOk rfl rfl rfl rfl rfl ?_ ?_) ?_) | (refine QX.k 2 ?_; first | refine QX.one rfl (One.clipM tabOk rfl rfl rfl rfl rfl ?_ ?_) ?_ | refine QX.one rfl (One.cut_hM hA tabOk rfl rfl rfl rfl ?_ ?_) ?_ | refine QX.one rfl (One.cut_lM hA tabOk rfl rfl rfl rfl ?_ ?_) ?_ | refine QX.one rfl (One.cut_lhM hA tabOk rfl rfl rfl rfl rfl ?_ ?_ ?_) ?_) | (refine QX.k 3 ?_; first | refine QX.one rfl (One.quoM hA rfl rfl rfl ?_) ?_) | (refine QX.k 4 ?_; first | refine QX.one rfl (One.remM hA rfl rfl rfl ?_) ?_) | (refine QX.k 5 ?_; first | refine QX.one rfl (One.shrM hA rfl rfl rfl ?_) ?_) | (refine QX.k 6 ?_; first | refine QX.one rfl (One.bitsM hA rfl rfl rfl rfl) ?_) | (refine QX.k 7 ?_; first | refine QX.one rfl (One.concatM hA rfl rfl rfl ?_) ?_) | (refine QX.k 8 ?_; first | refine QX.one rfl (One.eqBoolM hA tabOk rfl rfl rfl rfl rfl) ?_) | (refine QX.k 9 ?_; first | refine QX.one rfl (One.neBoolM hA tabOk rfl rfl rfl rfl rfl) ?_) | (refine QX.k 10 ?_; first | refine QX.one rfl (One.lenOwnM hA tabOk rfl rfl rfl rfl) ?_) | (refine QX.k 11 ?_; first | refine QX.one rfl (One.appendM hA tabOk _ rfl rfl rfl rfl rfl rfl ?_ ?_) ?_ | refine QX.one rfl (One.appendMM hA tabOk rfl rfl rfl rfl rfl ?_ ?_) ?_ | refine QX.one rfl (One.appendOwnM hA tabOk _ rfl rfl rfl rfl rfl rfl rfl ?_ ?_) ?_ | refine QX.one rfl (One.appendOwnMM hA tabOk rfl rfl rfl rfl rfl rfl ?_ ?_) ?_ | refine QX.one rfl (One.appendOwn0 hA tabOk rfl rfl rfl rfl rfl rfl ?_ ?_) ?_) | (refine QX.k 13 ?_; first | refine QX.one rfl (One.byteM hA tabOk rfl rfl rfl rfl rfl ?_ ?_) ?_) | (refine QX.k 14 ?_; first | refine QX.one rfl (One.loadRatM hA tabOk rfl rfl rfl rfl rfl rfl ?_) ?_) | (refine QX.k 15 ?_; first | refine QX.one rfl (One.storeRatM hA tabOk _ rfl rfl rfl rfl rfl rfl rfl rfl (fun _ => rfl) ?_) ?_) | (refine QX.k 16 ?_; first | refine QX.one rfl (One.makeM hA tabOk encI 0 rfl rfl rfl rfl rfl rfl rfl ?_ ?_ ?_) ?_) | (refine QX.k 17 ?_; first | refine QX.one rfl (One.build0 tabOk rfl rfl) ?_) | (refine QX.k 18 ?_; first | refine QX.one rfl (One.fieldRat tabOk rfl rfl rfl rfl (by decide) rfl rfl) ?_)) <;> (first | refine QSg.pass ?_ | (((try simp only [zn]) <;> (try simp (disch := omega) only [zz hA, zb, zy, reduceCtorEq, Bool.false_eq_true, Int.reduceLT, Int.reduceLE, Int.reduceNeg]) <;> (try simp only [zw])) <;> omega)))
            | refine QX.raw ?_)
        | refine Thn.exit ?_
        | refine Blk.here ?_
        | refine Blk.other (by decide) ?_
        | refine ⟨.inl rfl, _, RetOk.ev tabOk (by conv => lhs; cbv), ?_⟩
        | fail)
      all_goals first | (exfalso; omega) | (refine rPV_then (by conv => lhs; cbv) ?_; rfl) | (refine rPV_then (by conv => lhs; cbv) ?_; refine congrArg (fun b => PV.c (IC.lit (Value.bool b))) ?_; ((try simp only [zn]) <;> (try simp (disch := omega) only [zz hA, zb, zy, reduceCtorEq, Bool.false_eq_true, Int.reduceLT, Int.reduceLE, Int.reduceNeg]) <;> (try simp only [zw])); done) | (refine rPV_then (by conv => lhs; cbv) ?_; refine congrArg (fun b => PV.c (IC.lit (Value.bool b))) ?_; ((try simp only [zn]) <;> (try simp (disch := omega) only [zz hA, zb, zy, reduceCtorEq, Bool.false_eq_true, Int.reduceLT, Int.reduceLE, Int.reduceNeg]) <;> (try simp only [zw])); omega) | fail
    · refine PureCalls.of Try.func11 rfl (by kernel_rfl) rfl ?_
      try first | refine AOLg.of [] ?_ | refine QSg.of [] ?_
      repeat' (first
        | (refine AWp.pass ?_; first
            | refine AWp.seq ?_
            | refine AWp.block ?_
            | refine AWp.skip ?_
            | refine AWp.regG [] (by conv => lhs; cbv) ?_
            | refine AWp.cond_t rfl ?_
            | refine AWp.cond_f rfl ?_
            | (refine AWp.cond rfl ?_ ?_ <;> intro hc <;> (try rw [hc]) <;> ((try simp only [zn] at hc) <;> (try simp (disch := omega) only [zz hA, zb, zy, reduceCtorEq, Bool.false_eq_true, Int.reduceLT, Int.reduceLE, Int.reduceNeg] at hc) <;> (try simp only [zw] at hc)) <;> (try (exfalso; omega)))
            | refine AWp.exit ?_
            | refine AWp.ret ⟨.inr rfl, _, RetOk.ev tabOk (by conv => lhs; cbv), ?_⟩
            | refine AWp.drawKG [] 0 rfl (by decide +kernel) (by conv => lhs; cbv) (by conv => lhs; cbv) ?_
            | refine AWp.drawKG [] 1 rfl (by decide +kernel) (by conv => lhs; cbv) (by conv => lhs; cbv) ?_
            | refine AWp.drawKG [] 2 rfl (by decide +kernel) (by conv => lhs; cbv) (by conv => lhs; cbv) ?_
            | refine AWp.drawKG [] 3 rfl (by decide +kernel) (by conv => lhs; cbv) (by conv => lhs; cbv) ?_
            | refine AWp.drawKG [] 4 rfl (by decide +kernel) (by conv => lhs; cbv) (by conv => lhs; cbv) ?_
            | refine AWp.drawKG [] 5 rfl (by decide +kernel) (by conv => lhs; cbv) (by conv => lhs; cbv) ?_
            | refine AWp.drawKG [] 6 rfl (by decide +kernel) (by conv => lhs; cbv) (by conv => lhs; cbv) ?_
            | refine AWp.drawKG [] 8 rfl (by decide +kernel) (by conv => lhs; cbv) (by conv => lhs; cbv) ?_)
        | (refine AOLg.pass ?_; refine AOLg.nx hA tabOk (by conv => lhs; cbv) ?_; first
            | refine NX.done ?_
            | refine NX.gt ?_
            | refine NX.gf ?_
            | (refine NX.gs ?_ ?_ <;> intro hc <;> rw [hc] <;> ((try simp only [zn] at hc) <;> (try simp (disch := omega) only [zz hA, zb, zy, reduceCtorEq, Bool.false_eq_true, Int.reduceLT, Int.reduceLE, Int.reduceNeg] at hc) <;> (try simp only [zw] at hc)) <;> (try (exfalso; omega)))
            | (refine NX.kC ?_; first | (with_reducible refine NX.call (shown5_c hA) ?_) | (with_reducible refine NX.call (hfew) ?_) | (with_reducible refine NX.call (hri) ?_) | (with_reducible refine NX.call (there_c hA V N M a) ?_) | ((first | refine NX.call (shown5_c hA) ?_ | refine NX.call (hfew) ?_ | refine NX.call (hri) ?_ | refine NX.call (there_c hA V N M a) ?_)) | fail)
            | (refine NX.kO ?_; (first | refine NX.callO (shown5_c hA) (by simp [allEq]) rfl ?_ | refine NX.callO (hfew) (by simp [allEq]) rfl ?_ | refine NX.callO (hri) (by simp [allEq]) rfl ?_ | refine NX.callO (there_c hA V N M a) (by simp [allEq]) rfl ?_))
            | ((first | (refine NX.k 1 ?_; first | refine NX.one (One.elemM hA tabOk rfl rfl rfl rfl ?_ ?_) ?_ | refine NX.one (One.elemOwnM hA tabOk rfl rfl rfl rfl rfl ?_ ?_) ?_) | (refine NX.k 2 ?_; first | refine NX.one (One.clipM tabOk rfl rfl rfl rfl rfl ?_ ?_) ?_ | refine NX.one (One.cut_hM hA tabOk rfl rfl rfl rfl ?_ ?_) ?_ | refine NX.one (One.cut_lM hA tabOk rfl rfl rfl rfl ?_ ?_) ?_ | refine NX.one (One.cut_lhM hA tabOk rfl rfl rfl rfl rfl ?_ ?_ ?_) ?_) | (refine NX.k 3 ?_; first | refine NX.one (One.quoM hA rfl rfl rfl ?_) ?_) | (refine NX.k 4 ?_; first | refine NX.one (One.remM hA rfl rfl rfl ?_) ?_) | (refine NX.k 5 ?_; first | refine NX.one (One.shrM hA rfl rfl rfl ?_) ?_) | (refine NX.k 6 ?_; first | refine NX.one (One.bitsM hA rfl rfl rfl rfl) ?_) | (refine NX.k 7 ?_; first | refine NX.one (One.concatM hA rfl rfl rfl ?_) ?_) | (refine NX.k 8 ?_; first | refine NX.one (One.eqBoolM hA tabOk rfl rfl rfl rfl rfl) ?_) | (refine NX.k 9 ?_; first | refine NX.one (One.neBoolM hA tabOk rfl rfl rfl rfl rfl) ?_) | (refine NX.k 10 ?_; first | refine NX.one (One.lenOwnM hA tabOk rfl rfl rfl rfl) ?_) | (refine NX.k 11 ?_; first | refine NX.one (One.appendM hA tabOk _ rfl rfl rfl rfl rfl rfl ?_ ?_) ?_ | refine NX.one (One.appendMM hA tabOk rfl rfl rfl rfl rfl ?_ ?_) ?_ | refine NX.one (One.appendOwnM hA tabOk _ rfl rfl rfl rfl rfl rfl rfl ?_ ?_) ?_ | refine NX.one (One.appendOwnMM hA tabOk rfl rfl rfl rfl rfl rfl ?_ ?_) ?_ | refine NX.one (One.appendOwn0 hA tabOk rfl rfl rfl rfl rfl rfl ?_ ?_) ?_) | (refine NX.k 13 ?_; first | refine NX.one (One.byteM hA tabOk rfl rfl rfl rfl rfl ?_ ?_) ?_) | (refine NX.k 14 ?_; first | refine NX.one (One.loadRatM hA tabOk rfl rfl rfl rfl rfl rfl ?_) ?_) | (refine NX.k 15 ?_; first | refine NX.one (One.storeRatM hA tabOk _ rfl rfl rfl rfl rfl rfl rfl rfl (fun _ => rfl) ?_) ?_) | (refine NX.k 16 ?_; first | refine NX.one (One.makeM hA tabOk encI 0 rfl rfl rfl rfl rfl rfl rfl ?_ ?_ ?_) ?_) | (refine NX.k 17 ?_; first | refine NX.one (One.build0 tabOk rfl rfl) ?_) | (refine NX.k 18 ?_; first | refine NX.one (One.fieldRat tabOk rfl rfl rfl rfl (by decide) rfl rfl) ?_)) <;> (first | refine AOLg.pass ?_ | (((try simp only [zn]) <;> (try simp (disch := omega) only [zz hA, zb, zy, reduceCtorEq, Bool.false_eq_true, Int.reduceLT, Int.reduceLE, Int.reduceNeg]) <;> (try simp only [zw])) <;> omega)))
            | refine NX.raw ?_)
        | (refine QSg.pass ?_; refine QSg.nx hA tabOk (by conv => lhs; cbv) ?_; first
            | refine QX.done ?_
            | refine QX.gt ?_
            | refine QX.gf ?_
            | (refine QX.gs ?_ ?_ <;> intro hc <;> rw [hc] <;> ((try simp only [zn] at hc) <;> (try simp (disch := omega) only [zz hA, zb, zy, reduceCtorEq, Bool.false_eq_true, Int.reduceLT, Int.reduceLE, Int.reduceNeg] at hc) <;> (try simp only [zw] at hc)) <;> (try (exfalso; omega)))
            | (refine QX.kC ?_; first | (with_reducible refine QX.call (shown5_c hA) rfl ?_) | (with_reducible refine QX.call (hfew) rfl ?_) | (with_reducible refine QX.call (hri) rfl ?_) | (with_reducible refine QX.call (there_c hA V N M a) rfl ?_) | ((first | refine QX.call (shown5_c hA) rfl ?_ | refine QX.call (hfew) rfl ?_ | refine QX.call (hri) rfl ?_ | refine QX.call (there_c hA V N M a) rfl ?_)) | fail)
            | (refine QX.kO ?_; (first | refine QX.callO (shown5_c hA) rfl (by simp [allEq]) rfl ?_ | refine QX.callO (hfew) rfl (by simp [allEq]) rfl ?_ | refine QX.callO (hri) rfl (by simp [allEq]) rfl ?_ | refine QX.callO (there_c hA V N M a) rfl (by simp [allEq]) rfl ?_))
            | ((first | (refine QX.k 1 ?_; first | refine QX.one rfl (One.elemM hA tabOk rfl rfl rfl rfl ?_ ?_) ?_ | refine QX.one rfl (One.elemOwnM hA tabOk rfl rfl rfl rfl rfl ?_ ?_) ?_) | (refine QX.k 2 ?_; first | refine QX.one rfl (One.clipM tabOk rfl rfl rfl rfl rfl ?_ ?_) ?_ | refine QX.one rfl (One.cut_hM hA tabOk rfl rfl rfl rfl ?_ ?_) ?_ | refine QX.one rfl (One.cut_lM hA tabOk rfl rfl rfl rfl ?_ ?_) ?_ | refine QX.one rfl (One.cut_lhM hA tabOk rfl rfl rfl rfl rfl ?_ ?_ ?_) ?_) | (refine QX.k 3 ?_; first | refine QX.one rfl (One.quoM hA rfl rfl rfl ?_) ?_) | (refine QX.k 4 ?_; first | refine QX.one rfl (One.remM hA rfl rfl rfl ?_) ?_) | (refine QX.k 5 ?_; first | refine QX.one rfl (One.shrM hA rfl rfl rfl ?_) ?_) | (refine QX.k 6 ?_; first | refine QX.one rfl (One.bitsM hA rfl rfl rfl rfl) ?_) | (refine QX.k 7 ?_; first | refine QX.one rfl (One.concatM hA rfl rfl rfl ?_) ?_) | (refine QX.k 8 ?_; first | refine QX.one rfl (One.eqBoolM hA tabOk rfl rfl rfl rfl rfl) ?_) | (refine QX.k 9 ?_; first | refine QX.one rfl (One.neBoolM hA tabOk rfl rfl rfl rfl rfl) ?_) | (refine QX.k 10 ?_; first | refine QX.one rfl (One.lenOwnM hA tabOk rfl rfl rfl rfl) ?_) | (refine QX.k 11 ?_; first | refine QX.one rfl (One.appendM hA tabOk _ rfl rfl rfl rfl rfl rfl ?_ ?_) ?_ | refine QX.one rfl (One.appendMM hA tabOk rfl rfl rfl rfl rfl ?_ ?_) ?_ | refine QX.one rfl (One.appendOwnM hA tabOk _ rfl rfl rfl rfl rfl rfl rfl ?_ ?_) ?_ | refine QX.one rfl (One.appendOwnMM hA tabOk rfl rfl rfl rfl rfl rfl ?_ ?_) ?_ | refine QX.one rfl (One.appendOwn0 hA tabOk rfl rfl rfl rfl rfl rfl ?_ ?_) ?_) | (refine QX.k 13 ?_; first | refine QX.one rfl (One.byteM hA tabOk rfl rfl rfl rfl rfl ?_ ?_) ?_) | (refine QX.k 14 ?_; first | refine QX.one rfl (One.loadRatM hA tabOk rfl rfl rfl rfl rfl rfl ?_) ?_) | (refine QX.k 15 ?_; first | refine QX.one rfl (One.storeRatM hA tabOk _ rfl rfl rfl rfl rfl rfl rfl rfl (fun _ => rfl) ?_) ?_) | (refine QX.k 16 ?_; first | refine QX.one rfl (One.makeM hA tabOk encI 0 rfl rfl rfl rfl rfl rfl rfl ?_ ?_ ?_) ?_) | (refine QX.k 17 ?_; first | refine QX.one rfl (One.build0 tabOk rfl rfl) ?_) | (refine QX.k 18 ?_; first | refine QX.one rfl (One.fieldRat tabOk rfl rfl rfl rfl (by decide) rfl rfl) ?_)) <;> (first | refine QSg.pass ?_ | (((try simp only [zn]) <;> (try simp (disch := omega) only [zz hA, zb, zy, reduceCtorEq, Bool.false_eq_true, Int.reduceLT, Int.reduceLE, Int.reduceNeg]) <;> (try simp only [zw])) <;> omega)))
            | refine QX.raw ?_)
        | refine Thn.exit ?_
        | refine Blk.here ?_
        | refine Blk.other (by decide) ?_
        | refine ⟨.inl rfl, _, RetOk.ev tabOk (by conv => lhs; cbv), ?_⟩
        | fail)
      all_goals first
        | (refine rPV_then (by conv => lhs; cbv) ?_
           simp [hA, real, hid]; done)
        | (exfalso
           simp_all [hid, real] <;> omega)
  · rw [show decide (V.length + N.length + M.length ≤ 500 ∧ ranks.length ≤ 200) = false from decide_eq_false hf] at hfew
    refine PureCalls.of Try.func11 rfl (by kernel_rfl) rfl ?_
    try first | refine AOLg.of [] ?_ | refine QSg.of [] ?_
    repeat' (first
      | (refine AWp.pass ?_; first
          | refine AWp.seq ?_
          | refine AWp.block ?_
          | refine AWp.skip ?_
          | refine AWp.regG [] (by conv => lhs; cbv) ?_
          | refine AWp.cond_t rfl ?_
          | refine AWp.cond_f rfl ?_
          | (refine AWp.cond rfl ?_ ?_ <;> intro hc <;> (try rw [hc]) <;> ((try simp only [zn] at hc) <;> (try simp (disch := omega) only [zz hA, zb, zy, reduceCtorEq, Bool.false_eq_true, Int.reduceLT, Int.reduceLE, Int.reduceNeg] at hc) <;> (try simp only [zw] at hc)) <;> (try (exfalso; omega)))
          | refine AWp.exit ?_
          | refine AWp.ret ⟨.inr rfl, _, RetOk.ev tabOk (by conv => lhs; cbv), ?_⟩
          | refine AWp.drawKG [] 0 rfl (by decide +kernel) (by conv => lhs; cbv) (by conv => lhs; cbv) ?_
          | refine AWp.drawKG [] 1 rfl (by decide +kernel) (by conv => lhs; cbv) (by conv => lhs; cbv) ?_
          | refine AWp.drawKG [] 2 rfl (by decide +kernel) (by conv => lhs; cbv) (by conv => lhs; cbv) ?_
          | refine AWp.drawKG [] 3 rfl (by decide +kernel) (by conv => lhs; cbv) (by conv => lhs; cbv) ?_
          | refine AWp.drawKG [] 4 rfl (by decide +kernel) (by conv => lhs; cbv) (by conv => lhs; cbv) ?_
          | refine AWp.drawKG [] 5 rfl (by decide +kernel) (by conv => lhs; cbv) (by conv => lhs; cbv) ?_
          | refine AWp.drawKG [] 6 rfl (by decide +kernel) (by conv => lhs; cbv) (by conv => lhs; cbv) ?_
          | refine AWp.drawKG [] 8 rfl (by decide +kernel) (by conv => lhs; cbv) (by conv => lhs; cbv) ?_)
      | (refine AOLg.pass ?_; refine AOLg.nx hA tabOk (by conv => lhs; cbv) ?_; first
          | refine NX.done ?_
          | refine NX.gt ?_
          | refine NX.gf ?_
          | (refine NX.gs ?_ ?_ <;> intro hc <;> rw [hc] <;> ((try simp only [zn] at hc) <;> (try simp (disch := omega) only [zz hA, zb, zy, reduceCtorEq, Bool.false_eq_true, Int.reduceLT, Int.reduceLE, Int.reduceNeg] at hc) <;> (try simp only [zw] at hc)) <;> (try (exfalso; omega)))
          | (refine NX.kC ?_; first | (with_reducible refine NX.call (shown5_c hA) ?_) | (with_reducible refine NX.call (hfew) ?_) | ((first | refine NX.call (shown5_c hA) ?_ | refine NX.call (hfew) ?_)) | fail)
          | (refine NX.kO ?_; (first | refine NX.callO (shown5_c hA) (by simp [allEq]) rfl ?_ | refine NX.callO (hfew) (by simp [allEq]) rfl ?_))
          | ((first | (refine NX.k 1 ?_; first | refine NX.one (One.elemM hA tabOk rfl rfl rfl rfl ?_ ?_) ?_ | refine NX.one (One.elemOwnM hA tabOk rfl rfl rfl rfl rfl ?_ ?_) ?_) | (refine NX.k 2 ?_; first | refine NX.one (One.clipM tabOk rfl rfl rfl rfl rfl ?_ ?_) ?_ | refine NX.one (One.cut_hM hA tabOk rfl rfl rfl rfl ?_ ?_) ?_ | refine NX.one (One.cut_lM hA tabOk rfl rfl rfl rfl ?_ ?_) ?_ | refine NX.one (One.cut_lhM hA tabOk rfl rfl rfl rfl rfl ?_ ?_ ?_) ?_) | (refine NX.k 3 ?_; first | refine NX.one (One.quoM hA rfl rfl rfl ?_) ?_) | (refine NX.k 4 ?_; first | refine NX.one (One.remM hA rfl rfl rfl ?_) ?_) | (refine NX.k 5 ?_; first | refine NX.one (One.shrM hA rfl rfl rfl ?_) ?_) | (refine NX.k 6 ?_; first | refine NX.one (One.bitsM hA rfl rfl rfl rfl) ?_) | (refine NX.k 7 ?_; first | refine NX.one (One.concatM hA rfl rfl rfl ?_) ?_) | (refine NX.k 8 ?_; first | refine NX.one (One.eqBoolM hA tabOk rfl rfl rfl rfl rfl) ?_) | (refine NX.k 9 ?_; first | refine NX.one (One.neBoolM hA tabOk rfl rfl rfl rfl rfl) ?_) | (refine NX.k 10 ?_; first | refine NX.one (One.lenOwnM hA tabOk rfl rfl rfl rfl) ?_) | (refine NX.k 11 ?_; first | refine NX.one (One.appendM hA tabOk _ rfl rfl rfl rfl rfl rfl ?_ ?_) ?_ | refine NX.one (One.appendMM hA tabOk rfl rfl rfl rfl rfl ?_ ?_) ?_ | refine NX.one (One.appendOwnM hA tabOk _ rfl rfl rfl rfl rfl rfl rfl ?_ ?_) ?_ | refine NX.one (One.appendOwnMM hA tabOk rfl rfl rfl rfl rfl rfl ?_ ?_) ?_ | refine NX.one (One.appendOwn0 hA tabOk rfl rfl rfl rfl rfl rfl ?_ ?_) ?_) | (refine NX.k 13 ?_; first | refine NX.one (One.byteM hA tabOk rfl rfl rfl rfl rfl ?_ ?_) ?_) | (refine NX.k 14 ?_; first | refine NX.one (One.loadRatM hA tabOk rfl rfl rfl rfl rfl rfl ?_) ?_) | (refine NX.k 15 ?_; first | refine NX.one (One.storeRatM hA tabOk _ rfl rfl rfl rfl rfl rfl rfl rfl (fun _ => rfl) ?_) ?_) | (refine NX.k 16 ?_; first | refine NX.one (One.makeM hA tabOk encI 0 rfl rfl rfl rfl rfl rfl rfl ?_ ?_ ?_) ?_) | (refine NX.k 17 ?_; first | refine NX.one (One.build0 tabOk rfl rfl) ?_) | (refine NX.k 18 ?_; first | refine NX.one (One.fieldRat tabOk rfl rfl rfl rfl (by decide) rfl rfl) ?_)) <;> (first | refine AOLg.pass ?_ | (((try simp only [zn]) <;> (try simp (disch := omega) only [zz hA, zb, zy, reduceCtorEq, Bool.false_eq_true, Int.reduceLT, Int.reduceLE, Int.reduceNeg]) <;> (try simp only [zw])) <;> omega)))
          | refine NX.raw ?_)
      | (refine QSg.pass ?_; refine QSg.nx hA tabOk (by conv => lhs; cbv) ?_; first
          | refine QX.done ?_
          | refine QX.gt ?_
          | refine QX.gf ?_
          | (refine QX.gs ?_ ?_ <;> intro hc <;> rw [hc] <;> ((try simp only [zn] at hc) <;> (try simp (disch := omega) only [zz hA, zb, zy, reduceCtorEq, Bool.false_eq_true, Int.reduceLT, Int.reduceLE, Int.reduceNeg] at hc) <;> (try simp only [zw] at hc)) <;> (try (exfalso; omega)))
          | (refine QX.kC ?_; first | (with_reducible refine QX.call (shown5_c hA) rfl ?_) | (with_reducible refine QX.call (hfew) rfl ?_) | ((first | refine QX.call (shown5_c hA) rfl ?_ | refine QX.call (hfew) rfl ?_)) | fail)
          | (refine QX.kO ?_; (first | refine QX.callO (shown5_c hA) rfl (by simp [allEq]) rfl ?_ | refine QX.callO (hfew) rfl (by simp [allEq]) rfl ?_))
          | ((first | (refine QX.k 1 ?_; first | refine QX.one rfl (One.elemM hA tabOk rfl rfl rfl rfl ?_ ?_) ?_ | refine QX.one rfl (One.elemOwnM hA tabOk rfl rfl rfl rfl rfl ?_ ?_) ?_) | (refine QX.k 2 ?_; first | refine QX.one rfl (One.clipM tabOk rfl rfl rfl rfl rfl ?_ ?_) ?_ | refine QX.one rfl (One.cut_hM hA tabOk rfl rfl rfl rfl ?_ ?_) ?_ | refine QX.one rfl (One.cut_lM hA tabOk rfl rfl rfl rfl ?_ ?_) ?_ | refine QX.one rfl (One.cut_lhM hA tabOk rfl rfl rfl rfl rfl ?_ ?_ ?_) ?_) | (refine QX.k 3 ?_; first | refine QX.one rfl (One.quoM hA rfl rfl rfl ?_) ?_) | (refine QX.k 4 ?_; first | refine QX.one rfl (One.remM hA rfl rfl rfl ?_) ?_) | (refine QX.k 5 ?_; first | refine QX.one rfl (One.shrM hA rfl rfl rfl ?_) ?_) | (refine QX.k 6 ?_; first | refine QX.one rfl (One.bitsM hA rfl rfl rfl rfl) ?_) | (refine QX.k 7 ?_; first | refine QX.one rfl (One.concatM hA rfl rfl rfl ?_) ?_) | (refine QX.k 8 ?_; first | refine QX.one rfl (One.eqBoolM hA tabOk rfl rfl rfl rfl rfl) ?_) | (refine QX.k 9 ?_; first | refine QX.one rfl (One.neBoolM hA tabOk rfl rfl rfl rfl rfl) ?_) | (refine QX.k 10 ?_; first | refine QX.one rfl (One.lenOwnM hA tabOk rfl rfl rfl rfl) ?_) | (refine QX.k 11 ?_; first | refine QX.one rfl (One.appendM hA tabOk _ rfl rfl rfl rfl rfl rfl ?_ ?_) ?_ | refine QX.one rfl (One.appendMM hA tabOk rfl rfl rfl rfl rfl ?_ ?_) ?_ | refine QX.one rfl (One.appendOwnM hA tabOk _ rfl rfl rfl rfl rfl rfl rfl ?_ ?_) ?_ | refine QX.one rfl (One.appendOwnMM hA tabOk rfl rfl rfl rfl rfl rfl ?_ ?_) ?_ | refine QX.one rfl (One.appendOwn0 hA tabOk rfl rfl rfl rfl rfl rfl ?_ ?_) ?_) | (refine QX.k 13 ?_; first | refine QX.one rfl (One.byteM hA tabOk rfl rfl rfl rfl rfl ?_ ?_) ?_) | (refine QX.k 14 ?_; first | refine QX.one rfl (One.loadRatM hA tabOk rfl rfl rfl rfl rfl rfl ?_) ?_) | (refine QX.k 15 ?_; first | refine QX.one rfl (One.storeRatM hA tabOk _ rfl rfl rfl rfl rfl rfl rfl rfl (fun _ => rfl) ?_) ?_) | (refine QX.k 16 ?_; first | refine QX.one rfl (One.makeM hA tabOk encI 0 rfl rfl rfl rfl rfl rfl rfl ?_ ?_ ?_) ?_) | (refine QX.k 17 ?_; first | refine QX.one rfl (One.build0 tabOk rfl rfl) ?_) | (refine QX.k 18 ?_; first | refine QX.one rfl (One.fieldRat tabOk rfl rfl rfl rfl (by decide) rfl rfl) ?_)) <;> (first | refine QSg.pass ?_ | (((try simp only [zn]) <;> (try simp (disch := omega) only [zz hA, zb, zy, reduceCtorEq, Bool.false_eq_true, Int.reduceLT, Int.reduceLE, Int.reduceNeg]) <;> (try simp only [zw])) <;> omega)))
          | refine QX.raw ?_)
      | refine Thn.exit ?_
      | refine Blk.here ?_
      | refine Blk.other (by decide) ?_
      | refine ⟨.inl rfl, _, RetOk.ev tabOk (by conv => lhs; cbv), ?_⟩
      | fail)
    all_goals
      refine rPV_then (by conv => lhs; cbv) ?_
      simp [hA, real, hid]
set_option maxHeartbeats 4000000 in
theorem back_law (V : List Int) (N : List (Int × Int)) (M ranks : List Int) (a b : Int) (hV : V.length ≤ 140737488351232) (hN : N.length ≤ 140737488351232) (hM : M.length ≤ 140737488351232) (hr : ranks.length ≤ 140737488351232) : PureCalls Try.prog 12 [.agg [.sl 1 false (hid A (List.map encI V)), .sl 2 false (hid A (List.map encN N)), .sl 1 false (hid A (List.map encI M)), .sl 1 false (hid A (List.map encI ranks)), .lit (.int .i64 a), .lit (.int .i64 b)]] (BP true) := by
  have hfew := ufew_c hA V N M ranks hV hN hM
  by_cases hf : V.length + N.length + M.length ≤ 500 ∧ ranks.length ≤ 200
  · obtain ⟨hf1, hf2⟩ := hf
    rw [show decide (V.length + N.length + M.length ≤ 500 ∧ ranks.length ≤ 200) = true from decide_eq_true (by omega)] at hfew
    have hri := urightP hA V N M ranks (by omega) (by omega) (by omega) (by omega)
    by_cases hg : (rightB V ranks && (⟨V, N, M⟩ : Cl).right) = true ∧ (0 ≤ a ∧ a < V.length) ∧ (0 ≤ b ∧ b < V.length)
    · obtain ⟨g1, ga, gb⟩ := hg
      rw [g1] at hri
      have hR : RightU V ranks := (rightB_iff _ _).1 (by revert g1; cases rightB V ranks <;> simp)
      have hX := add_right hR
      have hlx : (V ++ [(V.length : Int)]).length = V.length + 1 := by simp
      have hm := mark_n hA V N M (by omega)
      have hadd := add_c hA V N (M ++ [(N.length : Int)]) (by omega) (by omega)
      have hj := join_c hA _ (N ++ [(-1, 0)]) (M ++ [(N.length : Int)]) ranks hX a b (by omega) (by omega) (by omega) (by simp; omega) (by omega)
      obtain ⟨u1, u2, u3⟩ := back_undo hR N ga.1 ga.2 gb.1 gb.2
      have hl1 := joinV_len (V ++ [(V.length : Int)]) ranks a b
      have hl2 := joinN_len (V ++ [(V.length : Int)]) ranks (N ++ [(-1, 0)]) a b
      simp only [List.length_append, List.length_cons, List.length_nil] at hl2
      have hb := back_n hA V _ N _ M u1 u2 u3 (by omega) (by omega) (by omega)
      have hs := usame_c hA V V N N M M (by omega) (by omega) (by omega) (by omega) (by omega) (by omega)
      rw [show decide (V = V ∧ N = N ∧ M = M) = true by simp] at hs
      have hfu := firsts_c hA V N M (by omega)
      have hlen2 := thoseM_len V.length fun k => decide (V.getD k.toNat default = k)
      generalize (thoseM V.length fun k => decide (V.getD k.toNat default = k)) = F at *
      have hin := uInts_c hA F F (by omega) (by omega)
      rw [decide_eq_true rfl] at hin
      generalize joinN (V ++ [(V.length : Int)]) ranks (N ++ [(-1, 0)]) a b = N3 at *
      generalize joinV (V ++ [(V.length : Int)]) ranks a b = X3 at *
      generalize V ++ [(V.length : Int)] = X2 at *
      generalize M ++ [(N.length : Int)] = M2 at *
      generalize N ++ [(-1, 0)] = N2 at *
      refine PureCalls.of Try.func12 rfl (by kernel_rfl) rfl ?_
      try first | refine AOLg.of [] ?_ | refine QSg.of [] ?_
      repeat' (first
        | (refine AWp.pass ?_; first
            | refine AWp.seq ?_
            | refine AWp.block ?_
            | refine AWp.skip ?_
            | refine AWp.regG [] (by conv => lhs; cbv) ?_
            | refine AWp.cond_t rfl ?_
            | refine AWp.cond_f rfl ?_
            | (refine AWp.cond rfl ?_ ?_ <;> intro hc <;> (try rw [hc]) <;> ((try simp only [zn] at hc) <;> (try simp (disch := omega) only [zz hA, zb, zy, reduceCtorEq, Bool.false_eq_true, Int.reduceLT, Int.reduceLE, Int.reduceNeg] at hc) <;> (try simp only [zw] at hc)) <;> (try (exfalso; omega)))
            | refine AWp.exit ?_
            | refine AWp.ret ⟨.inr rfl, _, RetOk.ev tabOk (by conv => lhs; cbv), ?_⟩
            | refine AWp.drawKG [] 0 rfl (by decide +kernel) (by conv => lhs; cbv) (by conv => lhs; cbv) ?_
            | refine AWp.drawKG [] 1 rfl (by decide +kernel) (by conv => lhs; cbv) (by conv => lhs; cbv) ?_
            | refine AWp.drawKG [] 2 rfl (by decide +kernel) (by conv => lhs; cbv) (by conv => lhs; cbv) ?_
            | refine AWp.drawKG [] 3 rfl (by decide +kernel) (by conv => lhs; cbv) (by conv => lhs; cbv) ?_
            | refine AWp.drawKG [] 4 rfl (by decide +kernel) (by conv => lhs; cbv) (by conv => lhs; cbv) ?_
            | refine AWp.drawKG [] 5 rfl (by decide +kernel) (by conv => lhs; cbv) (by conv => lhs; cbv) ?_
            | refine AWp.drawKG [] 6 rfl (by decide +kernel) (by conv => lhs; cbv) (by conv => lhs; cbv) ?_
            | refine AWp.drawKG [] 8 rfl (by decide +kernel) (by conv => lhs; cbv) (by conv => lhs; cbv) ?_)
        | (refine AOLg.pass ?_; refine AOLg.nx hA tabOk (by conv => lhs; cbv) ?_; first
            | refine NX.done ?_
            | refine NX.gt ?_
            | refine NX.gf ?_
            | (refine NX.gs ?_ ?_ <;> intro hc <;> rw [hc] <;> ((try simp only [zn] at hc) <;> (try simp (disch := omega) only [zz hA, zb, zy, reduceCtorEq, Bool.false_eq_true, Int.reduceLT, Int.reduceLE, Int.reduceNeg] at hc) <;> (try simp only [zw] at hc)) <;> (try (exfalso; omega)))
            | (refine NX.kC ?_; first | (with_reducible refine NX.call (shown5_c hA) ?_) | (with_reducible refine NX.call (hfew) ?_) | (with_reducible refine NX.call (hri) ?_) | (with_reducible refine NX.call (there_c hA _ _ _ _) ?_) | (with_reducible refine NX.call (hm) ?_) | (with_reducible refine NX.call (hadd) ?_) | (with_reducible refine NX.call (hj) ?_) | (with_reducible refine NX.call (hb) ?_) | (with_reducible refine NX.call (hs) ?_) | (with_reducible refine NX.call (hfu) ?_) | (with_reducible refine NX.call (hin) ?_) | ((first | refine NX.call (shown5_c hA) ?_ | refine NX.call (hfew) ?_ | refine NX.call (hri) ?_ | refine NX.call (there_c hA _ _ _ _) ?_ | refine NX.call (hm) ?_ | refine NX.call (hadd) ?_ | refine NX.call (hj) ?_ | refine NX.call (hb) ?_ | refine NX.call (hs) ?_ | refine NX.call (hfu) ?_ | refine NX.call (hin) ?_)) | fail)
            | (refine NX.kO ?_; (first | refine NX.callO (shown5_c hA) (by simp [allEq]) rfl ?_ | refine NX.callO (hfew) (by simp [allEq]) rfl ?_ | refine NX.callO (hri) (by simp [allEq]) rfl ?_ | refine NX.callO (there_c hA _ _ _ _) (by simp [allEq]) rfl ?_ | refine NX.callO (hm) (by simp [allEq]) rfl ?_ | refine NX.callO (hadd) (by simp [allEq]) rfl ?_ | refine NX.callO (hj) (by simp [allEq]) rfl ?_ | refine NX.callO (hb) (by simp [allEq]) rfl ?_ | refine NX.callO (hs) (by simp [allEq]) rfl ?_ | refine NX.callO (hfu) (by simp [allEq]) rfl ?_ | refine NX.callO (hin) (by simp [allEq]) rfl ?_))
            | ((first | (refine NX.k 1 ?_; first | refine NX.one (One.elemM hA tabOk rfl rfl rfl rfl ?_ ?_) ?_ | refine NX.one (One.elemOwnM hA tabOk rfl rfl rfl rfl rfl ?_ ?_) ?_) | (refine NX.k 2 ?_; first | refine NX.one (One.clipM tabOk rfl rfl rfl rfl rfl ?_ ?_) ?_ | refine NX.one (One.cut_hM hA tabOk rfl rfl rfl rfl ?_ ?_) ?_ | refine NX.one (One.cut_lM hA tabOk rfl rfl rfl rfl ?_ ?_) ?_ | refine NX.one (One.cut_lhM hA tabOk rfl rfl rfl rfl rfl ?_ ?_ ?_) ?_) | (refine NX.k 3 ?_; first | refine NX.one (One.quoM hA rfl rfl rfl ?_) ?_) | (refine NX.k 4 ?_; first | refine NX.one (One.remM hA rfl rfl rfl ?_) ?_) | (refine NX.k 5 ?_; first | refine NX.one (One.shrM hA rfl rfl rfl ?_) ?_) | (refine NX.k 6 ?_; first | refine NX.one (One.bitsM hA rfl rfl rfl rfl) ?_) | (refine NX.k 7 ?_; first | refine NX.one (One.concatM hA rfl rfl rfl ?_) ?_) | (refine NX.k 8 ?_; first | refine NX.one (One.eqBoolM hA tabOk rfl rfl rfl rfl rfl) ?_) | (refine NX.k 9 ?_; first | refine NX.one (One.neBoolM hA tabOk rfl rfl rfl rfl rfl) ?_) | (refine NX.k 10 ?_; first | refine NX.one (One.lenOwnM hA tabOk rfl rfl rfl rfl) ?_) | (refine NX.k 11 ?_; first | refine NX.one (One.appendM hA tabOk _ rfl rfl rfl rfl rfl rfl ?_ ?_) ?_ | refine NX.one (One.appendMM hA tabOk rfl rfl rfl rfl rfl ?_ ?_) ?_ | refine NX.one (One.appendOwnM hA tabOk _ rfl rfl rfl rfl rfl rfl rfl ?_ ?_) ?_ | refine NX.one (One.appendOwnMM hA tabOk rfl rfl rfl rfl rfl rfl ?_ ?_) ?_ | refine NX.one (One.appendOwn0 hA tabOk rfl rfl rfl rfl rfl rfl ?_ ?_) ?_) | (refine NX.k 13 ?_; first | refine NX.one (One.byteM hA tabOk rfl rfl rfl rfl rfl ?_ ?_) ?_) | (refine NX.k 14 ?_; first | refine NX.one (One.loadRatM hA tabOk rfl rfl rfl rfl rfl rfl ?_) ?_) | (refine NX.k 15 ?_; first | refine NX.one (One.storeRatM hA tabOk _ rfl rfl rfl rfl rfl rfl rfl rfl (fun _ => rfl) ?_) ?_) | (refine NX.k 16 ?_; first | refine NX.one (One.makeM hA tabOk encI 0 rfl rfl rfl rfl rfl rfl rfl ?_ ?_ ?_) ?_) | (refine NX.k 17 ?_; first | refine NX.one (One.build0 tabOk rfl rfl) ?_) | (refine NX.k 18 ?_; first | refine NX.one (One.fieldRat tabOk rfl rfl rfl rfl (by decide) rfl rfl) ?_)) <;> (first | refine AOLg.pass ?_ | (((try simp only [zn]) <;> (try simp (disch := omega) only [zz hA, zb, zy, reduceCtorEq, Bool.false_eq_true, Int.reduceLT, Int.reduceLE, Int.reduceNeg]) <;> (try simp only [zw])) <;> omega)))
            | refine NX.raw ?_)
        | (refine QSg.pass ?_; refine QSg.nx hA tabOk (by conv => lhs; cbv) ?_; first
            | refine QX.done ?_
            | refine QX.gt ?_
            | refine QX.gf ?_
            | (refine QX.gs ?_ ?_ <;> intro hc <;> rw [hc] <;> ((try simp only [zn] at hc) <;> (try simp (disch := omega) only [zz hA, zb, zy, reduceCtorEq, Bool.false_eq_true, Int.reduceLT, Int.reduceLE, Int.reduceNeg] at hc) <;> (try simp only [zw] at hc)) <;> (try (exfalso; omega)))
            | (refine QX.kC ?_; first | (with_reducible refine QX.call (shown5_c hA) rfl ?_) | (with_reducible refine QX.call (hfew) rfl ?_) | (with_reducible refine QX.call (hri) rfl ?_) | (with_reducible refine QX.call (there_c hA _ _ _ _) rfl ?_) | (with_reducible refine QX.call (hm) rfl ?_) | (with_reducible refine QX.call (hadd) rfl ?_) | (with_reducible refine QX.call (hj) rfl ?_) | (with_reducible refine QX.call (hb) rfl ?_) | (with_reducible refine QX.call (hs) rfl ?_) | (with_reducible refine QX.call (hfu) rfl ?_) | (with_reducible refine QX.call (hin) rfl ?_) | ((first | refine QX.call (shown5_c hA) rfl ?_ | refine QX.call (hfew) rfl ?_ | refine QX.call (hri) rfl ?_ | refine QX.call (there_c hA _ _ _ _) rfl ?_ | refine QX.call (hm) rfl ?_ | refine QX.call (hadd) rfl ?_ | refine QX.call (hj) rfl ?_ | refine QX.call (hb) rfl ?_ | refine QX.call (hs) rfl ?_ | refine QX.call (hfu) rfl ?_ | refine QX.call (hin) rfl ?_)) | fail)
            | (refine QX.kO ?_; (first | refine QX.callO (shown5_c hA) rfl (by simp [allEq]) rfl ?_ | refine QX.callO (hfew) rfl (by simp [allEq]) rfl ?_ | refine QX.callO (hri) rfl (by simp [allEq]) rfl ?_ | refine QX.callO (there_c hA _ _ _ _) rfl (by simp [allEq]) rfl ?_ | refine QX.callO (hm) rfl (by simp [allEq]) rfl ?_ | refine QX.callO (hadd) rfl (by simp [allEq]) rfl ?_ | refine QX.callO (hj) rfl (by simp [allEq]) rfl ?_ | refine QX.callO (hb) rfl (by simp [allEq]) rfl ?_ | refine QX.callO (hs) rfl (by simp [allEq]) rfl ?_ | refine QX.callO (hfu) rfl (by simp [allEq]) rfl ?_ | refine QX.callO (hin) rfl (by simp [allEq]) rfl ?_))
            | ((first | (refine QX.k 1 ?_; first | refine QX.one rfl (One.elemM hA tabOk rfl rfl rfl rfl ?_ ?_) ?_ | refine QX.one rfl (One.elemOwnM hA tabOk rfl rfl rfl rfl rfl ?_ ?_) ?_) | (refine QX.k 2 ?_; first | refine QX.one rfl (One.clipM tabOk rfl rfl rfl rfl rfl ?_ ?_) ?_ | refine QX.one rfl (One.cut_hM hA tabOk rfl rfl rfl rfl ?_ ?_) ?_ | refine QX.one rfl (One.cut_lM hA tabOk rfl rfl rfl rfl ?_ ?_) ?_ | refine QX.one rfl (One.cut_lhM hA tabOk rfl rfl rfl rfl rfl ?_ ?_ ?_) ?_) | (refine QX.k 3 ?_; first | refine QX.one rfl (One.quoM hA rfl rfl rfl ?_) ?_) | (refine QX.k 4 ?_; first | refine QX.one rfl (One.remM hA rfl rfl rfl ?_) ?_) | (refine QX.k 5 ?_; first | refine QX.one rfl (One.shrM hA rfl rfl rfl ?_) ?_) | (refine QX.k 6 ?_; first | refine QX.one rfl (One.bitsM hA rfl rfl rfl rfl) ?_) | (refine QX.k 7 ?_; first | refine QX.one rfl (One.concatM hA rfl rfl rfl ?_) ?_) | (refine QX.k 8 ?_; first | refine QX.one rfl (One.eqBoolM hA tabOk rfl rfl rfl rfl rfl) ?_) | (refine QX.k 9 ?_; first | refine QX.one rfl (One.neBoolM hA tabOk rfl rfl rfl rfl rfl) ?_) | (refine QX.k 10 ?_; first | refine QX.one rfl (One.lenOwnM hA tabOk rfl rfl rfl rfl) ?_) | (refine QX.k 11 ?_; first | refine QX.one rfl (One.appendM hA tabOk _ rfl rfl rfl rfl rfl rfl ?_ ?_) ?_ | refine QX.one rfl (One.appendMM hA tabOk rfl rfl rfl rfl rfl ?_ ?_) ?_ | refine QX.one rfl (One.appendOwnM hA tabOk _ rfl rfl rfl rfl rfl rfl rfl ?_ ?_) ?_ | refine QX.one rfl (One.appendOwnMM hA tabOk rfl rfl rfl rfl rfl rfl ?_ ?_) ?_ | refine QX.one rfl (One.appendOwn0 hA tabOk rfl rfl rfl rfl rfl rfl ?_ ?_) ?_) | (refine QX.k 13 ?_; first | refine QX.one rfl (One.byteM hA tabOk rfl rfl rfl rfl rfl ?_ ?_) ?_) | (refine QX.k 14 ?_; first | refine QX.one rfl (One.loadRatM hA tabOk rfl rfl rfl rfl rfl rfl ?_) ?_) | (refine QX.k 15 ?_; first | refine QX.one rfl (One.storeRatM hA tabOk _ rfl rfl rfl rfl rfl rfl rfl rfl (fun _ => rfl) ?_) ?_) | (refine QX.k 16 ?_; first | refine QX.one rfl (One.makeM hA tabOk encI 0 rfl rfl rfl rfl rfl rfl rfl ?_ ?_ ?_) ?_) | (refine QX.k 17 ?_; first | refine QX.one rfl (One.build0 tabOk rfl rfl) ?_) | (refine QX.k 18 ?_; first | refine QX.one rfl (One.fieldRat tabOk rfl rfl rfl rfl (by decide) rfl rfl) ?_)) <;> (first | refine QSg.pass ?_ | (((try simp only [zn]) <;> (try simp (disch := omega) only [zz hA, zb, zy, reduceCtorEq, Bool.false_eq_true, Int.reduceLT, Int.reduceLE, Int.reduceNeg]) <;> (try simp only [zw])) <;> omega)))
            | refine QX.raw ?_)
        | refine Thn.exit ?_
        | refine Blk.here ?_
        | refine Blk.other (by decide) ?_
        | refine ⟨.inl rfl, _, RetOk.ev tabOk (by conv => lhs; cbv), ?_⟩
        | fail)
      all_goals first
        | (exfalso; omega)
        | (refine rPV_then (by conv => lhs; cbv) ?_
           simp [hA, real, hid]; done)
    · refine PureCalls.of Try.func12 rfl (by kernel_rfl) rfl ?_
      try first | refine AOLg.of [] ?_ | refine QSg.of [] ?_
      repeat' (first
        | (refine AWp.pass ?_; first
            | refine AWp.seq ?_
            | refine AWp.block ?_
            | refine AWp.skip ?_
            | refine AWp.regG [] (by conv => lhs; cbv) ?_
            | refine AWp.cond_t rfl ?_
            | refine AWp.cond_f rfl ?_
            | (refine AWp.cond rfl ?_ ?_ <;> intro hc <;> (try rw [hc]) <;> ((try simp only [zn] at hc) <;> (try simp (disch := omega) only [zz hA, zb, zy, reduceCtorEq, Bool.false_eq_true, Int.reduceLT, Int.reduceLE, Int.reduceNeg] at hc) <;> (try simp only [zw] at hc)) <;> (try (exfalso; omega)))
            | refine AWp.exit ?_
            | refine AWp.ret ⟨.inr rfl, _, RetOk.ev tabOk (by conv => lhs; cbv), ?_⟩
            | refine AWp.drawKG [] 0 rfl (by decide +kernel) (by conv => lhs; cbv) (by conv => lhs; cbv) ?_
            | refine AWp.drawKG [] 1 rfl (by decide +kernel) (by conv => lhs; cbv) (by conv => lhs; cbv) ?_
            | refine AWp.drawKG [] 2 rfl (by decide +kernel) (by conv => lhs; cbv) (by conv => lhs; cbv) ?_
            | refine AWp.drawKG [] 3 rfl (by decide +kernel) (by conv => lhs; cbv) (by conv => lhs; cbv) ?_
            | refine AWp.drawKG [] 4 rfl (by decide +kernel) (by conv => lhs; cbv) (by conv => lhs; cbv) ?_
            | refine AWp.drawKG [] 5 rfl (by decide +kernel) (by conv => lhs; cbv) (by conv => lhs; cbv) ?_
            | refine AWp.drawKG [] 6 rfl (by decide +kernel) (by conv => lhs; cbv) (by conv => lhs; cbv) ?_
            | refine AWp.drawKG [] 8 rfl (by decide +kernel) (by conv => lhs; cbv) (by conv => lhs; cbv) ?_)
        | (refine AOLg.pass ?_; refine AOLg.nx hA tabOk (by conv => lhs; cbv) ?_; first
            | refine NX.done ?_
            | refine NX.gt ?_
            | refine NX.gf ?_
            | (refine NX.gs ?_ ?_ <;> intro hc <;> rw [hc] <;> ((try simp only [zn] at hc) <;> (try simp (disch := omega) only [zz hA, zb, zy, reduceCtorEq, Bool.false_eq_true, Int.reduceLT, Int.reduceLE, Int.reduceNeg] at hc) <;> (try simp only [zw] at hc)) <;> (try (exfalso; omega)))
            | (refine NX.kC ?_; first | (with_reducible refine NX.call (shown5_c hA) ?_) | (with_reducible refine NX.call (hfew) ?_) | (with_reducible refine NX.call (hri) ?_) | (with_reducible refine NX.call (there_c hA V N M a) ?_) | (with_reducible refine NX.call (there_c hA V N M b) ?_) | ((first | refine NX.call (shown5_c hA) ?_ | refine NX.call (hfew) ?_ | refine NX.call (hri) ?_ | refine NX.call (there_c hA V N M a) ?_ | refine NX.call (there_c hA V N M b) ?_)) | fail)
            | (refine NX.kO ?_; (first | refine NX.callO (shown5_c hA) (by simp [allEq]) rfl ?_ | refine NX.callO (hfew) (by simp [allEq]) rfl ?_ | refine NX.callO (hri) (by simp [allEq]) rfl ?_ | refine NX.callO (there_c hA V N M a) (by simp [allEq]) rfl ?_ | refine NX.callO (there_c hA V N M b) (by simp [allEq]) rfl ?_))
            | ((first | (refine NX.k 1 ?_; first | refine NX.one (One.elemM hA tabOk rfl rfl rfl rfl ?_ ?_) ?_ | refine NX.one (One.elemOwnM hA tabOk rfl rfl rfl rfl rfl ?_ ?_) ?_) | (refine NX.k 2 ?_; first | refine NX.one (One.clipM tabOk rfl rfl rfl rfl rfl ?_ ?_) ?_ | refine NX.one (One.cut_hM hA tabOk rfl rfl rfl rfl ?_ ?_) ?_ | refine NX.one (One.cut_lM hA tabOk rfl rfl rfl rfl ?_ ?_) ?_ | refine NX.one (One.cut_lhM hA tabOk rfl rfl rfl rfl rfl ?_ ?_ ?_) ?_) | (refine NX.k 3 ?_; first | refine NX.one (One.quoM hA rfl rfl rfl ?_) ?_) | (refine NX.k 4 ?_; first | refine NX.one (One.remM hA rfl rfl rfl ?_) ?_) | (refine NX.k 5 ?_; first | refine NX.one (One.shrM hA rfl rfl rfl ?_) ?_) | (refine NX.k 6 ?_; first | refine NX.one (One.bitsM hA rfl rfl rfl rfl) ?_) | (refine NX.k 7 ?_; first | refine NX.one (One.concatM hA rfl rfl rfl ?_) ?_) | (refine NX.k 8 ?_; first | refine NX.one (One.eqBoolM hA tabOk rfl rfl rfl rfl rfl) ?_) | (refine NX.k 9 ?_; first | refine NX.one (One.neBoolM hA tabOk rfl rfl rfl rfl rfl) ?_) | (refine NX.k 10 ?_; first | refine NX.one (One.lenOwnM hA tabOk rfl rfl rfl rfl) ?_) | (refine NX.k 11 ?_; first | refine NX.one (One.appendM hA tabOk _ rfl rfl rfl rfl rfl rfl ?_ ?_) ?_ | refine NX.one (One.appendMM hA tabOk rfl rfl rfl rfl rfl ?_ ?_) ?_ | refine NX.one (One.appendOwnM hA tabOk _ rfl rfl rfl rfl rfl rfl rfl ?_ ?_) ?_ | refine NX.one (One.appendOwnMM hA tabOk rfl rfl rfl rfl rfl rfl ?_ ?_) ?_ | refine NX.one (One.appendOwn0 hA tabOk rfl rfl rfl rfl rfl rfl ?_ ?_) ?_) | (refine NX.k 13 ?_; first | refine NX.one (One.byteM hA tabOk rfl rfl rfl rfl rfl ?_ ?_) ?_) | (refine NX.k 14 ?_; first | refine NX.one (One.loadRatM hA tabOk rfl rfl rfl rfl rfl rfl ?_) ?_) | (refine NX.k 15 ?_; first | refine NX.one (One.storeRatM hA tabOk _ rfl rfl rfl rfl rfl rfl rfl rfl (fun _ => rfl) ?_) ?_) | (refine NX.k 16 ?_; first | refine NX.one (One.makeM hA tabOk encI 0 rfl rfl rfl rfl rfl rfl rfl ?_ ?_ ?_) ?_) | (refine NX.k 17 ?_; first | refine NX.one (One.build0 tabOk rfl rfl) ?_) | (refine NX.k 18 ?_; first | refine NX.one (One.fieldRat tabOk rfl rfl rfl rfl (by decide) rfl rfl) ?_)) <;> (first | refine AOLg.pass ?_ | (((try simp only [zn]) <;> (try simp (disch := omega) only [zz hA, zb, zy, reduceCtorEq, Bool.false_eq_true, Int.reduceLT, Int.reduceLE, Int.reduceNeg]) <;> (try simp only [zw])) <;> omega)))
            | refine NX.raw ?_)
        | (refine QSg.pass ?_; refine QSg.nx hA tabOk (by conv => lhs; cbv) ?_; first
            | refine QX.done ?_
            | refine QX.gt ?_
            | refine QX.gf ?_
            | (refine QX.gs ?_ ?_ <;> intro hc <;> rw [hc] <;> ((try simp only [zn] at hc) <;> (try simp (disch := omega) only [zz hA, zb, zy, reduceCtorEq, Bool.false_eq_true, Int.reduceLT, Int.reduceLE, Int.reduceNeg] at hc) <;> (try simp only [zw] at hc)) <;> (try (exfalso; omega)))
            | (refine QX.kC ?_; first | (with_reducible refine QX.call (shown5_c hA) rfl ?_) | (with_reducible refine QX.call (hfew) rfl ?_) | (with_reducible refine QX.call (hri) rfl ?_) | (with_reducible refine QX.call (there_c hA V N M a) rfl ?_) | (with_reducible refine QX.call (there_c hA V N M b) rfl ?_) | ((first | refine QX.call (shown5_c hA) rfl ?_ | refine QX.call (hfew) rfl ?_ | refine QX.call (hri) rfl ?_ | refine QX.call (there_c hA V N M a) rfl ?_ | refine QX.call (there_c hA V N M b) rfl ?_)) | fail)
            | (refine QX.kO ?_; (first | refine QX.callO (shown5_c hA) rfl (by simp [allEq]) rfl ?_ | refine QX.callO (hfew) rfl (by simp [allEq]) rfl ?_ | refine QX.callO (hri) rfl (by simp [allEq]) rfl ?_ | refine QX.callO (there_c hA V N M a) rfl (by simp [allEq]) rfl ?_ | refine QX.callO (there_c hA V N M b) rfl (by simp [allEq]) rfl ?_))
            | ((first | (refine QX.k 1 ?_; first | refine QX.one rfl (One.elemM hA tabOk rfl rfl rfl rfl ?_ ?_) ?_ | refine QX.one rfl (One.elemOwnM hA tabOk rfl rfl rfl rfl rfl ?_ ?_) ?_) | (refine QX.k 2 ?_; first | refine QX.one rfl (One.clipM tabOk rfl rfl rfl rfl rfl ?_ ?_) ?_ | refine QX.one rfl (One.cut_hM hA tabOk rfl rfl rfl rfl ?_ ?_) ?_ | refine QX.one rfl (One.cut_lM hA tabOk rfl rfl rfl rfl ?_ ?_) ?_ | refine QX.one rfl (One.cut_lhM hA tabOk rfl rfl rfl rfl rfl ?_ ?_ ?_) ?_) | (refine QX.k 3 ?_; first | refine QX.one rfl (One.quoM hA rfl rfl rfl ?_) ?_) | (refine QX.k 4 ?_; first | refine QX.one rfl (One.remM hA rfl rfl rfl ?_) ?_) | (refine QX.k 5 ?_; first | refine QX.one rfl (One.shrM hA rfl rfl rfl ?_) ?_) | (refine QX.k 6 ?_; first | refine QX.one rfl (One.bitsM hA rfl rfl rfl rfl) ?_) | (refine QX.k 7 ?_; first | refine QX.one rfl (One.concatM hA rfl rfl rfl ?_) ?_) | (refine QX.k 8 ?_; first | refine QX.one rfl (One.eqBoolM hA tabOk rfl rfl rfl rfl rfl) ?_) | (refine QX.k 9 ?_; first | refine QX.one rfl (One.neBoolM hA tabOk rfl rfl rfl rfl rfl) ?_) | (refine QX.k 10 ?_; first | refine QX.one rfl (One.lenOwnM hA tabOk rfl rfl rfl rfl) ?_) | (refine QX.k 11 ?_; first | refine QX.one rfl (One.appendM hA tabOk _ rfl rfl rfl rfl rfl rfl ?_ ?_) ?_ | refine QX.one rfl (One.appendMM hA tabOk rfl rfl rfl rfl rfl ?_ ?_) ?_ | refine QX.one rfl (One.appendOwnM hA tabOk _ rfl rfl rfl rfl rfl rfl rfl ?_ ?_) ?_ | refine QX.one rfl (One.appendOwnMM hA tabOk rfl rfl rfl rfl rfl rfl ?_ ?_) ?_ | refine QX.one rfl (One.appendOwn0 hA tabOk rfl rfl rfl rfl rfl rfl ?_ ?_) ?_) | (refine QX.k 13 ?_; first | refine QX.one rfl (One.byteM hA tabOk rfl rfl rfl rfl rfl ?_ ?_) ?_) | (refine QX.k 14 ?_; first | refine QX.one rfl (One.loadRatM hA tabOk rfl rfl rfl rfl rfl rfl ?_) ?_) | (refine QX.k 15 ?_; first | refine QX.one rfl (One.storeRatM hA tabOk _ rfl rfl rfl rfl rfl rfl rfl rfl (fun _ => rfl) ?_) ?_) | (refine QX.k 16 ?_; first | refine QX.one rfl (One.makeM hA tabOk encI 0 rfl rfl rfl rfl rfl rfl rfl ?_ ?_ ?_) ?_) | (refine QX.k 17 ?_; first | refine QX.one rfl (One.build0 tabOk rfl rfl) ?_) | (refine QX.k 18 ?_; first | refine QX.one rfl (One.fieldRat tabOk rfl rfl rfl rfl (by decide) rfl rfl) ?_)) <;> (first | refine QSg.pass ?_ | (((try simp only [zn]) <;> (try simp (disch := omega) only [zz hA, zb, zy, reduceCtorEq, Bool.false_eq_true, Int.reduceLT, Int.reduceLE, Int.reduceNeg]) <;> (try simp only [zw])) <;> omega)))
            | refine QX.raw ?_)
        | refine Thn.exit ?_
        | refine Blk.here ?_
        | refine Blk.other (by decide) ?_
        | refine ⟨.inl rfl, _, RetOk.ev tabOk (by conv => lhs; cbv), ?_⟩
        | fail)
      all_goals first
        | (refine rPV_then (by conv => lhs; cbv) ?_
           simp [hA, real, hid]; done)
        | (exfalso
           simp_all [hid, real] <;> omega)
  · rw [show decide (V.length + N.length + M.length ≤ 500 ∧ ranks.length ≤ 200) = false from decide_eq_false hf] at hfew
    refine PureCalls.of Try.func12 rfl (by kernel_rfl) rfl ?_
    try first | refine AOLg.of [] ?_ | refine QSg.of [] ?_
    repeat' (first
      | (refine AWp.pass ?_; first
          | refine AWp.seq ?_
          | refine AWp.block ?_
          | refine AWp.skip ?_
          | refine AWp.regG [] (by conv => lhs; cbv) ?_
          | refine AWp.cond_t rfl ?_
          | refine AWp.cond_f rfl ?_
          | (refine AWp.cond rfl ?_ ?_ <;> intro hc <;> (try rw [hc]) <;> ((try simp only [zn] at hc) <;> (try simp (disch := omega) only [zz hA, zb, zy, reduceCtorEq, Bool.false_eq_true, Int.reduceLT, Int.reduceLE, Int.reduceNeg] at hc) <;> (try simp only [zw] at hc)) <;> (try (exfalso; omega)))
          | refine AWp.exit ?_
          | refine AWp.ret ⟨.inr rfl, _, RetOk.ev tabOk (by conv => lhs; cbv), ?_⟩
          | refine AWp.drawKG [] 0 rfl (by decide +kernel) (by conv => lhs; cbv) (by conv => lhs; cbv) ?_
          | refine AWp.drawKG [] 1 rfl (by decide +kernel) (by conv => lhs; cbv) (by conv => lhs; cbv) ?_
          | refine AWp.drawKG [] 2 rfl (by decide +kernel) (by conv => lhs; cbv) (by conv => lhs; cbv) ?_
          | refine AWp.drawKG [] 3 rfl (by decide +kernel) (by conv => lhs; cbv) (by conv => lhs; cbv) ?_
          | refine AWp.drawKG [] 4 rfl (by decide +kernel) (by conv => lhs; cbv) (by conv => lhs; cbv) ?_
          | refine AWp.drawKG [] 5 rfl (by decide +kernel) (by conv => lhs; cbv) (by conv => lhs; cbv) ?_
          | refine AWp.drawKG [] 6 rfl (by decide +kernel) (by conv => lhs; cbv) (by conv => lhs; cbv) ?_
          | refine AWp.drawKG [] 8 rfl (by decide +kernel) (by conv => lhs; cbv) (by conv => lhs; cbv) ?_)
      | (refine AOLg.pass ?_; refine AOLg.nx hA tabOk (by conv => lhs; cbv) ?_; first
          | refine NX.done ?_
          | refine NX.gt ?_
          | refine NX.gf ?_
          | (refine NX.gs ?_ ?_ <;> intro hc <;> rw [hc] <;> ((try simp only [zn] at hc) <;> (try simp (disch := omega) only [zz hA, zb, zy, reduceCtorEq, Bool.false_eq_true, Int.reduceLT, Int.reduceLE, Int.reduceNeg] at hc) <;> (try simp only [zw] at hc)) <;> (try (exfalso; omega)))
          | (refine NX.kC ?_; first | (with_reducible refine NX.call (shown5_c hA) ?_) | (with_reducible refine NX.call (hfew) ?_) | ((first | refine NX.call (shown5_c hA) ?_ | refine NX.call (hfew) ?_)) | fail)
          | (refine NX.kO ?_; (first | refine NX.callO (shown5_c hA) (by simp [allEq]) rfl ?_ | refine NX.callO (hfew) (by simp [allEq]) rfl ?_))
          | ((first | (refine NX.k 1 ?_; first | refine NX.one (One.elemM hA tabOk rfl rfl rfl rfl ?_ ?_) ?_ | refine NX.one (One.elemOwnM hA tabOk rfl rfl rfl rfl rfl ?_ ?_) ?_) | (refine NX.k 2 ?_; first | refine NX.one (One.clipM tabOk rfl rfl rfl rfl rfl ?_ ?_) ?_ | refine NX.one (One.cut_hM hA tabOk rfl rfl rfl rfl ?_ ?_) ?_ | refine NX.one (One.cut_lM hA tabOk rfl rfl rfl rfl ?_ ?_) ?_ | refine NX.one (One.cut_lhM hA tabOk rfl rfl rfl rfl rfl ?_ ?_ ?_) ?_) | (refine NX.k 3 ?_; first | refine NX.one (One.quoM hA rfl rfl rfl ?_) ?_) | (refine NX.k 4 ?_; first | refine NX.one (One.remM hA rfl rfl rfl ?_) ?_) | (refine NX.k 5 ?_; first | refine NX.one (One.shrM hA rfl rfl rfl ?_) ?_) | (refine NX.k 6 ?_; first | refine NX.one (One.bitsM hA rfl rfl rfl rfl) ?_) | (refine NX.k 7 ?_; first | refine NX.one (One.concatM hA rfl rfl rfl ?_) ?_) | (refine NX.k 8 ?_; first | refine NX.one (One.eqBoolM hA tabOk rfl rfl rfl rfl rfl) ?_) | (refine NX.k 9 ?_; first | refine NX.one (One.neBoolM hA tabOk rfl rfl rfl rfl rfl) ?_) | (refine NX.k 10 ?_; first | refine NX.one (One.lenOwnM hA tabOk rfl rfl rfl rfl) ?_) | (refine NX.k 11 ?_; first | refine NX.one (One.appendM hA tabOk _ rfl rfl rfl rfl rfl rfl ?_ ?_) ?_ | refine NX.one (One.appendMM hA tabOk rfl rfl rfl rfl rfl ?_ ?_) ?_ | refine NX.one (One.appendOwnM hA tabOk _ rfl rfl rfl rfl rfl rfl rfl ?_ ?_) ?_ | refine NX.one (One.appendOwnMM hA tabOk rfl rfl rfl rfl rfl rfl ?_ ?_) ?_ | refine NX.one (One.appendOwn0 hA tabOk rfl rfl rfl rfl rfl rfl ?_ ?_) ?_) | (refine NX.k 13 ?_; first | refine NX.one (One.byteM hA tabOk rfl rfl rfl rfl rfl ?_ ?_) ?_) | (refine NX.k 14 ?_; first | refine NX.one (One.loadRatM hA tabOk rfl rfl rfl rfl rfl rfl ?_) ?_) | (refine NX.k 15 ?_; first | refine NX.one (One.storeRatM hA tabOk _ rfl rfl rfl rfl rfl rfl rfl rfl (fun _ => rfl) ?_) ?_) | (refine NX.k 16 ?_; first | refine NX.one (One.makeM hA tabOk encI 0 rfl rfl rfl rfl rfl rfl rfl ?_ ?_ ?_) ?_) | (refine NX.k 17 ?_; first | refine NX.one (One.build0 tabOk rfl rfl) ?_) | (refine NX.k 18 ?_; first | refine NX.one (One.fieldRat tabOk rfl rfl rfl rfl (by decide) rfl rfl) ?_)) <;> (first | refine AOLg.pass ?_ | (((try simp only [zn]) <;> (try simp (disch := omega) only [zz hA, zb, zy, reduceCtorEq, Bool.false_eq_true, Int.reduceLT, Int.reduceLE, Int.reduceNeg]) <;> (try simp only [zw])) <;> omega)))
          | refine NX.raw ?_)
      | (refine QSg.pass ?_; refine QSg.nx hA tabOk (by conv => lhs; cbv) ?_; first
          | refine QX.done ?_
          | refine QX.gt ?_
          | refine QX.gf ?_
          | (refine QX.gs ?_ ?_ <;> intro hc <;> rw [hc] <;> ((try simp only [zn] at hc) <;> (try simp (disch := omega) only [zz hA, zb, zy, reduceCtorEq, Bool.false_eq_true, Int.reduceLT, Int.reduceLE, Int.reduceNeg] at hc) <;> (try simp only [zw] at hc)) <;> (try (exfalso; omega)))
          | (refine QX.kC ?_; first | (with_reducible refine QX.call (shown5_c hA) rfl ?_) | (with_reducible refine QX.call (hfew) rfl ?_) | ((first | refine QX.call (shown5_c hA) rfl ?_ | refine QX.call (hfew) rfl ?_)) | fail)
          | (refine QX.kO ?_; (first | refine QX.callO (shown5_c hA) rfl (by simp [allEq]) rfl ?_ | refine QX.callO (hfew) rfl (by simp [allEq]) rfl ?_))
          | ((first | (refine QX.k 1 ?_; first | refine QX.one rfl (One.elemM hA tabOk rfl rfl rfl rfl ?_ ?_) ?_ | refine QX.one rfl (One.elemOwnM hA tabOk rfl rfl rfl rfl rfl ?_ ?_) ?_) | (refine QX.k 2 ?_; first | refine QX.one rfl (One.clipM tabOk rfl rfl rfl rfl rfl ?_ ?_) ?_ | refine QX.one rfl (One.cut_hM hA tabOk rfl rfl rfl rfl ?_ ?_) ?_ | refine QX.one rfl (One.cut_lM hA tabOk rfl rfl rfl rfl ?_ ?_) ?_ | refine QX.one rfl (One.cut_lhM hA tabOk rfl rfl rfl rfl rfl ?_ ?_ ?_) ?_) | (refine QX.k 3 ?_; first | refine QX.one rfl (One.quoM hA rfl rfl rfl ?_) ?_) | (refine QX.k 4 ?_; first | refine QX.one rfl (One.remM hA rfl rfl rfl ?_) ?_) | (refine QX.k 5 ?_; first | refine QX.one rfl (One.shrM hA rfl rfl rfl ?_) ?_) | (refine QX.k 6 ?_; first | refine QX.one rfl (One.bitsM hA rfl rfl rfl rfl) ?_) | (refine QX.k 7 ?_; first | refine QX.one rfl (One.concatM hA rfl rfl rfl ?_) ?_) | (refine QX.k 8 ?_; first | refine QX.one rfl (One.eqBoolM hA tabOk rfl rfl rfl rfl rfl) ?_) | (refine QX.k 9 ?_; first | refine QX.one rfl (One.neBoolM hA tabOk rfl rfl rfl rfl rfl) ?_) | (refine QX.k 10 ?_; first | refine QX.one rfl (One.lenOwnM hA tabOk rfl rfl rfl rfl) ?_) | (refine QX.k 11 ?_; first | refine QX.one rfl (One.appendM hA tabOk _ rfl rfl rfl rfl rfl rfl ?_ ?_) ?_ | refine QX.one rfl (One.appendMM hA tabOk rfl rfl rfl rfl rfl ?_ ?_) ?_ | refine QX.one rfl (One.appendOwnM hA tabOk _ rfl rfl rfl rfl rfl rfl rfl ?_ ?_) ?_ | refine QX.one rfl (One.appendOwnMM hA tabOk rfl rfl rfl rfl rfl rfl ?_ ?_) ?_ | refine QX.one rfl (One.appendOwn0 hA tabOk rfl rfl rfl rfl rfl rfl ?_ ?_) ?_) | (refine QX.k 13 ?_; first | refine QX.one rfl (One.byteM hA tabOk rfl rfl rfl rfl rfl ?_ ?_) ?_) | (refine QX.k 14 ?_; first | refine QX.one rfl (One.loadRatM hA tabOk rfl rfl rfl rfl rfl rfl ?_) ?_) | (refine QX.k 15 ?_; first | refine QX.one rfl (One.storeRatM hA tabOk _ rfl rfl rfl rfl rfl rfl rfl rfl (fun _ => rfl) ?_) ?_) | (refine QX.k 16 ?_; first | refine QX.one rfl (One.makeM hA tabOk encI 0 rfl rfl rfl rfl rfl rfl rfl ?_ ?_ ?_) ?_) | (refine QX.k 17 ?_; first | refine QX.one rfl (One.build0 tabOk rfl rfl) ?_) | (refine QX.k 18 ?_; first | refine QX.one rfl (One.fieldRat tabOk rfl rfl rfl rfl (by decide) rfl rfl) ?_)) <;> (first | refine QSg.pass ?_ | (((try simp only [zn]) <;> (try simp (disch := omega) only [zz hA, zb, zy, reduceCtorEq, Bool.false_eq_true, Int.reduceLT, Int.reduceLE, Int.reduceNeg]) <;> (try simp only [zw])) <;> omega)))
          | refine QX.raw ?_)
      | refine Thn.exit ?_
      | refine Blk.here ?_
      | refine Blk.other (by decide) ?_
      | refine ⟨.inl rfl, _, RetOk.ev tabOk (by conv => lhs; cbv), ?_⟩
      | fail)
    all_goals
      refine rPV_then (by conv => lhs; cbv) ?_
      simp [hA, real, hid]
end Go.Proofs.Ytinehodamekjgaa.Aw

/- The statement Parts, walked. -/
set_option linter.unusedVariables false
set_option linter.unusedSimpArgs false
namespace Go.Proofs.Ytinehodamekjgaa.Aw
open Go Go.RowKit
set_option maxRecDepth 10000
attribute [local irreducible] AWp AOL QS One AOLg QSg NX QX
variable {A : Ar} (hA : A = real)
include hA
set_option maxHeartbeats 4000000 in
theorem parts_law (V : List Int) (N : List (Int × Int)) (M ranks : List Int) (hV : V.length ≤ 140737488351232) (hN : N.length ≤ 140737488351232) (hM : M.length ≤ 140737488351232) (hr : ranks.length ≤ 140737488351232) : PureCalls Try.prog 9 [clP A V N M, intsP A ranks] (BP true) := by
  have hfew := ufew_c hA V N M ranks hV hN hM
  by_cases hf : V.length + N.length + M.length ≤ 500 ∧ ranks.length ≤ 200
  · obtain ⟨hf1, hf2⟩ := hf
    rw [show decide (V.length + N.length + M.length ≤ 500 ∧ ranks.length ≤ 200) = true from decide_eq_true (by omega)] at hfew
    have hri := urightP hA V N M ranks (by omega) (by omega) (by omega) (by omega)
    by_cases hg : (rightB V ranks && (⟨V, N, M⟩ : Cl).right) = true
    · rw [hg] at hri
      have hR : RightU V ranks := (rightB_iff _ _).1 (by revert hg; cases rightB V ranks <;> simp)
      have hfi := firsts_c hA V N M (by omega)
      have hFl := thoseM_len V.length fun k => decide (V.getD k.toNat default = k)
      generalize hF : (thoseM V.length fun k => decide (V.getD k.toNat default = k)) = F at hfi hFl
      have hall := partI_all hR hF.symm
      have hp0 := partI_zero V F
      have hpb : ∀ i, partI V F i ≤ V.length := fun i => by unfold partI; exact Nat.le_trans List.countP_le_length (by simp)
      refine PureCalls.of Try.func9 rfl (by kernel_rfl) rfl ?_
      try first | refine AOLg.of [] ?_ | refine QSg.of [] ?_
      repeat' (first
        | (refine AWp.pass ?_; first
            | refine AWp.seq ?_
            | refine AWp.block ?_
            | refine AWp.skip ?_
            | refine AWp.regG [] (by conv => lhs; cbv) ?_
            | refine AWp.cond_t rfl ?_
            | refine AWp.cond_f rfl ?_
            | (refine AWp.cond rfl ?_ ?_ <;> intro hc <;> (try rw [hc]) <;> ((try simp only [zn] at hc) <;> (try simp (disch := omega) only [zz hA, zb, zy, reduceCtorEq, Bool.false_eq_true, Int.reduceLT, Int.reduceLE, Int.reduceNeg] at hc) <;> (try simp only [zw] at hc)) <;> (try (exfalso; omega)))
            | refine AWp.exit ?_
            | refine AWp.ret ⟨.inr rfl, _, RetOk.ev tabOk (by conv => lhs; cbv), ?_⟩
            | refine AWp.drawKG [] 0 rfl (by decide +kernel) (by conv => lhs; cbv) (by conv => lhs; cbv) ?_
            | refine AWp.drawKG [] 1 rfl (by decide +kernel) (by conv => lhs; cbv) (by conv => lhs; cbv) ?_
            | refine AWp.drawKG [] 2 rfl (by decide +kernel) (by conv => lhs; cbv) (by conv => lhs; cbv) ?_
            | refine AWp.drawKG [] 3 rfl (by decide +kernel) (by conv => lhs; cbv) (by conv => lhs; cbv) ?_
            | refine AWp.drawKG [] 4 rfl (by decide +kernel) (by conv => lhs; cbv) (by conv => lhs; cbv) ?_
            | refine AWp.drawKG [] 5 rfl (by decide +kernel) (by conv => lhs; cbv) (by conv => lhs; cbv) ?_
            | refine AWp.drawKG [] 6 rfl (by decide +kernel) (by conv => lhs; cbv) (by conv => lhs; cbv) ?_
            | refine AWp.drawKG [] 8 rfl (by decide +kernel) (by conv => lhs; cbv) (by conv => lhs; cbv) ?_)
        | (refine AOLg.pass ?_; refine AOLg.nx hA tabOk (by conv => lhs; cbv) ?_; first
            | refine NX.done ?_
            | refine NX.gt ?_
            | refine NX.gf ?_
            | (refine NX.gs ?_ ?_ <;> intro hc <;> rw [hc] <;> ((try simp only [zn] at hc) <;> (try simp (disch := omega) only [zz hA, zb, zy, reduceCtorEq, Bool.false_eq_true, Int.reduceLT, Int.reduceLE, Int.reduceNeg] at hc) <;> (try simp only [zw] at hc)) <;> (try (exfalso; omega)))
            | (refine NX.kC ?_; first | (with_reducible refine NX.call (shown5_c hA) ?_) | (with_reducible refine NX.call (hfew) ?_) | (with_reducible refine NX.call (hri) ?_) | (with_reducible refine NX.call (hfi) ?_) | ((first | refine NX.call (shown5_c hA) ?_ | refine NX.call (hfew) ?_ | refine NX.call (hri) ?_ | refine NX.call (hfi) ?_)) | fail)
            | (refine NX.kO ?_; (first | refine NX.callO (shown5_c hA) (by simp [allEq]) rfl ?_ | refine NX.callO (hfew) (by simp [allEq]) rfl ?_ | refine NX.callO (hri) (by simp [allEq]) rfl ?_ | refine NX.callO (hfi) (by simp [allEq]) rfl ?_))
            | ((first | (refine NX.k 1 ?_; first | refine NX.one (One.elemM hA tabOk rfl rfl rfl rfl ?_ ?_) ?_ | refine NX.one (One.elemOwnM hA tabOk rfl rfl rfl rfl rfl ?_ ?_) ?_) | (refine NX.k 2 ?_; first | refine NX.one (One.clipM tabOk rfl rfl rfl rfl rfl ?_ ?_) ?_ | refine NX.one (One.cut_hM hA tabOk rfl rfl rfl rfl ?_ ?_) ?_ | refine NX.one (One.cut_lM hA tabOk rfl rfl rfl rfl ?_ ?_) ?_ | refine NX.one (One.cut_lhM hA tabOk rfl rfl rfl rfl rfl ?_ ?_ ?_) ?_) | (refine NX.k 3 ?_; first | refine NX.one (One.quoM hA rfl rfl rfl ?_) ?_) | (refine NX.k 4 ?_; first | refine NX.one (One.remM hA rfl rfl rfl ?_) ?_) | (refine NX.k 5 ?_; first | refine NX.one (One.shrM hA rfl rfl rfl ?_) ?_) | (refine NX.k 6 ?_; first | refine NX.one (One.bitsM hA rfl rfl rfl rfl) ?_) | (refine NX.k 7 ?_; first | refine NX.one (One.concatM hA rfl rfl rfl ?_) ?_) | (refine NX.k 8 ?_; first | refine NX.one (One.eqBoolM hA tabOk rfl rfl rfl rfl rfl) ?_) | (refine NX.k 9 ?_; first | refine NX.one (One.neBoolM hA tabOk rfl rfl rfl rfl rfl) ?_) | (refine NX.k 10 ?_; first | refine NX.one (One.lenOwnM hA tabOk rfl rfl rfl rfl) ?_) | (refine NX.k 11 ?_; first | refine NX.one (One.appendM hA tabOk _ rfl rfl rfl rfl rfl rfl ?_ ?_) ?_ | refine NX.one (One.appendMM hA tabOk rfl rfl rfl rfl rfl ?_ ?_) ?_ | refine NX.one (One.appendOwnM hA tabOk _ rfl rfl rfl rfl rfl rfl rfl ?_ ?_) ?_ | refine NX.one (One.appendOwnMM hA tabOk rfl rfl rfl rfl rfl rfl ?_ ?_) ?_ | refine NX.one (One.appendOwn0 hA tabOk rfl rfl rfl rfl rfl rfl ?_ ?_) ?_) | (refine NX.k 13 ?_; first | refine NX.one (One.byteM hA tabOk rfl rfl rfl rfl rfl ?_ ?_) ?_) | (refine NX.k 14 ?_; first | refine NX.one (One.loadRatM hA tabOk rfl rfl rfl rfl rfl rfl ?_) ?_) | (refine NX.k 15 ?_; first | refine NX.one (One.storeRatM hA tabOk _ rfl rfl rfl rfl rfl rfl rfl rfl (fun _ => rfl) ?_) ?_) | (refine NX.k 16 ?_; first | refine NX.one (One.makeM hA tabOk encI 0 rfl rfl rfl rfl rfl rfl rfl ?_ ?_ ?_) ?_) | (refine NX.k 17 ?_; first | refine NX.one (One.build0 tabOk rfl rfl) ?_) | (refine NX.k 18 ?_; first | refine NX.one (One.fieldRat tabOk rfl rfl rfl rfl (by decide) rfl rfl) ?_)) <;> (first | refine AOLg.pass ?_ | (((try simp only [zn]) <;> (try simp (disch := omega) only [zz hA, zb, zy, reduceCtorEq, Bool.false_eq_true, Int.reduceLT, Int.reduceLE, Int.reduceNeg]) <;> (try simp only [zw])) <;> omega)))
            | refine NX.raw ?_)
        | (refine QSg.pass ?_; refine QSg.nx hA tabOk (by conv => lhs; cbv) ?_; first
            | refine QX.done ?_
            | refine QX.gt ?_
            | refine QX.gf ?_
            | (refine QX.gs ?_ ?_ <;> intro hc <;> rw [hc] <;> ((try simp only [zn] at hc) <;> (try simp (disch := omega) only [zz hA, zb, zy, reduceCtorEq, Bool.false_eq_true, Int.reduceLT, Int.reduceLE, Int.reduceNeg] at hc) <;> (try simp only [zw] at hc)) <;> (try (exfalso; omega)))
            | (refine QX.kC ?_; first | (with_reducible refine QX.call (shown5_c hA) rfl ?_) | (with_reducible refine QX.call (hfew) rfl ?_) | (with_reducible refine QX.call (hri) rfl ?_) | (with_reducible refine QX.call (hfi) rfl ?_) | ((first | refine QX.call (shown5_c hA) rfl ?_ | refine QX.call (hfew) rfl ?_ | refine QX.call (hri) rfl ?_ | refine QX.call (hfi) rfl ?_)) | fail)
            | (refine QX.kO ?_; (first | refine QX.callO (shown5_c hA) rfl (by simp [allEq]) rfl ?_ | refine QX.callO (hfew) rfl (by simp [allEq]) rfl ?_ | refine QX.callO (hri) rfl (by simp [allEq]) rfl ?_ | refine QX.callO (hfi) rfl (by simp [allEq]) rfl ?_))
            | ((first | (refine QX.k 1 ?_; first | refine QX.one rfl (One.elemM hA tabOk rfl rfl rfl rfl ?_ ?_) ?_ | refine QX.one rfl (One.elemOwnM hA tabOk rfl rfl rfl rfl rfl ?_ ?_) ?_) | (refine QX.k 2 ?_; first | refine QX.one rfl (One.clipM tabOk rfl rfl rfl rfl rfl ?_ ?_) ?_ | refine QX.one rfl (One.cut_hM hA tabOk rfl rfl rfl rfl ?_ ?_) ?_ | refine QX.one rfl (One.cut_lM hA tabOk rfl rfl rfl rfl ?_ ?_) ?_ | refine QX.one rfl (One.cut_lhM hA tabOk rfl rfl rfl rfl rfl ?_ ?_ ?_) ?_) | (refine QX.k 3 ?_; first | refine QX.one rfl (One.quoM hA rfl rfl rfl ?_) ?_) | (refine QX.k 4 ?_; first | refine QX.one rfl (One.remM hA rfl rfl rfl ?_) ?_) | (refine QX.k 5 ?_; first | refine QX.one rfl (One.shrM hA rfl rfl rfl ?_) ?_) | (refine QX.k 6 ?_; first | refine QX.one rfl (One.bitsM hA rfl rfl rfl rfl) ?_) | (refine QX.k 7 ?_; first | refine QX.one rfl (One.concatM hA rfl rfl rfl ?_) ?_) | (refine QX.k 8 ?_; first | refine QX.one rfl (One.eqBoolM hA tabOk rfl rfl rfl rfl rfl) ?_) | (refine QX.k 9 ?_; first | refine QX.one rfl (One.neBoolM hA tabOk rfl rfl rfl rfl rfl) ?_) | (refine QX.k 10 ?_; first | refine QX.one rfl (One.lenOwnM hA tabOk rfl rfl rfl rfl) ?_) | (refine QX.k 11 ?_; first | refine QX.one rfl (One.appendM hA tabOk _ rfl rfl rfl rfl rfl rfl ?_ ?_) ?_ | refine QX.one rfl (One.appendMM hA tabOk rfl rfl rfl rfl rfl ?_ ?_) ?_ | refine QX.one rfl (One.appendOwnM hA tabOk _ rfl rfl rfl rfl rfl rfl rfl ?_ ?_) ?_ | refine QX.one rfl (One.appendOwnMM hA tabOk rfl rfl rfl rfl rfl rfl ?_ ?_) ?_ | refine QX.one rfl (One.appendOwn0 hA tabOk rfl rfl rfl rfl rfl rfl ?_ ?_) ?_) | (refine QX.k 13 ?_; first | refine QX.one rfl (One.byteM hA tabOk rfl rfl rfl rfl rfl ?_ ?_) ?_) | (refine QX.k 14 ?_; first | refine QX.one rfl (One.loadRatM hA tabOk rfl rfl rfl rfl rfl rfl ?_) ?_) | (refine QX.k 15 ?_; first | refine QX.one rfl (One.storeRatM hA tabOk _ rfl rfl rfl rfl rfl rfl rfl rfl (fun _ => rfl) ?_) ?_) | (refine QX.k 16 ?_; first | refine QX.one rfl (One.makeM hA tabOk encI 0 rfl rfl rfl rfl rfl rfl rfl ?_ ?_ ?_) ?_) | (refine QX.k 17 ?_; first | refine QX.one rfl (One.build0 tabOk rfl rfl) ?_) | (refine QX.k 18 ?_; first | refine QX.one rfl (One.fieldRat tabOk rfl rfl rfl rfl (by decide) rfl rfl) ?_)) <;> (first | refine QSg.pass ?_ | (((try simp only [zn]) <;> (try simp (disch := omega) only [zz hA, zb, zy, reduceCtorEq, Bool.false_eq_true, Int.reduceLT, Int.reduceLE, Int.reduceNeg]) <;> (try simp only [zw])) <;> omega)))
            | refine QX.raw ?_)
        | refine Thn.exit ?_
        | refine Blk.here ?_
        | refine Blk.other (by decide) ?_
        | refine ⟨.inl rfl, _, RetOk.ev tabOk (by conv => lhs; cbv), ?_⟩
        | fail)
      refine AWp.loopU (fun i : Nat => [(8, .ic (.lit (.int .i64 (hid A (cN i))))), (7, .ic (.lit (.int .i64 (hid A (cN (partI V F i))))))]) (fun _ => [.var true 25 [.ic (.sl 1 false (hid A (List.map encI V))), .ic (.sl 2 false (hid A (List.map encN N))), .ic (.sl 1 false (hid A (List.map encI M)))]]) (fun i => F.length - i) (fun i => i ≤ F.length) 0 (by conv => lhs; cbv) (Nat.zero_le _) (by (repeat' (first | exact subE.nil | refine subE.int rfl ?_ ?_)) <;> simp [hA, real, hid, cN, hp0]) rfl ?_
      intro i hi0
      have hpi := hpb i
      by_cases hi : i < F.length
      · obtain ⟨q1, q2⟩ := first_mem hF.symm hi
        have hsu := partI_succ hF.symm hi
        have hpi2 := hpb (i + 1)
        have hKl := thoseM_len V.length fun k => decide (findU V k = F.getD i default)
        have hcl : ∀ z : Int, z = F.getD i default → PureCalls Try.prog 31 [clP A V N M, IP z] (intsP A (thoseM V.length fun k => decide (findU V k = F.getD i default))) := by
          rintro _ rfl
          have := class_c hA V N M ranks hR (F.getD i default) q1.1 q1.2 (by omega)
          rwa [find_root (n := F.getD i default) q2] at this
        have hKm : ∀ k, k < (thoseM V.length fun k => decide (findU V k = F.getD i default)).length → (0 ≤ (thoseM V.length fun k => decide (findU V k = F.getD i default)).getD k default ∧ (thoseM V.length fun k => decide (findU V k = F.getD i default)).getD k default < V.length) ∧ findU V ((thoseM V.length fun k => decide (findU V k = F.getD i default)).getD k default) = F.getD i default := fun k hk => by
          obtain ⟨h1, h2⟩ := thoseM_mem.1 (getD_mem hk)
          exact ⟨h1, by simpa using h2⟩
        have hls : ¬ 0 < i ∨ F.getD ((i : Int) - 1).toNat default < F.getD i default := by
          rcases Nat.eq_zero_or_pos i with h | h
          · left; omega
          · right
            rw [show ((i : Int) - 1).toNat = i - 1 by omega]
            exact first_less hF.symm (by omega) hi
        generalize hK : (thoseM V.length fun k => decide (findU V k = F.getD i default)) = K at hsu hKl hcl hKm
        try first | refine AOLg.of [] ?_ | refine QSg.of [] ?_
        repeat' (first
          | (refine AWp.pass ?_; first
              | refine AWp.seq ?_
              | refine AWp.block ?_
              | refine AWp.skip ?_
              | refine AWp.regG [] (by conv => lhs; cbv) ?_
              | refine AWp.cond_t rfl ?_
              | refine AWp.cond_f rfl ?_
              | (refine AWp.cond rfl ?_ ?_ <;> intro hc <;> (try rw [hc]) <;> ((try simp only [zn] at hc) <;> (try simp (disch := omega) only [zz hA, zb, zy, reduceCtorEq, Bool.false_eq_true, Int.reduceLT, Int.reduceLE, Int.reduceNeg] at hc) <;> (try simp only [zw] at hc)) <;> (try (exfalso; omega)))
              | refine AWp.exit ?_
              | refine AWp.ret ⟨.inr rfl, _, RetOk.ev tabOk (by conv => lhs; cbv), ?_⟩
              | refine AWp.drawKG [] 0 rfl (by decide +kernel) (by conv => lhs; cbv) (by conv => lhs; cbv) ?_
              | refine AWp.drawKG [] 1 rfl (by decide +kernel) (by conv => lhs; cbv) (by conv => lhs; cbv) ?_
              | refine AWp.drawKG [] 2 rfl (by decide +kernel) (by conv => lhs; cbv) (by conv => lhs; cbv) ?_
              | refine AWp.drawKG [] 3 rfl (by decide +kernel) (by conv => lhs; cbv) (by conv => lhs; cbv) ?_
              | refine AWp.drawKG [] 4 rfl (by decide +kernel) (by conv => lhs; cbv) (by conv => lhs; cbv) ?_
              | refine AWp.drawKG [] 5 rfl (by decide +kernel) (by conv => lhs; cbv) (by conv => lhs; cbv) ?_
              | refine AWp.drawKG [] 6 rfl (by decide +kernel) (by conv => lhs; cbv) (by conv => lhs; cbv) ?_
              | refine AWp.drawKG [] 8 rfl (by decide +kernel) (by conv => lhs; cbv) (by conv => lhs; cbv) ?_)
          | (refine AOLg.pass ?_; refine AOLg.nx hA tabOk (by conv => lhs; cbv) ?_; first
              | refine NX.done ?_
              | refine NX.gt ?_
              | refine NX.gf ?_
              | (refine NX.gs ?_ ?_ <;> intro hc <;> rw [hc] <;> ((try simp only [zn] at hc) <;> (try simp (disch := omega) only [zz hA, zb, zy, reduceCtorEq, Bool.false_eq_true, Int.reduceLT, Int.reduceLE, Int.reduceNeg] at hc) <;> (try simp only [zw] at hc)) <;> (try (exfalso; omega)))
              | (refine NX.kC ?_; first | (with_reducible refine NX.call (there_c hA V N M _) ?_) | ((with_reducible refine NX.call (hcl _ ?_) ?_) <;> (first | refine AOLg.pass ?_ | (((try simp only [zn]) <;> (try simp (disch := omega) only [zz hA, zb, zy, reduceCtorEq, Bool.false_eq_true, Int.reduceLT, Int.reduceLE, Int.reduceNeg]) <;> (try simp only [zw])) <;> omega))) | ((first | refine NX.call (there_c hA V N M _) ?_ | refine NX.call (hcl _ ?_) ?_) <;> (first | refine AOLg.pass ?_ | (((try simp only [zn]) <;> (try simp (disch := omega) only [zz hA, zb, zy, reduceCtorEq, Bool.false_eq_true, Int.reduceLT, Int.reduceLE, Int.reduceNeg]) <;> (try simp only [zw])) <;> omega))) | fail)
              | (refine NX.kO ?_; (first | refine NX.callO (there_c hA V N M _) (by simp [allEq]) rfl ?_ | refine NX.callO (hcl _ ?_) (by simp [allEq]) rfl ?_) <;> (first | refine AOLg.pass ?_ | (((try simp only [zn]) <;> (try simp (disch := omega) only [zz hA, zb, zy, reduceCtorEq, Bool.false_eq_true, Int.reduceLT, Int.reduceLE, Int.reduceNeg]) <;> (try simp only [zw])) <;> omega)))
              | ((first | (refine NX.k 1 ?_; first | refine NX.one (One.elemM hA tabOk rfl rfl rfl rfl ?_ ?_) ?_ | refine NX.one (One.elemOwnM hA tabOk rfl rfl rfl rfl rfl ?_ ?_) ?_) | (refine NX.k 2 ?_; first | refine NX.one (One.clipM tabOk rfl rfl rfl rfl rfl ?_ ?_) ?_ | refine NX.one (One.cut_hM hA tabOk rfl rfl rfl rfl ?_ ?_) ?_ | refine NX.one (One.cut_lM hA tabOk rfl rfl rfl rfl ?_ ?_) ?_ | refine NX.one (One.cut_lhM hA tabOk rfl rfl rfl rfl rfl ?_ ?_ ?_) ?_) | (refine NX.k 3 ?_; first | refine NX.one (One.quoM hA rfl rfl rfl ?_) ?_) | (refine NX.k 4 ?_; first | refine NX.one (One.remM hA rfl rfl rfl ?_) ?_) | (refine NX.k 5 ?_; first | refine NX.one (One.shrM hA rfl rfl rfl ?_) ?_) | (refine NX.k 6 ?_; first | refine NX.one (One.bitsM hA rfl rfl rfl rfl) ?_) | (refine NX.k 7 ?_; first | refine NX.one (One.concatM hA rfl rfl rfl ?_) ?_) | (refine NX.k 8 ?_; first | refine NX.one (One.eqBoolM hA tabOk rfl rfl rfl rfl rfl) ?_) | (refine NX.k 9 ?_; first | refine NX.one (One.neBoolM hA tabOk rfl rfl rfl rfl rfl) ?_) | (refine NX.k 10 ?_; first | refine NX.one (One.lenOwnM hA tabOk rfl rfl rfl rfl) ?_) | (refine NX.k 11 ?_; first | refine NX.one (One.appendM hA tabOk _ rfl rfl rfl rfl rfl rfl ?_ ?_) ?_ | refine NX.one (One.appendMM hA tabOk rfl rfl rfl rfl rfl ?_ ?_) ?_ | refine NX.one (One.appendOwnM hA tabOk _ rfl rfl rfl rfl rfl rfl rfl ?_ ?_) ?_ | refine NX.one (One.appendOwnMM hA tabOk rfl rfl rfl rfl rfl rfl ?_ ?_) ?_ | refine NX.one (One.appendOwn0 hA tabOk rfl rfl rfl rfl rfl rfl ?_ ?_) ?_) | (refine NX.k 13 ?_; first | refine NX.one (One.byteM hA tabOk rfl rfl rfl rfl rfl ?_ ?_) ?_) | (refine NX.k 14 ?_; first | refine NX.one (One.loadRatM hA tabOk rfl rfl rfl rfl rfl rfl ?_) ?_) | (refine NX.k 15 ?_; first | refine NX.one (One.storeRatM hA tabOk _ rfl rfl rfl rfl rfl rfl rfl rfl (fun _ => rfl) ?_) ?_) | (refine NX.k 16 ?_; first | refine NX.one (One.makeM hA tabOk encI 0 rfl rfl rfl rfl rfl rfl rfl ?_ ?_ ?_) ?_) | (refine NX.k 17 ?_; first | refine NX.one (One.build0 tabOk rfl rfl) ?_) | (refine NX.k 18 ?_; first | refine NX.one (One.fieldRat tabOk rfl rfl rfl rfl (by decide) rfl rfl) ?_)) <;> (first | refine AOLg.pass ?_ | (((try simp only [zn]) <;> (try simp (disch := omega) only [zz hA, zb, zy, reduceCtorEq, Bool.false_eq_true, Int.reduceLT, Int.reduceLE, Int.reduceNeg]) <;> (try simp only [zw])) <;> omega)))
              | refine NX.raw ?_)
          | (refine QSg.pass ?_; refine QSg.nx hA tabOk (by conv => lhs; cbv) ?_; first
              | refine QX.done ?_
              | refine QX.gt ?_
              | refine QX.gf ?_
              | (refine QX.gs ?_ ?_ <;> intro hc <;> rw [hc] <;> ((try simp only [zn] at hc) <;> (try simp (disch := omega) only [zz hA, zb, zy, reduceCtorEq, Bool.false_eq_true, Int.reduceLT, Int.reduceLE, Int.reduceNeg] at hc) <;> (try simp only [zw] at hc)) <;> (try (exfalso; omega)))
              | (refine QX.kC ?_; first | (with_reducible refine QX.call (there_c hA V N M _) rfl ?_) | ((with_reducible refine QX.call (hcl _ ?_) rfl ?_) <;> (first | refine QSg.pass ?_ | (((try simp only [zn]) <;> (try simp (disch := omega) only [zz hA, zb, zy, reduceCtorEq, Bool.false_eq_true, Int.reduceLT, Int.reduceLE, Int.reduceNeg]) <;> (try simp only [zw])) <;> omega))) | ((first | refine QX.call (there_c hA V N M _) rfl ?_ | refine QX.call (hcl _ ?_) rfl ?_) <;> (first | refine QSg.pass ?_ | (((try simp only [zn]) <;> (try simp (disch := omega) only [zz hA, zb, zy, reduceCtorEq, Bool.false_eq_true, Int.reduceLT, Int.reduceLE, Int.reduceNeg]) <;> (try simp only [zw])) <;> omega))) | fail)
              | (refine QX.kO ?_; (first | refine QX.callO (there_c hA V N M _) rfl (by simp [allEq]) rfl ?_ | refine QX.callO (hcl _ ?_) rfl (by simp [allEq]) rfl ?_) <;> (first | refine QSg.pass ?_ | (((try simp only [zn]) <;> (try simp (disch := omega) only [zz hA, zb, zy, reduceCtorEq, Bool.false_eq_true, Int.reduceLT, Int.reduceLE, Int.reduceNeg]) <;> (try simp only [zw])) <;> omega)))
              | ((first | (refine QX.k 1 ?_; first | refine QX.one rfl (One.elemM hA tabOk rfl rfl rfl rfl ?_ ?_) ?_ | refine QX.one rfl (One.elemOwnM hA tabOk rfl rfl rfl rfl rfl ?_ ?_) ?_) | (refine QX.k 2 ?_; first | refine QX.one rfl (One.clipM tabOk rfl rfl rfl rfl rfl ?_ ?_) ?_ | refine QX.one rfl (One.cut_hM hA tabOk rfl rfl rfl rfl ?_ ?_) ?_ | refine QX.one rfl (One.cut_lM hA tabOk rfl rfl rfl rfl ?_ ?_) ?_ | refine QX.one rfl (One.cut_lhM hA tabOk rfl rfl rfl rfl rfl ?_ ?_ ?_) ?_) | (refine QX.k 3 ?_; first | refine QX.one rfl (One.quoM hA rfl rfl rfl ?_) ?_) | (refine QX.k 4 ?_; first | refine QX.one rfl (One.remM hA rfl rfl rfl ?_) ?_) | (refine QX.k 5 ?_; first | refine QX.one rfl (One.shrM hA rfl rfl rfl ?_) ?_) | (refine QX.k 6 ?_; first | refine QX.one rfl (One.bitsM hA rfl rfl rfl rfl) ?_) | (refine QX.k 7 ?_; first | refine QX.one rfl (One.concatM hA rfl rfl rfl ?_) ?_) | (refine QX.k 8 ?_; first | refine QX.one rfl (One.eqBoolM hA tabOk rfl rfl rfl rfl rfl) ?_) | (refine QX.k 9 ?_; first | refine QX.one rfl (One.neBoolM hA tabOk rfl rfl rfl rfl rfl) ?_) | (refine QX.k 10 ?_; first | refine QX.one rfl (One.lenOwnM hA tabOk rfl rfl rfl rfl) ?_) | (refine QX.k 11 ?_; first | refine QX.one rfl (One.appendM hA tabOk _ rfl rfl rfl rfl rfl rfl ?_ ?_) ?_ | refine QX.one rfl (One.appendMM hA tabOk rfl rfl rfl rfl rfl ?_ ?_) ?_ | refine QX.one rfl (One.appendOwnM hA tabOk _ rfl rfl rfl rfl rfl rfl rfl ?_ ?_) ?_ | refine QX.one rfl (One.appendOwnMM hA tabOk rfl rfl rfl rfl rfl rfl ?_ ?_) ?_ | refine QX.one rfl (One.appendOwn0 hA tabOk rfl rfl rfl rfl rfl rfl ?_ ?_) ?_) | (refine QX.k 13 ?_; first | refine QX.one rfl (One.byteM hA tabOk rfl rfl rfl rfl rfl ?_ ?_) ?_) | (refine QX.k 14 ?_; first | refine QX.one rfl (One.loadRatM hA tabOk rfl rfl rfl rfl rfl rfl ?_) ?_) | (refine QX.k 15 ?_; first | refine QX.one rfl (One.storeRatM hA tabOk _ rfl rfl rfl rfl rfl rfl rfl rfl (fun _ => rfl) ?_) ?_) | (refine QX.k 16 ?_; first | refine QX.one rfl (One.makeM hA tabOk encI 0 rfl rfl rfl rfl rfl rfl rfl ?_ ?_ ?_) ?_) | (refine QX.k 17 ?_; first | refine QX.one rfl (One.build0 tabOk rfl rfl) ?_) | (refine QX.k 18 ?_; first | refine QX.one rfl (One.fieldRat tabOk rfl rfl rfl rfl (by decide) rfl rfl) ?_)) <;> (first | refine QSg.pass ?_ | (((try simp only [zn]) <;> (try simp (disch := omega) only [zz hA, zb, zy, reduceCtorEq, Bool.false_eq_true, Int.reduceLT, Int.reduceLE, Int.reduceNeg]) <;> (try simp only [zw])) <;> omega)))
              | refine QX.raw ?_)
          | refine Thn.exit ?_
          | refine Blk.here ?_
          | refine Blk.other (by decide) ?_
          | refine ⟨.inl rfl, _, RetOk.ev tabOk (by conv => lhs; cbv), ?_⟩
          | fail)
        all_goals
          refine AWp.loopU (fun k : Nat => [(10, .ic (.lit (.int .i64 (hid A (cN k)))))]) (fun _ => [.var true 25 [.ic (.sl 1 false (hid A (List.map encI V))), .ic (.sl 2 false (hid A (List.map encN N))), .ic (.sl 1 false (hid A (List.map encI M)))]]) (fun k => K.length - k) (fun k => k ≤ K.length) 0 (by conv => lhs; cbv) (Nat.zero_le _) (by (repeat' (first | exact subE.nil | refine subE.cons rfl ?_ | refine subE.int rfl ?_ ?_ | refine subE.bool rfl ?_ ?_ | refine subE.str rfl ?_ ?_ | refine subE.sl rfl ?_ ?_)) <;> simp [hA, real, hid, cN]) rfl ?_
          intro k hk0
          by_cases hk : k < K.length
          · obtain ⟨k1, k2⟩ := hKm k hk
            try first | refine AOLg.of [] ?_ | refine QSg.of [] ?_
            repeat' (first
              | (refine AWp.pass ?_; first
                  | refine AWp.seq ?_
                  | refine AWp.block ?_
                  | refine AWp.skip ?_
                  | refine AWp.regG [] (by conv => lhs; cbv) ?_
                  | refine AWp.cond_t rfl ?_
                  | refine AWp.cond_f rfl ?_
                  | (refine AWp.cond rfl ?_ ?_ <;> intro hc <;> (try rw [hc]) <;> ((try simp only [zn] at hc) <;> (try simp (disch := omega) only [zz hA, zb, zy, reduceCtorEq, Bool.false_eq_true, Int.reduceLT, Int.reduceLE, Int.reduceNeg] at hc) <;> (try simp only [zw] at hc)) <;> (try (exfalso; omega)))
                  | refine AWp.exit ?_
                  | refine AWp.ret ⟨.inr rfl, _, RetOk.ev tabOk (by conv => lhs; cbv), ?_⟩
                  | refine AWp.drawKG [] 0 rfl (by decide +kernel) (by conv => lhs; cbv) (by conv => lhs; cbv) ?_
                  | refine AWp.drawKG [] 1 rfl (by decide +kernel) (by conv => lhs; cbv) (by conv => lhs; cbv) ?_
                  | refine AWp.drawKG [] 2 rfl (by decide +kernel) (by conv => lhs; cbv) (by conv => lhs; cbv) ?_
                  | refine AWp.drawKG [] 3 rfl (by decide +kernel) (by conv => lhs; cbv) (by conv => lhs; cbv) ?_
                  | refine AWp.drawKG [] 4 rfl (by decide +kernel) (by conv => lhs; cbv) (by conv => lhs; cbv) ?_
                  | refine AWp.drawKG [] 5 rfl (by decide +kernel) (by conv => lhs; cbv) (by conv => lhs; cbv) ?_
                  | refine AWp.drawKG [] 6 rfl (by decide +kernel) (by conv => lhs; cbv) (by conv => lhs; cbv) ?_
                  | refine AWp.drawKG [] 8 rfl (by decide +kernel) (by conv => lhs; cbv) (by conv => lhs; cbv) ?_)
              | (refine AOLg.pass ?_; refine AOLg.nx hA tabOk (by conv => lhs; cbv) ?_; first
                  | refine NX.done ?_
                  | refine NX.gt ?_
                  | refine NX.gf ?_
                  | (refine NX.gs ?_ ?_ <;> intro hc <;> rw [hc] <;> ((try simp only [zn] at hc) <;> (try simp (disch := omega) only [zz hA, zb, zy, reduceCtorEq, Bool.false_eq_true, Int.reduceLT, Int.reduceLE, Int.reduceNeg] at hc) <;> (try simp only [zw] at hc)) <;> (try (exfalso; omega)))
                  | (refine NX.kC ?_; first | (with_reducible refine NX.call (there_c hA V N M _) ?_) | ((with_reducible refine NX.call (find_c hA V N M ranks hR _ ?_ ?_) ?_) <;> (first | refine AOLg.pass ?_ | (((try simp only [zn]) <;> (try simp (disch := omega) only [zz hA, zb, zy, reduceCtorEq, Bool.false_eq_true, Int.reduceLT, Int.reduceLE, Int.reduceNeg]) <;> (try simp only [zw])) <;> omega))) | ((first | refine NX.call (there_c hA V N M _) ?_ | refine NX.call (find_c hA V N M ranks hR _ ?_ ?_) ?_) <;> (first | refine AOLg.pass ?_ | (((try simp only [zn]) <;> (try simp (disch := omega) only [zz hA, zb, zy, reduceCtorEq, Bool.false_eq_true, Int.reduceLT, Int.reduceLE, Int.reduceNeg]) <;> (try simp only [zw])) <;> omega))) | fail)
                  | (refine NX.kO ?_; (first | refine NX.callO (there_c hA V N M _) (by simp [allEq]) rfl ?_ | refine NX.callO (find_c hA V N M ranks hR _ ?_ ?_) (by simp [allEq]) rfl ?_) <;> (first | refine AOLg.pass ?_ | (((try simp only [zn]) <;> (try simp (disch := omega) only [zz hA, zb, zy, reduceCtorEq, Bool.false_eq_true, Int.reduceLT, Int.reduceLE, Int.reduceNeg]) <;> (try simp only [zw])) <;> omega)))
                  | ((first | (refine NX.k 1 ?_; first | refine NX.one (One.elemM hA tabOk rfl rfl rfl rfl ?_ ?_) ?_ | refine NX.one (One.elemOwnM hA tabOk rfl rfl rfl rfl rfl ?_ ?_) ?_) | (refine NX.k 2 ?_; first | refine NX.one (One.clipM tabOk rfl rfl rfl rfl rfl ?_ ?_) ?_ | refine NX.one (One.cut_hM hA tabOk rfl rfl rfl rfl ?_ ?_) ?_ | refine NX.one (One.cut_lM hA tabOk rfl rfl rfl rfl ?_ ?_) ?_ | refine NX.one (One.cut_lhM hA tabOk rfl rfl rfl rfl rfl ?_ ?_ ?_) ?_) | (refine NX.k 3 ?_; first | refine NX.one (One.quoM hA rfl rfl rfl ?_) ?_) | (refine NX.k 4 ?_; first | refine NX.one (One.remM hA rfl rfl rfl ?_) ?_) | (refine NX.k 5 ?_; first | refine NX.one (One.shrM hA rfl rfl rfl ?_) ?_) | (refine NX.k 6 ?_; first | refine NX.one (One.bitsM hA rfl rfl rfl rfl) ?_) | (refine NX.k 7 ?_; first | refine NX.one (One.concatM hA rfl rfl rfl ?_) ?_) | (refine NX.k 8 ?_; first | refine NX.one (One.eqBoolM hA tabOk rfl rfl rfl rfl rfl) ?_) | (refine NX.k 9 ?_; first | refine NX.one (One.neBoolM hA tabOk rfl rfl rfl rfl rfl) ?_) | (refine NX.k 10 ?_; first | refine NX.one (One.lenOwnM hA tabOk rfl rfl rfl rfl) ?_) | (refine NX.k 11 ?_; first | refine NX.one (One.appendM hA tabOk _ rfl rfl rfl rfl rfl rfl ?_ ?_) ?_ | refine NX.one (One.appendMM hA tabOk rfl rfl rfl rfl rfl ?_ ?_) ?_ | refine NX.one (One.appendOwnM hA tabOk _ rfl rfl rfl rfl rfl rfl rfl ?_ ?_) ?_ | refine NX.one (One.appendOwnMM hA tabOk rfl rfl rfl rfl rfl rfl ?_ ?_) ?_ | refine NX.one (One.appendOwn0 hA tabOk rfl rfl rfl rfl rfl rfl ?_ ?_) ?_) | (refine NX.k 13 ?_; first | refine NX.one (One.byteM hA tabOk rfl rfl rfl rfl rfl ?_ ?_) ?_) | (refine NX.k 14 ?_; first | refine NX.one (One.loadRatM hA tabOk rfl rfl rfl rfl rfl rfl ?_) ?_) | (refine NX.k 15 ?_; first | refine NX.one (One.storeRatM hA tabOk _ rfl rfl rfl rfl rfl rfl rfl rfl (fun _ => rfl) ?_) ?_) | (refine NX.k 16 ?_; first | refine NX.one (One.makeM hA tabOk encI 0 rfl rfl rfl rfl rfl rfl rfl ?_ ?_ ?_) ?_) | (refine NX.k 17 ?_; first | refine NX.one (One.build0 tabOk rfl rfl) ?_) | (refine NX.k 18 ?_; first | refine NX.one (One.fieldRat tabOk rfl rfl rfl rfl (by decide) rfl rfl) ?_)) <;> (first | refine AOLg.pass ?_ | (((try simp only [zn]) <;> (try simp (disch := omega) only [zz hA, zb, zy, reduceCtorEq, Bool.false_eq_true, Int.reduceLT, Int.reduceLE, Int.reduceNeg]) <;> (try simp only [zw])) <;> omega)))
                  | refine NX.raw ?_)
              | (refine QSg.pass ?_; refine QSg.nx hA tabOk (by conv => lhs; cbv) ?_; first
                  | refine QX.done ?_
                  | refine QX.gt ?_
                  | refine QX.gf ?_
                  | (refine QX.gs ?_ ?_ <;> intro hc <;> rw [hc] <;> ((try simp only [zn] at hc) <;> (try simp (disch := omega) only [zz hA, zb, zy, reduceCtorEq, Bool.false_eq_true, Int.reduceLT, Int.reduceLE, Int.reduceNeg] at hc) <;> (try simp only [zw] at hc)) <;> (try (exfalso; omega)))
                  | (refine QX.kC ?_; first | (with_reducible refine QX.call (there_c hA V N M _) rfl ?_) | ((with_reducible refine QX.call (find_c hA V N M ranks hR _ ?_ ?_) rfl ?_) <;> (first | refine QSg.pass ?_ | (((try simp only [zn]) <;> (try simp (disch := omega) only [zz hA, zb, zy, reduceCtorEq, Bool.false_eq_true, Int.reduceLT, Int.reduceLE, Int.reduceNeg]) <;> (try simp only [zw])) <;> omega))) | ((first | refine QX.call (there_c hA V N M _) rfl ?_ | refine QX.call (find_c hA V N M ranks hR _ ?_ ?_) rfl ?_) <;> (first | refine QSg.pass ?_ | (((try simp only [zn]) <;> (try simp (disch := omega) only [zz hA, zb, zy, reduceCtorEq, Bool.false_eq_true, Int.reduceLT, Int.reduceLE, Int.reduceNeg]) <;> (try simp only [zw])) <;> omega))) | fail)
                  | (refine QX.kO ?_; (first | refine QX.callO (there_c hA V N M _) rfl (by simp [allEq]) rfl ?_ | refine QX.callO (find_c hA V N M ranks hR _ ?_ ?_) rfl (by simp [allEq]) rfl ?_) <;> (first | refine QSg.pass ?_ | (((try simp only [zn]) <;> (try simp (disch := omega) only [zz hA, zb, zy, reduceCtorEq, Bool.false_eq_true, Int.reduceLT, Int.reduceLE, Int.reduceNeg]) <;> (try simp only [zw])) <;> omega)))
                  | ((first | (refine QX.k 1 ?_; first | refine QX.one rfl (One.elemM hA tabOk rfl rfl rfl rfl ?_ ?_) ?_ | refine QX.one rfl (One.elemOwnM hA tabOk rfl rfl rfl rfl rfl ?_ ?_) ?_) | (refine QX.k 2 ?_; first | refine QX.one rfl (One.clipM tabOk rfl rfl rfl rfl rfl ?_ ?_) ?_ | refine QX.one rfl (One.cut_hM hA tabOk rfl rfl rfl rfl ?_ ?_) ?_ | refine QX.one rfl (One.cut_lM hA tabOk rfl rfl rfl rfl ?_ ?_) ?_ | refine QX.one rfl (One.cut_lhM hA tabOk rfl rfl rfl rfl rfl ?_ ?_ ?_) ?_) | (refine QX.k 3 ?_; first | refine QX.one rfl (One.quoM hA rfl rfl rfl ?_) ?_) | (refine QX.k 4 ?_; first | refine QX.one rfl (One.remM hA rfl rfl rfl ?_) ?_) | (refine QX.k 5 ?_; first | refine QX.one rfl (One.shrM hA rfl rfl rfl ?_) ?_) | (refine QX.k 6 ?_; first | refine QX.one rfl (One.bitsM hA rfl rfl rfl rfl) ?_) | (refine QX.k 7 ?_; first | refine QX.one rfl (One.concatM hA rfl rfl rfl ?_) ?_) | (refine QX.k 8 ?_; first | refine QX.one rfl (One.eqBoolM hA tabOk rfl rfl rfl rfl rfl) ?_) | (refine QX.k 9 ?_; first | refine QX.one rfl (One.neBoolM hA tabOk rfl rfl rfl rfl rfl) ?_) | (refine QX.k 10 ?_; first | refine QX.one rfl (One.lenOwnM hA tabOk rfl rfl rfl rfl) ?_) | (refine QX.k 11 ?_; first | refine QX.one rfl (One.appendM hA tabOk _ rfl rfl rfl rfl rfl rfl ?_ ?_) ?_ | refine QX.one rfl (One.appendMM hA tabOk rfl rfl rfl rfl rfl ?_ ?_) ?_ | refine QX.one rfl (One.appendOwnM hA tabOk _ rfl rfl rfl rfl rfl rfl rfl ?_ ?_) ?_ | refine QX.one rfl (One.appendOwnMM hA tabOk rfl rfl rfl rfl rfl rfl ?_ ?_) ?_ | refine QX.one rfl (One.appendOwn0 hA tabOk rfl rfl rfl rfl rfl rfl ?_ ?_) ?_) | (refine QX.k 13 ?_; first | refine QX.one rfl (One.byteM hA tabOk rfl rfl rfl rfl rfl ?_ ?_) ?_) | (refine QX.k 14 ?_; first | refine QX.one rfl (One.loadRatM hA tabOk rfl rfl rfl rfl rfl rfl ?_) ?_) | (refine QX.k 15 ?_; first | refine QX.one rfl (One.storeRatM hA tabOk _ rfl rfl rfl rfl rfl rfl rfl rfl (fun _ => rfl) ?_) ?_) | (refine QX.k 16 ?_; first | refine QX.one rfl (One.makeM hA tabOk encI 0 rfl rfl rfl rfl rfl rfl rfl ?_ ?_ ?_) ?_) | (refine QX.k 17 ?_; first | refine QX.one rfl (One.build0 tabOk rfl rfl) ?_) | (refine QX.k 18 ?_; first | refine QX.one rfl (One.fieldRat tabOk rfl rfl rfl rfl (by decide) rfl rfl) ?_)) <;> (first | refine QSg.pass ?_ | (((try simp only [zn]) <;> (try simp (disch := omega) only [zz hA, zb, zy, reduceCtorEq, Bool.false_eq_true, Int.reduceLT, Int.reduceLE, Int.reduceNeg]) <;> (try simp only [zw])) <;> omega)))
                  | refine QX.raw ?_)
              | refine Thn.exit ?_
              | refine Blk.here ?_
              | refine Blk.other (by decide) ?_
              | refine ⟨.inl rfl, _, RetOk.ev tabOk (by conv => lhs; cbv), ?_⟩
              | fail)
            refine ⟨k + 1, ?_, ?_, rfl, rfl, ?_, (by repeat' (first | exact subE.nil | refine subE.cons rfl ?_))⟩ <;> (try omega)
            repeat' (first | exact subE.nil | refine subE.cons rfl ?_ | refine subE.int rfl ?_ ?_ | refine subE.bool rfl ?_ ?_ | refine subE.str rfl ?_ ?_ | refine subE.sl rfl ?_ ?_)
            (((try simp only [zn]) <;> (try simp (disch := omega) only [zz hA, zb, zy, reduceCtorEq, Bool.false_eq_true, Int.reduceLT, Int.reduceLE, Int.reduceNeg]) <;> (try simp only [zw])) <;> omega)
          · obtain rfl : k = K.length := by omega
            try first | refine AOLg.of [] ?_ | refine QSg.of [] ?_
            repeat' (first
              | (refine AWp.pass ?_; first
                  | refine AWp.seq ?_
                  | refine AWp.block ?_
                  | refine AWp.skip ?_
                  | refine AWp.regG [] (by conv => lhs; cbv) ?_
                  | refine AWp.cond_t rfl ?_
                  | refine AWp.cond_f rfl ?_
                  | (refine AWp.cond rfl ?_ ?_ <;> intro hc <;> (try rw [hc]) <;> ((try simp only [zn] at hc) <;> (try simp (disch := omega) only [zz hA, zb, zy, reduceCtorEq, Bool.false_eq_true, Int.reduceLT, Int.reduceLE, Int.reduceNeg] at hc) <;> (try simp only [zw] at hc)) <;> (try (exfalso; omega)))
                  | refine AWp.exit ?_
                  | refine AWp.ret ⟨.inr rfl, _, RetOk.ev tabOk (by conv => lhs; cbv), ?_⟩
                  | refine AWp.drawKG [] 0 rfl (by decide +kernel) (by conv => lhs; cbv) (by conv => lhs; cbv) ?_
                  | refine AWp.drawKG [] 1 rfl (by decide +kernel) (by conv => lhs; cbv) (by conv => lhs; cbv) ?_
                  | refine AWp.drawKG [] 2 rfl (by decide +kernel) (by conv => lhs; cbv) (by conv => lhs; cbv) ?_
                  | refine AWp.drawKG [] 3 rfl (by decide +kernel) (by conv => lhs; cbv) (by conv => lhs; cbv) ?_
                  | refine AWp.drawKG [] 4 rfl (by decide +kernel) (by conv => lhs; cbv) (by conv => lhs; cbv) ?_
                  | refine AWp.drawKG [] 5 rfl (by decide +kernel) (by conv => lhs; cbv) (by conv => lhs; cbv) ?_
                  | refine AWp.drawKG [] 6 rfl (by decide +kernel) (by conv => lhs; cbv) (by conv => lhs; cbv) ?_
                  | refine AWp.drawKG [] 8 rfl (by decide +kernel) (by conv => lhs; cbv) (by conv => lhs; cbv) ?_)
              | (refine AOLg.pass ?_; refine AOLg.nx hA tabOk (by conv => lhs; cbv) ?_; first
                  | refine NX.done ?_
                  | refine NX.gt ?_
                  | refine NX.gf ?_
                  | (refine NX.gs ?_ ?_ <;> intro hc <;> rw [hc] <;> ((try simp only [zn] at hc) <;> (try simp (disch := omega) only [zz hA, zb, zy, reduceCtorEq, Bool.false_eq_true, Int.reduceLT, Int.reduceLE, Int.reduceNeg] at hc) <;> (try simp only [zw] at hc)) <;> (try (exfalso; omega)))
                  | ((first | (refine NX.k 1 ?_; first | refine NX.one (One.elemM hA tabOk rfl rfl rfl rfl ?_ ?_) ?_ | refine NX.one (One.elemOwnM hA tabOk rfl rfl rfl rfl rfl ?_ ?_) ?_) | (refine NX.k 2 ?_; first | refine NX.one (One.clipM tabOk rfl rfl rfl rfl rfl ?_ ?_) ?_ | refine NX.one (One.cut_hM hA tabOk rfl rfl rfl rfl ?_ ?_) ?_ | refine NX.one (One.cut_lM hA tabOk rfl rfl rfl rfl ?_ ?_) ?_ | refine NX.one (One.cut_lhM hA tabOk rfl rfl rfl rfl rfl ?_ ?_ ?_) ?_) | (refine NX.k 3 ?_; first | refine NX.one (One.quoM hA rfl rfl rfl ?_) ?_) | (refine NX.k 4 ?_; first | refine NX.one (One.remM hA rfl rfl rfl ?_) ?_) | (refine NX.k 5 ?_; first | refine NX.one (One.shrM hA rfl rfl rfl ?_) ?_) | (refine NX.k 6 ?_; first | refine NX.one (One.bitsM hA rfl rfl rfl rfl) ?_) | (refine NX.k 7 ?_; first | refine NX.one (One.concatM hA rfl rfl rfl ?_) ?_) | (refine NX.k 8 ?_; first | refine NX.one (One.eqBoolM hA tabOk rfl rfl rfl rfl rfl) ?_) | (refine NX.k 9 ?_; first | refine NX.one (One.neBoolM hA tabOk rfl rfl rfl rfl rfl) ?_) | (refine NX.k 10 ?_; first | refine NX.one (One.lenOwnM hA tabOk rfl rfl rfl rfl) ?_) | (refine NX.k 11 ?_; first | refine NX.one (One.appendM hA tabOk _ rfl rfl rfl rfl rfl rfl ?_ ?_) ?_ | refine NX.one (One.appendMM hA tabOk rfl rfl rfl rfl rfl ?_ ?_) ?_ | refine NX.one (One.appendOwnM hA tabOk _ rfl rfl rfl rfl rfl rfl rfl ?_ ?_) ?_ | refine NX.one (One.appendOwnMM hA tabOk rfl rfl rfl rfl rfl rfl ?_ ?_) ?_ | refine NX.one (One.appendOwn0 hA tabOk rfl rfl rfl rfl rfl rfl ?_ ?_) ?_) | (refine NX.k 13 ?_; first | refine NX.one (One.byteM hA tabOk rfl rfl rfl rfl rfl ?_ ?_) ?_) | (refine NX.k 14 ?_; first | refine NX.one (One.loadRatM hA tabOk rfl rfl rfl rfl rfl rfl ?_) ?_) | (refine NX.k 15 ?_; first | refine NX.one (One.storeRatM hA tabOk _ rfl rfl rfl rfl rfl rfl rfl rfl (fun _ => rfl) ?_) ?_) | (refine NX.k 16 ?_; first | refine NX.one (One.makeM hA tabOk encI 0 rfl rfl rfl rfl rfl rfl rfl ?_ ?_ ?_) ?_) | (refine NX.k 17 ?_; first | refine NX.one (One.build0 tabOk rfl rfl) ?_) | (refine NX.k 18 ?_; first | refine NX.one (One.fieldRat tabOk rfl rfl rfl rfl (by decide) rfl rfl) ?_)) <;> (first | refine AOLg.pass ?_ | (((try simp only [zn]) <;> (try simp (disch := omega) only [zz hA, zb, zy, reduceCtorEq, Bool.false_eq_true, Int.reduceLT, Int.reduceLE, Int.reduceNeg]) <;> (try simp only [zw])) <;> omega)))
                  | refine NX.raw ?_)
              | (refine QSg.pass ?_; refine QSg.nx hA tabOk (by conv => lhs; cbv) ?_; first
                  | refine QX.done ?_
                  | refine QX.gt ?_
                  | refine QX.gf ?_
                  | (refine QX.gs ?_ ?_ <;> intro hc <;> rw [hc] <;> ((try simp only [zn] at hc) <;> (try simp (disch := omega) only [zz hA, zb, zy, reduceCtorEq, Bool.false_eq_true, Int.reduceLT, Int.reduceLE, Int.reduceNeg] at hc) <;> (try simp only [zw] at hc)) <;> (try (exfalso; omega)))
                  | ((first | (refine QX.k 1 ?_; first | refine QX.one rfl (One.elemM hA tabOk rfl rfl rfl rfl ?_ ?_) ?_ | refine QX.one rfl (One.elemOwnM hA tabOk rfl rfl rfl rfl rfl ?_ ?_) ?_) | (refine QX.k 2 ?_; first | refine QX.one rfl (One.clipM tabOk rfl rfl rfl rfl rfl ?_ ?_) ?_ | refine QX.one rfl (One.cut_hM hA tabOk rfl rfl rfl rfl ?_ ?_) ?_ | refine QX.one rfl (One.cut_lM hA tabOk rfl rfl rfl rfl ?_ ?_) ?_ | refine QX.one rfl (One.cut_lhM hA tabOk rfl rfl rfl rfl rfl ?_ ?_ ?_) ?_) | (refine QX.k 3 ?_; first | refine QX.one rfl (One.quoM hA rfl rfl rfl ?_) ?_) | (refine QX.k 4 ?_; first | refine QX.one rfl (One.remM hA rfl rfl rfl ?_) ?_) | (refine QX.k 5 ?_; first | refine QX.one rfl (One.shrM hA rfl rfl rfl ?_) ?_) | (refine QX.k 6 ?_; first | refine QX.one rfl (One.bitsM hA rfl rfl rfl rfl) ?_) | (refine QX.k 7 ?_; first | refine QX.one rfl (One.concatM hA rfl rfl rfl ?_) ?_) | (refine QX.k 8 ?_; first | refine QX.one rfl (One.eqBoolM hA tabOk rfl rfl rfl rfl rfl) ?_) | (refine QX.k 9 ?_; first | refine QX.one rfl (One.neBoolM hA tabOk rfl rfl rfl rfl rfl) ?_) | (refine QX.k 10 ?_; first | refine QX.one rfl (One.lenOwnM hA tabOk rfl rfl rfl rfl) ?_) | (refine QX.k 11 ?_; first | refine QX.one rfl (One.appendM hA tabOk _ rfl rfl rfl rfl rfl rfl ?_ ?_) ?_ | refine QX.one rfl (One.appendMM hA tabOk rfl rfl rfl rfl rfl ?_ ?_) ?_ | refine QX.one rfl (One.appendOwnM hA tabOk _ rfl rfl rfl rfl rfl rfl rfl ?_ ?_) ?_ | refine QX.one rfl (One.appendOwnMM hA tabOk rfl rfl rfl rfl rfl rfl ?_ ?_) ?_ | refine QX.one rfl (One.appendOwn0 hA tabOk rfl rfl rfl rfl rfl rfl ?_ ?_) ?_) | (refine QX.k 13 ?_; first | refine QX.one rfl (One.byteM hA tabOk rfl rfl rfl rfl rfl ?_ ?_) ?_) | (refine QX.k 14 ?_; first | refine QX.one rfl (One.loadRatM hA tabOk rfl rfl rfl rfl rfl rfl ?_) ?_) | (refine QX.k 15 ?_; first | refine QX.one rfl (One.storeRatM hA tabOk _ rfl rfl rfl rfl rfl rfl rfl rfl (fun _ => rfl) ?_) ?_) | (refine QX.k 16 ?_; first | refine QX.one rfl (One.makeM hA tabOk encI 0 rfl rfl rfl rfl rfl rfl rfl ?_ ?_ ?_) ?_) | (refine QX.k 17 ?_; first | refine QX.one rfl (One.build0 tabOk rfl rfl) ?_) | (refine QX.k 18 ?_; first | refine QX.one rfl (One.fieldRat tabOk rfl rfl rfl rfl (by decide) rfl rfl) ?_)) <;> (first | refine QSg.pass ?_ | (((try simp only [zn]) <;> (try simp (disch := omega) only [zz hA, zb, zy, reduceCtorEq, Bool.false_eq_true, Int.reduceLT, Int.reduceLE, Int.reduceNeg]) <;> (try simp only [zw])) <;> omega)))
                  | refine QX.raw ?_)
              | refine Thn.exit ?_
              | refine Blk.here ?_
              | refine Blk.other (by decide) ?_
              | refine ⟨.inl rfl, _, RetOk.ev tabOk (by conv => lhs; cbv), ?_⟩
              | fail)
            refine ⟨i + 1, ?_, ?_, rfl, rfl, ?_, (by repeat' (first | exact subE.nil | refine subE.cons rfl ?_))⟩ <;> (try omega)
            repeat' (first | exact subE.nil | refine subE.cons rfl ?_ | refine subE.int rfl ?_ ?_ | refine subE.bool rfl ?_ ?_ | refine subE.str rfl ?_ ?_ | refine subE.sl rfl ?_ ?_)
            all_goals (((try simp only [zn]) <;> (try simp (disch := omega) only [zz hA, zb, zy, reduceCtorEq, Bool.false_eq_true, Int.reduceLT, Int.reduceLE, Int.reduceNeg]) <;> (try simp only [zw])) <;> omega)
      · obtain rfl : i = F.length := by omega
        try first | refine AOLg.of [] ?_ | refine QSg.of [] ?_
        repeat' (first
          | (refine AWp.pass ?_; first
              | refine AWp.seq ?_
              | refine AWp.block ?_
              | refine AWp.skip ?_
              | refine AWp.regG [] (by conv => lhs; cbv) ?_
              | refine AWp.cond_t rfl ?_
              | refine AWp.cond_f rfl ?_
              | (refine AWp.cond rfl ?_ ?_ <;> intro hc <;> (try rw [hc]) <;> ((try simp only [zn] at hc) <;> (try simp (disch := omega) only [zz hA, zb, zy, reduceCtorEq, Bool.false_eq_true, Int.reduceLT, Int.reduceLE, Int.reduceNeg] at hc) <;> (try simp only [zw] at hc)) <;> (try (exfalso; omega)))
              | refine AWp.exit ?_
              | refine AWp.ret ⟨.inr rfl, _, RetOk.ev tabOk (by conv => lhs; cbv), ?_⟩
              | refine AWp.drawKG [] 0 rfl (by decide +kernel) (by conv => lhs; cbv) (by conv => lhs; cbv) ?_
              | refine AWp.drawKG [] 1 rfl (by decide +kernel) (by conv => lhs; cbv) (by conv => lhs; cbv) ?_
              | refine AWp.drawKG [] 2 rfl (by decide +kernel) (by conv => lhs; cbv) (by conv => lhs; cbv) ?_
              | refine AWp.drawKG [] 3 rfl (by decide +kernel) (by conv => lhs; cbv) (by conv => lhs; cbv) ?_
              | refine AWp.drawKG [] 4 rfl (by decide +kernel) (by conv => lhs; cbv) (by conv => lhs; cbv) ?_
              | refine AWp.drawKG [] 5 rfl (by decide +kernel) (by conv => lhs; cbv) (by conv => lhs; cbv) ?_
              | refine AWp.drawKG [] 6 rfl (by decide +kernel) (by conv => lhs; cbv) (by conv => lhs; cbv) ?_
              | refine AWp.drawKG [] 8 rfl (by decide +kernel) (by conv => lhs; cbv) (by conv => lhs; cbv) ?_)
          | (refine AOLg.pass ?_; refine AOLg.nx hA tabOk (by conv => lhs; cbv) ?_; first
              | refine NX.done ?_
              | refine NX.gt ?_
              | refine NX.gf ?_
              | (refine NX.gs ?_ ?_ <;> intro hc <;> rw [hc] <;> ((try simp only [zn] at hc) <;> (try simp (disch := omega) only [zz hA, zb, zy, reduceCtorEq, Bool.false_eq_true, Int.reduceLT, Int.reduceLE, Int.reduceNeg] at hc) <;> (try simp only [zw] at hc)) <;> (try (exfalso; omega)))
              | ((first | (refine NX.k 1 ?_; first | refine NX.one (One.elemM hA tabOk rfl rfl rfl rfl ?_ ?_) ?_ | refine NX.one (One.elemOwnM hA tabOk rfl rfl rfl rfl rfl ?_ ?_) ?_) | (refine NX.k 2 ?_; first | refine NX.one (One.clipM tabOk rfl rfl rfl rfl rfl ?_ ?_) ?_ | refine NX.one (One.cut_hM hA tabOk rfl rfl rfl rfl ?_ ?_) ?_ | refine NX.one (One.cut_lM hA tabOk rfl rfl rfl rfl ?_ ?_) ?_ | refine NX.one (One.cut_lhM hA tabOk rfl rfl rfl rfl rfl ?_ ?_ ?_) ?_) | (refine NX.k 3 ?_; first | refine NX.one (One.quoM hA rfl rfl rfl ?_) ?_) | (refine NX.k 4 ?_; first | refine NX.one (One.remM hA rfl rfl rfl ?_) ?_) | (refine NX.k 5 ?_; first | refine NX.one (One.shrM hA rfl rfl rfl ?_) ?_) | (refine NX.k 6 ?_; first | refine NX.one (One.bitsM hA rfl rfl rfl rfl) ?_) | (refine NX.k 7 ?_; first | refine NX.one (One.concatM hA rfl rfl rfl ?_) ?_) | (refine NX.k 8 ?_; first | refine NX.one (One.eqBoolM hA tabOk rfl rfl rfl rfl rfl) ?_) | (refine NX.k 9 ?_; first | refine NX.one (One.neBoolM hA tabOk rfl rfl rfl rfl rfl) ?_) | (refine NX.k 10 ?_; first | refine NX.one (One.lenOwnM hA tabOk rfl rfl rfl rfl) ?_) | (refine NX.k 11 ?_; first | refine NX.one (One.appendM hA tabOk _ rfl rfl rfl rfl rfl rfl ?_ ?_) ?_ | refine NX.one (One.appendMM hA tabOk rfl rfl rfl rfl rfl ?_ ?_) ?_ | refine NX.one (One.appendOwnM hA tabOk _ rfl rfl rfl rfl rfl rfl rfl ?_ ?_) ?_ | refine NX.one (One.appendOwnMM hA tabOk rfl rfl rfl rfl rfl rfl ?_ ?_) ?_ | refine NX.one (One.appendOwn0 hA tabOk rfl rfl rfl rfl rfl rfl ?_ ?_) ?_) | (refine NX.k 13 ?_; first | refine NX.one (One.byteM hA tabOk rfl rfl rfl rfl rfl ?_ ?_) ?_) | (refine NX.k 14 ?_; first | refine NX.one (One.loadRatM hA tabOk rfl rfl rfl rfl rfl rfl ?_) ?_) | (refine NX.k 15 ?_; first | refine NX.one (One.storeRatM hA tabOk _ rfl rfl rfl rfl rfl rfl rfl rfl (fun _ => rfl) ?_) ?_) | (refine NX.k 16 ?_; first | refine NX.one (One.makeM hA tabOk encI 0 rfl rfl rfl rfl rfl rfl rfl ?_ ?_ ?_) ?_) | (refine NX.k 17 ?_; first | refine NX.one (One.build0 tabOk rfl rfl) ?_) | (refine NX.k 18 ?_; first | refine NX.one (One.fieldRat tabOk rfl rfl rfl rfl (by decide) rfl rfl) ?_)) <;> (first | refine AOLg.pass ?_ | (((try simp only [zn]) <;> (try simp (disch := omega) only [zz hA, zb, zy, reduceCtorEq, Bool.false_eq_true, Int.reduceLT, Int.reduceLE, Int.reduceNeg]) <;> (try simp only [zw])) <;> omega)))
              | refine NX.raw ?_)
          | (refine QSg.pass ?_; refine QSg.nx hA tabOk (by conv => lhs; cbv) ?_; first
              | refine QX.done ?_
              | refine QX.gt ?_
              | refine QX.gf ?_
              | (refine QX.gs ?_ ?_ <;> intro hc <;> rw [hc] <;> ((try simp only [zn] at hc) <;> (try simp (disch := omega) only [zz hA, zb, zy, reduceCtorEq, Bool.false_eq_true, Int.reduceLT, Int.reduceLE, Int.reduceNeg] at hc) <;> (try simp only [zw] at hc)) <;> (try (exfalso; omega)))
              | ((first | (refine QX.k 1 ?_; first | refine QX.one rfl (One.elemM hA tabOk rfl rfl rfl rfl ?_ ?_) ?_ | refine QX.one rfl (One.elemOwnM hA tabOk rfl rfl rfl rfl rfl ?_ ?_) ?_) | (refine QX.k 2 ?_; first | refine QX.one rfl (One.clipM tabOk rfl rfl rfl rfl rfl ?_ ?_) ?_ | refine QX.one rfl (One.cut_hM hA tabOk rfl rfl rfl rfl ?_ ?_) ?_ | refine QX.one rfl (One.cut_lM hA tabOk rfl rfl rfl rfl ?_ ?_) ?_ | refine QX.one rfl (One.cut_lhM hA tabOk rfl rfl rfl rfl rfl ?_ ?_ ?_) ?_) | (refine QX.k 3 ?_; first | refine QX.one rfl (One.quoM hA rfl rfl rfl ?_) ?_) | (refine QX.k 4 ?_; first | refine QX.one rfl (One.remM hA rfl rfl rfl ?_) ?_) | (refine QX.k 5 ?_; first | refine QX.one rfl (One.shrM hA rfl rfl rfl ?_) ?_) | (refine QX.k 6 ?_; first | refine QX.one rfl (One.bitsM hA rfl rfl rfl rfl) ?_) | (refine QX.k 7 ?_; first | refine QX.one rfl (One.concatM hA rfl rfl rfl ?_) ?_) | (refine QX.k 8 ?_; first | refine QX.one rfl (One.eqBoolM hA tabOk rfl rfl rfl rfl rfl) ?_) | (refine QX.k 9 ?_; first | refine QX.one rfl (One.neBoolM hA tabOk rfl rfl rfl rfl rfl) ?_) | (refine QX.k 10 ?_; first | refine QX.one rfl (One.lenOwnM hA tabOk rfl rfl rfl rfl) ?_) | (refine QX.k 11 ?_; first | refine QX.one rfl (One.appendM hA tabOk _ rfl rfl rfl rfl rfl rfl ?_ ?_) ?_ | refine QX.one rfl (One.appendMM hA tabOk rfl rfl rfl rfl rfl ?_ ?_) ?_ | refine QX.one rfl (One.appendOwnM hA tabOk _ rfl rfl rfl rfl rfl rfl rfl ?_ ?_) ?_ | refine QX.one rfl (One.appendOwnMM hA tabOk rfl rfl rfl rfl rfl rfl ?_ ?_) ?_ | refine QX.one rfl (One.appendOwn0 hA tabOk rfl rfl rfl rfl rfl rfl ?_ ?_) ?_) | (refine QX.k 13 ?_; first | refine QX.one rfl (One.byteM hA tabOk rfl rfl rfl rfl rfl ?_ ?_) ?_) | (refine QX.k 14 ?_; first | refine QX.one rfl (One.loadRatM hA tabOk rfl rfl rfl rfl rfl rfl ?_) ?_) | (refine QX.k 15 ?_; first | refine QX.one rfl (One.storeRatM hA tabOk _ rfl rfl rfl rfl rfl rfl rfl rfl (fun _ => rfl) ?_) ?_) | (refine QX.k 16 ?_; first | refine QX.one rfl (One.makeM hA tabOk encI 0 rfl rfl rfl rfl rfl rfl rfl ?_ ?_ ?_) ?_) | (refine QX.k 17 ?_; first | refine QX.one rfl (One.build0 tabOk rfl rfl) ?_) | (refine QX.k 18 ?_; first | refine QX.one rfl (One.fieldRat tabOk rfl rfl rfl rfl (by decide) rfl rfl) ?_)) <;> (first | refine QSg.pass ?_ | (((try simp only [zn]) <;> (try simp (disch := omega) only [zz hA, zb, zy, reduceCtorEq, Bool.false_eq_true, Int.reduceLT, Int.reduceLE, Int.reduceNeg]) <;> (try simp only [zw])) <;> omega)))
              | refine QX.raw ?_)
          | refine Thn.exit ?_
          | refine Blk.here ?_
          | refine Blk.other (by decide) ?_
          | refine ⟨.inl rfl, _, RetOk.ev tabOk (by conv => lhs; cbv), ?_⟩
          | fail)
        all_goals first | (exfalso; omega) | (refine rPV_then (by conv => lhs; cbv) ?_; rfl) | (refine rPV_then (by conv => lhs; cbv) ?_; refine congrArg (fun b => PV.c (IC.lit (Value.bool b))) ?_; ((try simp only [zn]) <;> (try simp (disch := omega) only [zz hA, zb, zy, reduceCtorEq, Bool.false_eq_true, Int.reduceLT, Int.reduceLE, Int.reduceNeg]) <;> (try simp only [zw])); done) | (refine rPV_then (by conv => lhs; cbv) ?_; refine congrArg (fun b => PV.c (IC.lit (Value.bool b))) ?_; ((try simp only [zn]) <;> (try simp (disch := omega) only [zz hA, zb, zy, reduceCtorEq, Bool.false_eq_true, Int.reduceLT, Int.reduceLE, Int.reduceNeg]) <;> (try simp only [zw])); omega) | fail
    · refine PureCalls.of Try.func9 rfl (by kernel_rfl) rfl ?_
      try first | refine AOLg.of [] ?_ | refine QSg.of [] ?_
      repeat' (first
        | (refine AWp.pass ?_; first
            | refine AWp.seq ?_
            | refine AWp.block ?_
            | refine AWp.skip ?_
            | refine AWp.regG [] (by conv => lhs; cbv) ?_
            | refine AWp.cond_t rfl ?_
            | refine AWp.cond_f rfl ?_
            | (refine AWp.cond rfl ?_ ?_ <;> intro hc <;> (try rw [hc]) <;> ((try simp only [zn] at hc) <;> (try simp (disch := omega) only [zz hA, zb, zy, reduceCtorEq, Bool.false_eq_true, Int.reduceLT, Int.reduceLE, Int.reduceNeg] at hc) <;> (try simp only [zw] at hc)) <;> (try (exfalso; omega)))
            | refine AWp.exit ?_
            | refine AWp.ret ⟨.inr rfl, _, RetOk.ev tabOk (by conv => lhs; cbv), ?_⟩
            | refine AWp.drawKG [] 0 rfl (by decide +kernel) (by conv => lhs; cbv) (by conv => lhs; cbv) ?_
            | refine AWp.drawKG [] 1 rfl (by decide +kernel) (by conv => lhs; cbv) (by conv => lhs; cbv) ?_
            | refine AWp.drawKG [] 2 rfl (by decide +kernel) (by conv => lhs; cbv) (by conv => lhs; cbv) ?_
            | refine AWp.drawKG [] 3 rfl (by decide +kernel) (by conv => lhs; cbv) (by conv => lhs; cbv) ?_
            | refine AWp.drawKG [] 4 rfl (by decide +kernel) (by conv => lhs; cbv) (by conv => lhs; cbv) ?_
            | refine AWp.drawKG [] 5 rfl (by decide +kernel) (by conv => lhs; cbv) (by conv => lhs; cbv) ?_
            | refine AWp.drawKG [] 6 rfl (by decide +kernel) (by conv => lhs; cbv) (by conv => lhs; cbv) ?_
            | refine AWp.drawKG [] 8 rfl (by decide +kernel) (by conv => lhs; cbv) (by conv => lhs; cbv) ?_)
        | (refine AOLg.pass ?_; refine AOLg.nx hA tabOk (by conv => lhs; cbv) ?_; first
            | refine NX.done ?_
            | refine NX.gt ?_
            | refine NX.gf ?_
            | (refine NX.gs ?_ ?_ <;> intro hc <;> rw [hc] <;> ((try simp only [zn] at hc) <;> (try simp (disch := omega) only [zz hA, zb, zy, reduceCtorEq, Bool.false_eq_true, Int.reduceLT, Int.reduceLE, Int.reduceNeg] at hc) <;> (try simp only [zw] at hc)) <;> (try (exfalso; omega)))
            | (refine NX.kC ?_; first | (with_reducible refine NX.call (shown5_c hA) ?_) | (with_reducible refine NX.call (hfew) ?_) | (with_reducible refine NX.call (hri) ?_) | ((first | refine NX.call (shown5_c hA) ?_ | refine NX.call (hfew) ?_ | refine NX.call (hri) ?_)) | fail)
            | (refine NX.kO ?_; (first | refine NX.callO (shown5_c hA) (by simp [allEq]) rfl ?_ | refine NX.callO (hfew) (by simp [allEq]) rfl ?_ | refine NX.callO (hri) (by simp [allEq]) rfl ?_))
            | ((first | (refine NX.k 1 ?_; first | refine NX.one (One.elemM hA tabOk rfl rfl rfl rfl ?_ ?_) ?_ | refine NX.one (One.elemOwnM hA tabOk rfl rfl rfl rfl rfl ?_ ?_) ?_) | (refine NX.k 2 ?_; first | refine NX.one (One.clipM tabOk rfl rfl rfl rfl rfl ?_ ?_) ?_ | refine NX.one (One.cut_hM hA tabOk rfl rfl rfl rfl ?_ ?_) ?_ | refine NX.one (One.cut_lM hA tabOk rfl rfl rfl rfl ?_ ?_) ?_ | refine NX.one (One.cut_lhM hA tabOk rfl rfl rfl rfl rfl ?_ ?_ ?_) ?_) | (refine NX.k 3 ?_; first | refine NX.one (One.quoM hA rfl rfl rfl ?_) ?_) | (refine NX.k 4 ?_; first | refine NX.one (One.remM hA rfl rfl rfl ?_) ?_) | (refine NX.k 5 ?_; first | refine NX.one (One.shrM hA rfl rfl rfl ?_) ?_) | (refine NX.k 6 ?_; first | refine NX.one (One.bitsM hA rfl rfl rfl rfl) ?_) | (refine NX.k 7 ?_; first | refine NX.one (One.concatM hA rfl rfl rfl ?_) ?_) | (refine NX.k 8 ?_; first | refine NX.one (One.eqBoolM hA tabOk rfl rfl rfl rfl rfl) ?_) | (refine NX.k 9 ?_; first | refine NX.one (One.neBoolM hA tabOk rfl rfl rfl rfl rfl) ?_) | (refine NX.k 10 ?_; first | refine NX.one (One.lenOwnM hA tabOk rfl rfl rfl rfl) ?_) | (refine NX.k 11 ?_; first | refine NX.one (One.appendM hA tabOk _ rfl rfl rfl rfl rfl rfl ?_ ?_) ?_ | refine NX.one (One.appendMM hA tabOk rfl rfl rfl rfl rfl ?_ ?_) ?_ | refine NX.one (One.appendOwnM hA tabOk _ rfl rfl rfl rfl rfl rfl rfl ?_ ?_) ?_ | refine NX.one (One.appendOwnMM hA tabOk rfl rfl rfl rfl rfl rfl ?_ ?_) ?_ | refine NX.one (One.appendOwn0 hA tabOk rfl rfl rfl rfl rfl rfl ?_ ?_) ?_) | (refine NX.k 13 ?_; first | refine NX.one (One.byteM hA tabOk rfl rfl rfl rfl rfl ?_ ?_) ?_) | (refine NX.k 14 ?_; first | refine NX.one (One.loadRatM hA tabOk rfl rfl rfl rfl rfl rfl ?_) ?_) | (refine NX.k 15 ?_; first | refine NX.one (One.storeRatM hA tabOk _ rfl rfl rfl rfl rfl rfl rfl rfl (fun _ => rfl) ?_) ?_) | (refine NX.k 16 ?_; first | refine NX.one (One.makeM hA tabOk encI 0 rfl rfl rfl rfl rfl rfl rfl ?_ ?_ ?_) ?_) | (refine NX.k 17 ?_; first | refine NX.one (One.build0 tabOk rfl rfl) ?_) | (refine NX.k 18 ?_; first | refine NX.one (One.fieldRat tabOk rfl rfl rfl rfl (by decide) rfl rfl) ?_)) <;> (first | refine AOLg.pass ?_ | (((try simp only [zn]) <;> (try simp (disch := omega) only [zz hA, zb, zy, reduceCtorEq, Bool.false_eq_true, Int.reduceLT, Int.reduceLE, Int.reduceNeg]) <;> (try simp only [zw])) <;> omega)))
            | refine NX.raw ?_)
        | (refine QSg.pass ?_; refine QSg.nx hA tabOk (by conv => lhs; cbv) ?_; first
            | refine QX.done ?_
            | refine QX.gt ?_
            | refine QX.gf ?_
            | (refine QX.gs ?_ ?_ <;> intro hc <;> rw [hc] <;> ((try simp only [zn] at hc) <;> (try simp (disch := omega) only [zz hA, zb, zy, reduceCtorEq, Bool.false_eq_true, Int.reduceLT, Int.reduceLE, Int.reduceNeg] at hc) <;> (try simp only [zw] at hc)) <;> (try (exfalso; omega)))
            | (refine QX.kC ?_; first | (with_reducible refine QX.call (shown5_c hA) rfl ?_) | (with_reducible refine QX.call (hfew) rfl ?_) | (with_reducible refine QX.call (hri) rfl ?_) | ((first | refine QX.call (shown5_c hA) rfl ?_ | refine QX.call (hfew) rfl ?_ | refine QX.call (hri) rfl ?_)) | fail)
            | (refine QX.kO ?_; (first | refine QX.callO (shown5_c hA) rfl (by simp [allEq]) rfl ?_ | refine QX.callO (hfew) rfl (by simp [allEq]) rfl ?_ | refine QX.callO (hri) rfl (by simp [allEq]) rfl ?_))
            | ((first | (refine QX.k 1 ?_; first | refine QX.one rfl (One.elemM hA tabOk rfl rfl rfl rfl ?_ ?_) ?_ | refine QX.one rfl (One.elemOwnM hA tabOk rfl rfl rfl rfl rfl ?_ ?_) ?_) | (refine QX.k 2 ?_; first | refine QX.one rfl (One.clipM tabOk rfl rfl rfl rfl rfl ?_ ?_) ?_ | refine QX.one rfl (One.cut_hM hA tabOk rfl rfl rfl rfl ?_ ?_) ?_ | refine QX.one rfl (One.cut_lM hA tabOk rfl rfl rfl rfl ?_ ?_) ?_ | refine QX.one rfl (One.cut_lhM hA tabOk rfl rfl rfl rfl rfl ?_ ?_ ?_) ?_) | (refine QX.k 3 ?_; first | refine QX.one rfl (One.quoM hA rfl rfl rfl ?_) ?_) | (refine QX.k 4 ?_; first | refine QX.one rfl (One.remM hA rfl rfl rfl ?_) ?_) | (refine QX.k 5 ?_; first | refine QX.one rfl (One.shrM hA rfl rfl rfl ?_) ?_) | (refine QX.k 6 ?_; first | refine QX.one rfl (One.bitsM hA rfl rfl rfl rfl) ?_) | (refine QX.k 7 ?_; first | refine QX.one rfl (One.concatM hA rfl rfl rfl ?_) ?_) | (refine QX.k 8 ?_; first | refine QX.one rfl (One.eqBoolM hA tabOk rfl rfl rfl rfl rfl) ?_) | (refine QX.k 9 ?_; first | refine QX.one rfl (One.neBoolM hA tabOk rfl rfl rfl rfl rfl) ?_) | (refine QX.k 10 ?_; first | refine QX.one rfl (One.lenOwnM hA tabOk rfl rfl rfl rfl) ?_) | (refine QX.k 11 ?_; first | refine QX.one rfl (One.appendM hA tabOk _ rfl rfl rfl rfl rfl rfl ?_ ?_) ?_ | refine QX.one rfl (One.appendMM hA tabOk rfl rfl rfl rfl rfl ?_ ?_) ?_ | refine QX.one rfl (One.appendOwnM hA tabOk _ rfl rfl rfl rfl rfl rfl rfl ?_ ?_) ?_ | refine QX.one rfl (One.appendOwnMM hA tabOk rfl rfl rfl rfl rfl rfl ?_ ?_) ?_ | refine QX.one rfl (One.appendOwn0 hA tabOk rfl rfl rfl rfl rfl rfl ?_ ?_) ?_) | (refine QX.k 13 ?_; first | refine QX.one rfl (One.byteM hA tabOk rfl rfl rfl rfl rfl ?_ ?_) ?_) | (refine QX.k 14 ?_; first | refine QX.one rfl (One.loadRatM hA tabOk rfl rfl rfl rfl rfl rfl ?_) ?_) | (refine QX.k 15 ?_; first | refine QX.one rfl (One.storeRatM hA tabOk _ rfl rfl rfl rfl rfl rfl rfl rfl (fun _ => rfl) ?_) ?_) | (refine QX.k 16 ?_; first | refine QX.one rfl (One.makeM hA tabOk encI 0 rfl rfl rfl rfl rfl rfl rfl ?_ ?_ ?_) ?_) | (refine QX.k 17 ?_; first | refine QX.one rfl (One.build0 tabOk rfl rfl) ?_) | (refine QX.k 18 ?_; first | refine QX.one rfl (One.fieldRat tabOk rfl rfl rfl rfl (by decide) rfl rfl) ?_)) <;> (first | refine QSg.pass ?_ | (((try simp only [zn]) <;> (try simp (disch := omega) only [zz hA, zb, zy, reduceCtorEq, Bool.false_eq_true, Int.reduceLT, Int.reduceLE, Int.reduceNeg]) <;> (try simp only [zw])) <;> omega)))
            | refine QX.raw ?_)
        | refine Thn.exit ?_
        | refine Blk.here ?_
        | refine Blk.other (by decide) ?_
        | refine ⟨.inl rfl, _, RetOk.ev tabOk (by conv => lhs; cbv), ?_⟩
        | fail)
      all_goals first
        | (refine rPV_then (by conv => lhs; cbv) ?_
           simp [hA, real, hid]; done)
        | (exfalso
           simp_all [hid, real] <;> omega)
  · rw [show decide (V.length + N.length + M.length ≤ 500 ∧ ranks.length ≤ 200) = false from decide_eq_false hf] at hfew
    refine PureCalls.of Try.func9 rfl (by kernel_rfl) rfl ?_
    try first | refine AOLg.of [] ?_ | refine QSg.of [] ?_
    repeat' (first
      | (refine AWp.pass ?_; first
          | refine AWp.seq ?_
          | refine AWp.block ?_
          | refine AWp.skip ?_
          | refine AWp.regG [] (by conv => lhs; cbv) ?_
          | refine AWp.cond_t rfl ?_
          | refine AWp.cond_f rfl ?_
          | (refine AWp.cond rfl ?_ ?_ <;> intro hc <;> (try rw [hc]) <;> ((try simp only [zn] at hc) <;> (try simp (disch := omega) only [zz hA, zb, zy, reduceCtorEq, Bool.false_eq_true, Int.reduceLT, Int.reduceLE, Int.reduceNeg] at hc) <;> (try simp only [zw] at hc)) <;> (try (exfalso; omega)))
          | refine AWp.exit ?_
          | refine AWp.ret ⟨.inr rfl, _, RetOk.ev tabOk (by conv => lhs; cbv), ?_⟩
          | refine AWp.drawKG [] 0 rfl (by decide +kernel) (by conv => lhs; cbv) (by conv => lhs; cbv) ?_
          | refine AWp.drawKG [] 1 rfl (by decide +kernel) (by conv => lhs; cbv) (by conv => lhs; cbv) ?_
          | refine AWp.drawKG [] 2 rfl (by decide +kernel) (by conv => lhs; cbv) (by conv => lhs; cbv) ?_
          | refine AWp.drawKG [] 3 rfl (by decide +kernel) (by conv => lhs; cbv) (by conv => lhs; cbv) ?_
          | refine AWp.drawKG [] 4 rfl (by decide +kernel) (by conv => lhs; cbv) (by conv => lhs; cbv) ?_
          | refine AWp.drawKG [] 5 rfl (by decide +kernel) (by conv => lhs; cbv) (by conv => lhs; cbv) ?_
          | refine AWp.drawKG [] 6 rfl (by decide +kernel) (by conv => lhs; cbv) (by conv => lhs; cbv) ?_
          | refine AWp.drawKG [] 8 rfl (by decide +kernel) (by conv => lhs; cbv) (by conv => lhs; cbv) ?_)
      | (refine AOLg.pass ?_; refine AOLg.nx hA tabOk (by conv => lhs; cbv) ?_; first
          | refine NX.done ?_
          | refine NX.gt ?_
          | refine NX.gf ?_
          | (refine NX.gs ?_ ?_ <;> intro hc <;> rw [hc] <;> ((try simp only [zn] at hc) <;> (try simp (disch := omega) only [zz hA, zb, zy, reduceCtorEq, Bool.false_eq_true, Int.reduceLT, Int.reduceLE, Int.reduceNeg] at hc) <;> (try simp only [zw] at hc)) <;> (try (exfalso; omega)))
          | (refine NX.kC ?_; first | (with_reducible refine NX.call (shown5_c hA) ?_) | (with_reducible refine NX.call (hfew) ?_) | ((first | refine NX.call (shown5_c hA) ?_ | refine NX.call (hfew) ?_)) | fail)
          | (refine NX.kO ?_; (first | refine NX.callO (shown5_c hA) (by simp [allEq]) rfl ?_ | refine NX.callO (hfew) (by simp [allEq]) rfl ?_))
          | ((first | (refine NX.k 1 ?_; first | refine NX.one (One.elemM hA tabOk rfl rfl rfl rfl ?_ ?_) ?_ | refine NX.one (One.elemOwnM hA tabOk rfl rfl rfl rfl rfl ?_ ?_) ?_) | (refine NX.k 2 ?_; first | refine NX.one (One.clipM tabOk rfl rfl rfl rfl rfl ?_ ?_) ?_ | refine NX.one (One.cut_hM hA tabOk rfl rfl rfl rfl ?_ ?_) ?_ | refine NX.one (One.cut_lM hA tabOk rfl rfl rfl rfl ?_ ?_) ?_ | refine NX.one (One.cut_lhM hA tabOk rfl rfl rfl rfl rfl ?_ ?_ ?_) ?_) | (refine NX.k 3 ?_; first | refine NX.one (One.quoM hA rfl rfl rfl ?_) ?_) | (refine NX.k 4 ?_; first | refine NX.one (One.remM hA rfl rfl rfl ?_) ?_) | (refine NX.k 5 ?_; first | refine NX.one (One.shrM hA rfl rfl rfl ?_) ?_) | (refine NX.k 6 ?_; first | refine NX.one (One.bitsM hA rfl rfl rfl rfl) ?_) | (refine NX.k 7 ?_; first | refine NX.one (One.concatM hA rfl rfl rfl ?_) ?_) | (refine NX.k 8 ?_; first | refine NX.one (One.eqBoolM hA tabOk rfl rfl rfl rfl rfl) ?_) | (refine NX.k 9 ?_; first | refine NX.one (One.neBoolM hA tabOk rfl rfl rfl rfl rfl) ?_) | (refine NX.k 10 ?_; first | refine NX.one (One.lenOwnM hA tabOk rfl rfl rfl rfl) ?_) | (refine NX.k 11 ?_; first | refine NX.one (One.appendM hA tabOk _ rfl rfl rfl rfl rfl rfl ?_ ?_) ?_ | refine NX.one (One.appendMM hA tabOk rfl rfl rfl rfl rfl ?_ ?_) ?_ | refine NX.one (One.appendOwnM hA tabOk _ rfl rfl rfl rfl rfl rfl rfl ?_ ?_) ?_ | refine NX.one (One.appendOwnMM hA tabOk rfl rfl rfl rfl rfl rfl ?_ ?_) ?_ | refine NX.one (One.appendOwn0 hA tabOk rfl rfl rfl rfl rfl rfl ?_ ?_) ?_) | (refine NX.k 13 ?_; first | refine NX.one (One.byteM hA tabOk rfl rfl rfl rfl rfl ?_ ?_) ?_) | (refine NX.k 14 ?_; first | refine NX.one (One.loadRatM hA tabOk rfl rfl rfl rfl rfl rfl ?_) ?_) | (refine NX.k 15 ?_; first | refine NX.one (One.storeRatM hA tabOk _ rfl rfl rfl rfl rfl rfl rfl rfl (fun _ => rfl) ?_) ?_) | (refine NX.k 16 ?_; first | refine NX.one (One.makeM hA tabOk encI 0 rfl rfl rfl rfl rfl rfl rfl ?_ ?_ ?_) ?_) | (refine NX.k 17 ?_; first | refine NX.one (One.build0 tabOk rfl rfl) ?_) | (refine NX.k 18 ?_; first | refine NX.one (One.fieldRat tabOk rfl rfl rfl rfl (by decide) rfl rfl) ?_)) <;> (first | refine AOLg.pass ?_ | (((try simp only [zn]) <;> (try simp (disch := omega) only [zz hA, zb, zy, reduceCtorEq, Bool.false_eq_true, Int.reduceLT, Int.reduceLE, Int.reduceNeg]) <;> (try simp only [zw])) <;> omega)))
          | refine NX.raw ?_)
      | (refine QSg.pass ?_; refine QSg.nx hA tabOk (by conv => lhs; cbv) ?_; first
          | refine QX.done ?_
          | refine QX.gt ?_
          | refine QX.gf ?_
          | (refine QX.gs ?_ ?_ <;> intro hc <;> rw [hc] <;> ((try simp only [zn] at hc) <;> (try simp (disch := omega) only [zz hA, zb, zy, reduceCtorEq, Bool.false_eq_true, Int.reduceLT, Int.reduceLE, Int.reduceNeg] at hc) <;> (try simp only [zw] at hc)) <;> (try (exfalso; omega)))
          | (refine QX.kC ?_; first | (with_reducible refine QX.call (shown5_c hA) rfl ?_) | (with_reducible refine QX.call (hfew) rfl ?_) | ((first | refine QX.call (shown5_c hA) rfl ?_ | refine QX.call (hfew) rfl ?_)) | fail)
          | (refine QX.kO ?_; (first | refine QX.callO (shown5_c hA) rfl (by simp [allEq]) rfl ?_ | refine QX.callO (hfew) rfl (by simp [allEq]) rfl ?_))
          | ((first | (refine QX.k 1 ?_; first | refine QX.one rfl (One.elemM hA tabOk rfl rfl rfl rfl ?_ ?_) ?_ | refine QX.one rfl (One.elemOwnM hA tabOk rfl rfl rfl rfl rfl ?_ ?_) ?_) | (refine QX.k 2 ?_; first | refine QX.one rfl (One.clipM tabOk rfl rfl rfl rfl rfl ?_ ?_) ?_ | refine QX.one rfl (One.cut_hM hA tabOk rfl rfl rfl rfl ?_ ?_) ?_ | refine QX.one rfl (One.cut_lM hA tabOk rfl rfl rfl rfl ?_ ?_) ?_ | refine QX.one rfl (One.cut_lhM hA tabOk rfl rfl rfl rfl rfl ?_ ?_ ?_) ?_) | (refine QX.k 3 ?_; first | refine QX.one rfl (One.quoM hA rfl rfl rfl ?_) ?_) | (refine QX.k 4 ?_; first | refine QX.one rfl (One.remM hA rfl rfl rfl ?_) ?_) | (refine QX.k 5 ?_; first | refine QX.one rfl (One.shrM hA rfl rfl rfl ?_) ?_) | (refine QX.k 6 ?_; first | refine QX.one rfl (One.bitsM hA rfl rfl rfl rfl) ?_) | (refine QX.k 7 ?_; first | refine QX.one rfl (One.concatM hA rfl rfl rfl ?_) ?_) | (refine QX.k 8 ?_; first | refine QX.one rfl (One.eqBoolM hA tabOk rfl rfl rfl rfl rfl) ?_) | (refine QX.k 9 ?_; first | refine QX.one rfl (One.neBoolM hA tabOk rfl rfl rfl rfl rfl) ?_) | (refine QX.k 10 ?_; first | refine QX.one rfl (One.lenOwnM hA tabOk rfl rfl rfl rfl) ?_) | (refine QX.k 11 ?_; first | refine QX.one rfl (One.appendM hA tabOk _ rfl rfl rfl rfl rfl rfl ?_ ?_) ?_ | refine QX.one rfl (One.appendMM hA tabOk rfl rfl rfl rfl rfl ?_ ?_) ?_ | refine QX.one rfl (One.appendOwnM hA tabOk _ rfl rfl rfl rfl rfl rfl rfl ?_ ?_) ?_ | refine QX.one rfl (One.appendOwnMM hA tabOk rfl rfl rfl rfl rfl rfl ?_ ?_) ?_ | refine QX.one rfl (One.appendOwn0 hA tabOk rfl rfl rfl rfl rfl rfl ?_ ?_) ?_) | (refine QX.k 13 ?_; first | refine QX.one rfl (One.byteM hA tabOk rfl rfl rfl rfl rfl ?_ ?_) ?_) | (refine QX.k 14 ?_; first | refine QX.one rfl (One.loadRatM hA tabOk rfl rfl rfl rfl rfl rfl ?_) ?_) | (refine QX.k 15 ?_; first | refine QX.one rfl (One.storeRatM hA tabOk _ rfl rfl rfl rfl rfl rfl rfl rfl (fun _ => rfl) ?_) ?_) | (refine QX.k 16 ?_; first | refine QX.one rfl (One.makeM hA tabOk encI 0 rfl rfl rfl rfl rfl rfl rfl ?_ ?_ ?_) ?_) | (refine QX.k 17 ?_; first | refine QX.one rfl (One.build0 tabOk rfl rfl) ?_) | (refine QX.k 18 ?_; first | refine QX.one rfl (One.fieldRat tabOk rfl rfl rfl rfl (by decide) rfl rfl) ?_)) <;> (first | refine QSg.pass ?_ | (((try simp only [zn]) <;> (try simp (disch := omega) only [zz hA, zb, zy, reduceCtorEq, Bool.false_eq_true, Int.reduceLT, Int.reduceLE, Int.reduceNeg]) <;> (try simp only [zw])) <;> omega)))
          | refine QX.raw ?_)
      | refine Thn.exit ?_
      | refine Blk.here ?_
      | refine Blk.other (by decide) ?_
      | refine ⟨.inl rfl, _, RetOk.ev tabOk (by conv => lhs; cbv), ?_⟩
      | fail)
    all_goals
      refine rPV_then (by conv => lhs; cbv) ?_
      simp [hA, real, hid]
end Go.Proofs.Ytinehodamekjgaa.Aw

/- The arguments of the statements of uf out of the row's data; the laws over them. -/
set_option linter.unusedVariables false
namespace Go.Proofs.Ytinehodamekjgaa.Aw
open Go Go.RowKit
theorem decRowB {x : IC} (h : Dec (.sl 8 (.int .i64)) [x]) : ∃ l : List Int, x = .sl 1 false (ints l) ∧ l.length ≤ 140737488351232 := by
  obtain ⟨r, e, h1, h2⟩ := h
  obtain ⟨l, rfl, _⟩ := decInts h1
  simp only [List.cons.injEq, and_true] at e
  simp only [List.length_map] at h2
  exact ⟨l, e, by omega⟩
def shUf3 : List Sh := [.st shCells, .sl 8 (.int .i64), .int .i64, .int .i64, .int .i64]
def shUf2 : List Sh := [.st shCells, .sl 8 (.int .i64), .int .i64, .int .i64]
theorem decUf3 {ics : List IC} (h : Decs shUf3 ics) : ∃ (c : Cl) (l : List Int) (x y z : Int), ics = [.sl 1 false (ints c.V), .sl 2 false (nts c.N), .sl 1 false (ints c.M), .sl 1 false (ints l), I x, I y, I z] ∧ c.fits ∧ l.length ≤ 140737488351232 := by
  obtain ⟨a, b, rfl, h1, a1, b1, rfl, ⟨r, rfl, h3, h4⟩, a2, b2, rfl, ⟨x, rfl, _⟩, a3, b3, rfl, ⟨y, rfl, _⟩, a4, b4, rfl, ⟨z, rfl, _⟩, rfl⟩ := h
  obtain ⟨c, rfl, hf⟩ := decCells h1
  obtain ⟨l, rfl, _⟩ := decInts h3
  simp only [List.length_map] at h4
  exact ⟨c, l, x, y, z, rfl, hf, by omega⟩
theorem decUf2 {ics : List IC} (h : Decs shUf2 ics) : ∃ (c : Cl) (l : List Int) (x y : Int), ics = [.sl 1 false (ints c.V), .sl 2 false (nts c.N), .sl 1 false (ints c.M), .sl 1 false (ints l), I x, I y] ∧ c.fits ∧ l.length ≤ 140737488351232 := by
  obtain ⟨a, b, rfl, h1, a1, b1, rfl, ⟨r, rfl, h3, h4⟩, a2, b2, rfl, ⟨x, rfl, _⟩, a3, b3, rfl, ⟨y, rfl, _⟩, rfl⟩ := h
  obtain ⟨c, rfl, hf⟩ := decCells h1
  obtain ⟨l, rfl, _⟩ := decInts h3
  simp only [List.length_map] at h4
  exact ⟨c, l, x, y, rfl, hf, by omega⟩
variable {A : Ar} (hA : A = real)
include hA
theorem law3 {f : FuncId} {r : PV} {V M ranks : List Int} {N : List (Int × Int)} {a b n : Int} (h : PureCalls Try.prog f [.agg [.sl 1 false (hid A (List.map encI V)), .sl 2 false (hid A (List.map encN N)), .sl 1 false (hid A (List.map encI M)), .sl 1 false (hid A (List.map encI ranks)), .lit (.int .i64 a), .lit (.int .i64 b), .lit (.int .i64 n)]] r) :
    PureCalls Try.prog f [.agg [.sl 1 false (ints V), .sl 2 false (nts N), .sl 1 false (ints M), .sl 1 false (ints ranks), I a, I b, I n]] r := by
  simp only [hid_eq hA] at h
  exact h
theorem law2 {f : FuncId} {r : PV} {V M ranks : List Int} {N : List (Int × Int)} {a b : Int} (h : PureCalls Try.prog f [.agg [.sl 1 false (hid A (List.map encI V)), .sl 2 false (hid A (List.map encN N)), .sl 1 false (hid A (List.map encI M)), .sl 1 false (hid A (List.map encI ranks)), .lit (.int .i64 a), .lit (.int .i64 b)]] r) :
    PureCalls Try.prog f [.agg [.sl 1 false (ints V), .sl 2 false (nts N), .sl 1 false (ints M), .sl 1 false (ints ranks), I a, I b]] r := by
  simp only [hid_eq hA] at h
  exact h
theorem joinsL (c : Cl) (h : c.fits) (l : List Int) (hl : l.length ≤ 140737488351232) (x y z : Int) : PureCalls Try.prog 8 [.agg [.sl 1 false (ints c.V), .sl 2 false (nts c.N), .sl 1 false (ints c.M), .sl 1 false (ints l), I x, I y, I z]] (BP true) :=
  law3 hA (joins_law hA c.V c.N c.M l x y z h.v h.n h.m hl)
theorem threeL (c : Cl) (h : c.fits) (l : List Int) (hl : l.length ≤ 140737488351232) (x y z : Int) : PureCalls Try.prog 10 [.agg [.sl 1 false (ints c.V), .sl 2 false (nts c.N), .sl 1 false (ints c.M), .sl 1 false (ints l), I x, I y, I z]] (BP true) :=
  law3 hA (three_law hA c.V c.N c.M l x y z h.v h.n h.m hl)
theorem backL (c : Cl) (h : c.fits) (l : List Int) (hl : l.length ≤ 140737488351232) (x y : Int) : PureCalls Try.prog 12 [.agg [.sl 1 false (ints c.V), .sl 2 false (nts c.N), .sl 1 false (ints c.M), .sl 1 false (ints l), I x, I y]] (BP true) :=
  law2 hA (back_law hA c.V c.N c.M l x y h.v h.n h.m hl)
theorem partsL (c : Cl) (h : c.fits) (l : List Int) (hl : l.length ≤ 140737488351232) : PureCalls Try.prog 9 [.agg [.sl 1 false (ints c.V), .sl 2 false (nts c.N), .sl 1 false (ints c.M)], .c (.sl 1 false (ints l))] (BP true) := by
  have := parts_law hA c.V c.N c.M l h.v h.n h.m hl
  simp only [clP, intsP, slP, hid_eq hA] at this
  exact this
theorem addsL (c : Cl) (h : c.fits) (l : List Int) (hl : l.length ≤ 140737488351232) (x : Int) : PureCalls Try.prog 11 [.agg [.sl 1 false (ints c.V), .sl 2 false (nts c.N), .sl 1 false (ints c.M)], .c (.sl 1 false (ints l)), .c (I x)] (BP true) := by
  have := adds_law hA c.V c.N c.M l x h.v h.n h.m hl
  simp only [clP, intsP, slP, hid_eq hA] at this
  exact this
end Go.Proofs.Ytinehodamekjgaa.Aw
