/- Texts of the proof, put together: the abstract walk, contracts of the functions that the statement reaches, plain laws, part 4 of 6. -/
import Derived.Test.YtkkjlmcnfoncdaaCBc
import Derived.Test.YtkkjlmcnfoncdaaCBb
set_option linter.unusedVariables false
set_option linter.unusedSimpArgs false
set_option linter.unusedSectionVars false
namespace Go.Proofs.Ytkkjlmcnfoncdaa.Aw
open Go Go.RowKit
set_option maxRecDepth 10000
attribute [local irreducible] AWp AOL QS One AOLg QSg NX QX TRg TX AllO Fin3
noncomputable def keyOk (l : List Sg) (id : Nat) (q : List Int) : Bool := (decide (3 ≤ q.length) && mayM l id (q.getD 0 default) (q.getD 1 default) (q.getD 2 default) (q.drop 3)) && (decide (2 ≤ id) || decide (q.getD 0 default = id))
noncomputable def rightT (l : List Sg) (K : List (List Int)) (S : List Int) : Bool := (decide (K.Nodup ∧ S = layM K) && decide (2 ≤ K.length)) && allB K.length fun i => keyOk l i (K.getD i default)
theorem key_eta {q : List Int} (h : 3 ≤ q.length) : q = keyT (q.getD 0 default) (q.getD 1 default) (q.getD 2 default) (q.drop 3) := by
  match q, h with
  | a :: b :: c :: r, _ => rfl
theorem key_ex {q : List Int} (h : 3 ≤ q.length) : ∃ k s p a, q = keyT k s p a := ⟨_, _, _, _, key_eta h⟩
theorem keyOk_T (l : List Sg) (id : Nat) (k s p : Int) (a : List Int) : keyOk l id (keyT k s p a) = (mayM l id k s p a && (decide (2 ≤ id) || decide (k = id))) := by
  unfold keyOk
  rw [decide_eq_true (p := 3 ≤ (keyT k s p a).length) (by simp [keyT])]
  rfl
variable {A : Ar} (hA : A = real)
include hA
theorem refOf_c2 (K : List (List Int)) (S : List Int) (id : Nat) (hi : id < K.length) (hk : (K.getD id default).length < 3) : ∀ z : Int, z = id → PureCalls Try.prog 42 [keyedPV A K S, IP z] (.tup [.agg [.lit (.int .i64 0), .lit (.int .i64 0), .lit (.int .i64 0), .sl 0 true []], BP false]) := by
  intro z hz
  have hzn : z.toNat = id := by omega
  rw [← hzn] at hk
  refine PureCalls.of Try.func42 rfl (by kernel_rfl) rfl ?_
  try first | refine AOLg.of [] ?_ | refine QSg.of [] ?_
  repeat' (first | (refine AWp.pass ?_; first | refine AWp.seq ?_ | refine AWp.block ?_ | refine AWp.skip ?_ | refine AWp.regG [] Zc ?_ | refine AWp.cond_t rfl ?_ | refine AWp.cond_f rfl ?_ | (refine AWp.cond rfl ?_ ?_ <;> intro hc <;> (try rw [hc]) <;> ((try simp only [zn] at hc) <;> (try simp (disch := omega) only [zz hA, zb, zy, reduceCtorEq, Bool.false_eq_true, Int.reduceLT, Int.reduceLE, Int.reduceNeg] at hc) <;> (try simp only [zw] at hc)) <;> (try (exfalso; omega))) | refine AWp.exit ?_ | refine AWp.ret ⟨.inr rfl, _, RetOk.ev tabOk Zc, ?_⟩ | refine AWp.drawVG [] rfl (by decide +kernel) Zc ?_) | (refine AOLg.pass ?_; refine AOLg.nx hA tabOk Zc ?_; first | refine NX.done ?_ | refine NX.gt ?_ | refine NX.gf ?_ | (refine NX.gs ?_ ?_ <;> intro hc <;> rw [hc] <;> ((try simp only [zn] at hc) <;> (try simp (disch := omega) only [zz hA, zb, zy, reduceCtorEq, Bool.false_eq_true, Int.reduceLT, Int.reduceLE, Int.reduceNeg] at hc) <;> (try simp only [zw] at hc)) <;> (try (exfalso; omega))) | refine NX.k 1 (NX.one Z1 ?_) | refine NX.k 2 (NX.one Z2 ?_) | refine NX.k 10 (NX.one Z10 ?_) | refine NX.k 14 (NX.one Z14 ?_) | refine NX.k 15 (NX.one Z15 ?_) | refine NX.k 18 (NX.one Z18 ?_) | refine NX.raw ?_) | (refine TRg.pass ?_; refine TRg.nx hA tabOk Zc ?_; first | refine TX.done ?_ | refine TX.gt ?_ | refine TX.gf ?_ | (refine TX.gs ?_ ?_ <;> intro hc <;> rw [hc] <;> ((try simp only [zn] at hc) <;> (try simp (disch := omega) only [zz hA, zb, zy, reduceCtorEq, Bool.false_eq_true, Int.reduceLT, Int.reduceLE, Int.reduceNeg] at hc) <;> (try simp only [zw] at hc)) <;> (try (exfalso; omega))) | refine TX.k 1 (TX.one Z1 ?_) | refine TX.k 2 (TX.one Z2 ?_) | refine TX.k 10 (TX.one Z10 ?_) | refine TX.k 14 (TX.one Z14 ?_) | refine TX.k 15 (TX.one Z15 ?_) | refine TX.k 18 (TX.one Z18 ?_) | refine TX.raw ?_) | refine Fin3.of Zc (by repeat' (first | exact True.intro | exact rfl | refine And.intro ?_ ?_)) ?_ ?_ | (refine AllO.pass ?_; first | exact AllO.nil | (refine AllO.cons (One.ev hA tabOk ?_) ?_ <;> (first | refine AllO.pass ?_ | ((conv => lhs; cbv); done))) | (refine AllO.cons (One.skipB ?_) ?_ <;> (first | refine AllO.pass ?_ | ((conv => lhs; cbv); done))) | refine AllO.consX ZX rfl rfl ?_) | refine Thn.exit ?_ | refine Blk.here ?_ | refine Blk.other (by decide) ?_ | refine ⟨.inl rfl, _, RetOk.ev tabOk Zc, ?_⟩ | fail)
  all_goals first
    | (exfalso; omega)
    | (refine rPV_then (by conv => lhs; cbv) ?_
       rfl)
set_option maxHeartbeats 4000000 in
theorem refTRight_c (l : List Sg) (K : List (List Int)) (S : List Int) (hl : l.length ≤ 1000000) (hsz : FitG l) (hK : K.length ≤ 900000) (hk : ∀ x ∈ K, x.length ≤ 1000000) :
    PureCalls Try.prog 36 [slP A 2 (encG A) l, keyedPV A K S] (BP (hid A (rightT l K S))) := by
  have hr := refRight_c hA K S (by omega)
  by_cases h1 : K.Nodup ∧ S = layM K
  · rw [decide_eq_true h1, hid_eq hA (α := Bool)] at hr
    by_cases h2 : 2 ≤ K.length
    · have hrt : rightT l K S = allB K.length fun i => keyOk l i (K.getD i default) := by unfold rightT; rw [decide_eq_true h1, decide_eq_true h2]; rfl
      refine PureCalls.of Try.func36 rfl (by kernel_rfl) rfl ?_
      try first | refine AOLg.of [] ?_ | refine QSg.of [] ?_
      repeat' (first | (refine AWp.pass ?_; first | refine AWp.seq ?_ | refine AWp.block ?_ | refine AWp.skip ?_ | refine AWp.regG [] Zc ?_ | refine AWp.cond_t rfl ?_ | refine AWp.cond_f rfl ?_ | (refine AWp.cond rfl ?_ ?_ <;> intro hc <;> (try rw [hc]) <;> ((try simp only [zn] at hc) <;> (try simp (disch := omega) only [zz hA, zb, zy, reduceCtorEq, Bool.false_eq_true, Int.reduceLT, Int.reduceLE, Int.reduceNeg] at hc) <;> (try simp only [zw] at hc)) <;> (try (exfalso; omega))) | refine AWp.exit ?_ | refine AWp.ret ⟨.inr rfl, _, RetOk.ev tabOk Zc, ?_⟩) | (refine AOLg.pass ?_; refine AOLg.nx hA tabOk Zc ?_; first | refine NX.done ?_ | refine NX.gt ?_ | refine NX.gf ?_ | (refine NX.gs ?_ ?_ <;> intro hc <;> rw [hc] <;> ((try simp only [zn] at hc) <;> (try simp (disch := omega) only [zz hA, zb, zy, reduceCtorEq, Bool.false_eq_true, Int.reduceLT, Int.reduceLE, Int.reduceNeg] at hc) <;> (try simp only [zw] at hc)) <;> (try (exfalso; omega))) | (refine NX.kC ?_; first | (with_reducible refine NX.call (hr) ?_) | ((first | refine NX.call (hr) ?_)) | fail) | (refine NX.kO ?_; (first | refine NX.callO (hr) (by simp [allEq]) rfl ?_)) | refine NX.k 7 (NX.one Z7 ?_) | refine NX.k 9 (NX.one Z9 ?_) | refine NX.k 10 (NX.one Z10 ?_) | refine NX.k 14 (NX.one Z14 ?_) | refine NX.k 15 (NX.one Z15 ?_) | refine NX.k 18 (NX.one Z18 ?_) | refine NX.raw ?_) | refine Thn.exit ?_ | refine Blk.here ?_ | refine Blk.other (by decide) ?_ | refine ⟨.inl rfl, _, RetOk.ev tabOk Zc, ?_⟩ | fail)
      refine AWp.loopT 1 (fun i : Nat => [(6, .ic (.lit (.int .i64 (hid A (cN i)))))]) (fun _ => [.var true 26 [.ic (.sl 1 false (hid A (List.map (encK A) K))), .ic (.sl 1 false (hid A (List.map encI S)))]])
        (fun i => K.length - i) (fun i => i ≤ K.length ∧ ∀ j, j < i → keyOk l j (K.getD j default) = true) 0 (by conv => lhs; cbv) ⟨Nat.zero_le _, by simp⟩ (by (repeat' (first | exact subE.nil | refine subE.cons rfl ?_ | refine subE.int rfl ?_ ?_ | refine subE.bool rfl ?_ ?_ | refine subE.str rfl ?_ ?_ | refine subE.sl rfl ?_ ?_)) <;> simp [hA, real, hid, cN]) rfl (fun _ => rfl) (fun _ => rfl) ?_
      rintro i ⟨hi0, hok⟩
      simp only [] at hi0 ⊢
      by_cases hi : i < K.length
      · have hno : keyOk l i (K.getD i default) = false → rightT l K S = false := fun h => by rw [hrt, allB_f hi h]
        have hmem : K.getD i default ∈ K := by rw [List.getD_eq_getElem?_getD, List.getElem?_eq_getElem hi]; exact List.getElem_mem _
        have hkl := hk _ hmem
        by_cases h3 : 3 ≤ (K.getD i default).length
        · obtain ⟨k, s, p, a, hq⟩ := key_ex h3
          have hal : a.length + 3 = (K.getD i default).length := by rw [hq]; rfl
          have hof := refOf_c1 hA K S i k s p a hi hq (by omega)
          have hmay : ∀ z : Int, z = i → PureCalls Try.prog 78 [slP A 2 (encG A) l, IP z, tmP A k s p a] (BP (hid A (mayM l i k s p a))) := by
            rintro z rfl
            exact refMay_c hA l i k s p a (by omega) hl hsz
          have hkk := keyOk_T l i k s p a
          rw [← hq] at hkk
          rw [hkk] at hno
          try first | refine AOLg.of [] ?_ | refine QSg.of [] ?_
          repeat' (first | (refine AWp.pass ?_; first | refine AWp.seq ?_ | refine AWp.block ?_ | refine AWp.skip ?_ | refine AWp.regG [] Zc ?_ | refine AWp.cond_t rfl ?_ | refine AWp.cond_f rfl ?_ | (refine AWp.cond rfl ?_ ?_ <;> intro hc <;> (try rw [hc]) <;> ((try simp only [zn] at hc) <;> (try simp (disch := omega) only [zz hA, zb, zy, reduceCtorEq, Bool.false_eq_true, Int.reduceLT, Int.reduceLE, Int.reduceNeg] at hc) <;> (try simp only [zw] at hc)) <;> (try (exfalso; omega))) | refine AWp.exit ?_ | refine AWp.ret ⟨.inr rfl, _, RetOk.ev tabOk Zc, ?_⟩) | (refine AOLg.pass ?_; refine AOLg.nx hA tabOk Zc ?_; first | refine NX.done ?_ | refine NX.gt ?_ | refine NX.gf ?_ | (refine NX.gs ?_ ?_ <;> intro hc <;> rw [hc] <;> ((try simp only [zn] at hc) <;> (try simp (disch := omega) only [zz hA, zb, zy, reduceCtorEq, Bool.false_eq_true, Int.reduceLT, Int.reduceLE, Int.reduceNeg] at hc) <;> (try simp only [zw] at hc)) <;> (try (exfalso; omega))) | (refine NX.kC ?_; first | ((with_reducible refine NX.call (hof _ ?_) ?_) <;> (first | refine AOLg.pass ?_ | exact Zd)) | ((with_reducible refine NX.call (hmay _ ?_) ?_) <;> (first | refine AOLg.pass ?_ | exact Zd)) | ((first | refine NX.call (hof _ ?_) ?_ | refine NX.call (hmay _ ?_) ?_) <;> (first | refine AOLg.pass ?_ | exact Zd)) | fail) | (refine NX.kO ?_; (first | refine NX.callO (hof _ ?_) (by simp [allEq]) rfl ?_ | refine NX.callO (hmay _ ?_) (by simp [allEq]) rfl ?_) <;> (first | refine AOLg.pass ?_ | exact Zd)) | refine NX.k 7 (NX.one Z7 ?_) | refine NX.k 9 (NX.one Z9 ?_) | refine NX.k 10 (NX.one Z10 ?_) | refine NX.k 14 (NX.one Z14 ?_) | refine NX.k 15 (NX.one Z15 ?_) | refine NX.k 18 (NX.one Z18 ?_) | refine NX.raw ?_) | refine Thn.exit ?_ | refine Blk.here ?_ | refine Blk.other (by decide) ?_ | refine ⟨.inl rfl, _, RetOk.ev tabOk Zc, ?_⟩ | fail)
          all_goals first
            | (refine rPV_then (by conv => lhs; cbv) ?_
               rw [hno (by clear hno hrt hof hmay hr; simp_all <;> omega)]
               simp [hid_eq hA]; done)
            | skip
          all_goals
            refine ⟨i + 1, ⟨by omega, stepB hok (by rw [hkk]; clear hno hrt hof hmay hr; simp_all <;> omega)⟩, by omega, rfl, rfl, (by repeat' (first | exact trimOk.nil | refine trimOk.same ?_ | refine trimOk.turn rfl ?_)), rfl, rfl, ?_, Zk⟩
            exact .int rfl (by exact Zd) .nil
        · have hof := refOf_c2 hA K S i hi (by omega)
          have hnn : rightT l K S = false := hno (by unfold keyOk; rw [decide_eq_false h3]; rfl)
          try first | refine AOLg.of [] ?_ | refine QSg.of [] ?_
          repeat' (first | (refine AWp.pass ?_; first | refine AWp.seq ?_ | refine AWp.block ?_ | refine AWp.skip ?_ | refine AWp.regG [] Zc ?_ | refine AWp.cond_t rfl ?_ | refine AWp.cond_f rfl ?_ | (refine AWp.cond rfl ?_ ?_ <;> intro hc <;> (try rw [hc]) <;> ((try simp only [zn] at hc) <;> (try simp (disch := omega) only [zz hA, zb, zy, reduceCtorEq, Bool.false_eq_true, Int.reduceLT, Int.reduceLE, Int.reduceNeg] at hc) <;> (try simp only [zw] at hc)) <;> (try (exfalso; omega))) | refine AWp.exit ?_ | refine AWp.ret ⟨.inr rfl, _, RetOk.ev tabOk Zc, ?_⟩) | (refine AOLg.pass ?_; refine AOLg.nx hA tabOk Zc ?_; first | refine NX.done ?_ | refine NX.gt ?_ | refine NX.gf ?_ | (refine NX.gs ?_ ?_ <;> intro hc <;> rw [hc] <;> ((try simp only [zn] at hc) <;> (try simp (disch := omega) only [zz hA, zb, zy, reduceCtorEq, Bool.false_eq_true, Int.reduceLT, Int.reduceLE, Int.reduceNeg] at hc) <;> (try simp only [zw] at hc)) <;> (try (exfalso; omega))) | (refine NX.kC ?_; first | ((with_reducible refine NX.call (hof _ ?_) ?_) <;> (first | refine AOLg.pass ?_ | exact Zd)) | ((first | refine NX.call (hof _ ?_) ?_) <;> (first | refine AOLg.pass ?_ | exact Zd)) | fail) | (refine NX.kO ?_; (first | refine NX.callO (hof _ ?_) (by simp [allEq]) rfl ?_) <;> (first | refine AOLg.pass ?_ | exact Zd)) | refine NX.k 7 (NX.one Z7 ?_) | refine NX.k 9 (NX.one Z9 ?_) | refine NX.k 10 (NX.one Z10 ?_) | refine NX.k 14 (NX.one Z14 ?_) | refine NX.k 15 (NX.one Z15 ?_) | refine NX.k 18 (NX.one Z18 ?_) | refine NX.raw ?_) | refine Thn.exit ?_ | refine Blk.here ?_ | refine Blk.other (by decide) ?_ | refine ⟨.inl rfl, _, RetOk.ev tabOk Zc, ?_⟩ | fail)
          refine rPV_then (by conv => lhs; cbv) ?_
          rw [hnn, hid_eq hA]
      · have hyes : rightT l K S = true := by rw [hrt]; exact allB_t fun j hj => hok j (by omega)
        try first | refine AOLg.of [] ?_ | refine QSg.of [] ?_
        repeat' (first | (refine AWp.pass ?_; first | refine AWp.seq ?_ | refine AWp.block ?_ | refine AWp.skip ?_ | refine AWp.regG [] Zc ?_ | refine AWp.cond_t rfl ?_ | refine AWp.cond_f rfl ?_ | (refine AWp.cond rfl ?_ ?_ <;> intro hc <;> (try rw [hc]) <;> ((try simp only [zn] at hc) <;> (try simp (disch := omega) only [zz hA, zb, zy, reduceCtorEq, Bool.false_eq_true, Int.reduceLT, Int.reduceLE, Int.reduceNeg] at hc) <;> (try simp only [zw] at hc)) <;> (try (exfalso; omega))) | refine AWp.exit ?_ | refine AWp.ret ⟨.inr rfl, _, RetOk.ev tabOk Zc, ?_⟩) | (refine AOLg.pass ?_; refine AOLg.nx hA tabOk Zc ?_; first | refine NX.done ?_ | refine NX.gt ?_ | refine NX.gf ?_ | (refine NX.gs ?_ ?_ <;> intro hc <;> rw [hc] <;> ((try simp only [zn] at hc) <;> (try simp (disch := omega) only [zz hA, zb, zy, reduceCtorEq, Bool.false_eq_true, Int.reduceLT, Int.reduceLE, Int.reduceNeg] at hc) <;> (try simp only [zw] at hc)) <;> (try (exfalso; omega))) | refine NX.k 7 (NX.one Z7 ?_) | refine NX.k 9 (NX.one Z9 ?_) | refine NX.k 10 (NX.one Z10 ?_) | refine NX.k 14 (NX.one Z14 ?_) | refine NX.k 15 (NX.one Z15 ?_) | refine NX.k 18 (NX.one Z18 ?_) | refine NX.raw ?_) | refine Thn.exit ?_ | refine Blk.here ?_ | refine Blk.other (by decide) ?_ | refine ⟨.inl rfl, _, RetOk.ev tabOk Zc, ?_⟩ | fail)
        refine rPV_then (by conv => lhs; cbv) ?_
        rw [hyes, hid_eq hA]
    · have hrt : rightT l K S = false := by unfold rightT; rw [decide_eq_false h2]; simp
      refine PureCalls.of Try.func36 rfl (by kernel_rfl) rfl ?_
      try first | refine AOLg.of [] ?_ | refine QSg.of [] ?_
      repeat' (first | (refine AWp.pass ?_; first | refine AWp.seq ?_ | refine AWp.block ?_ | refine AWp.skip ?_ | refine AWp.regG [] Zc ?_ | refine AWp.cond_t rfl ?_ | refine AWp.cond_f rfl ?_ | (refine AWp.cond rfl ?_ ?_ <;> intro hc <;> (try rw [hc]) <;> ((try simp only [zn] at hc) <;> (try simp (disch := omega) only [zz hA, zb, zy, reduceCtorEq, Bool.false_eq_true, Int.reduceLT, Int.reduceLE, Int.reduceNeg] at hc) <;> (try simp only [zw] at hc)) <;> (try (exfalso; omega))) | refine AWp.exit ?_ | refine AWp.ret ⟨.inr rfl, _, RetOk.ev tabOk Zc, ?_⟩) | (refine AOLg.pass ?_; refine AOLg.nx hA tabOk Zc ?_; first | refine NX.done ?_ | refine NX.gt ?_ | refine NX.gf ?_ | (refine NX.gs ?_ ?_ <;> intro hc <;> rw [hc] <;> ((try simp only [zn] at hc) <;> (try simp (disch := omega) only [zz hA, zb, zy, reduceCtorEq, Bool.false_eq_true, Int.reduceLT, Int.reduceLE, Int.reduceNeg] at hc) <;> (try simp only [zw] at hc)) <;> (try (exfalso; omega))) | (refine NX.kC ?_; first | (with_reducible refine NX.call (hr) ?_) | ((first | refine NX.call (hr) ?_)) | fail) | (refine NX.kO ?_; (first | refine NX.callO (hr) (by simp [allEq]) rfl ?_)) | refine NX.k 7 (NX.one Z7 ?_) | refine NX.k 9 (NX.one Z9 ?_) | refine NX.k 10 (NX.one Z10 ?_) | refine NX.k 14 (NX.one Z14 ?_) | refine NX.k 15 (NX.one Z15 ?_) | refine NX.k 18 (NX.one Z18 ?_) | refine NX.raw ?_) | refine Thn.exit ?_ | refine Blk.here ?_ | refine Blk.other (by decide) ?_ | refine ⟨.inl rfl, _, RetOk.ev tabOk Zc, ?_⟩ | fail)
      refine rPV_then (by conv => lhs; cbv) ?_
      rw [hrt, hid_eq hA]
  · rw [decide_eq_false h1, hid_eq hA (α := Bool)] at hr
    have hrt : rightT l K S = false := by unfold rightT; rw [decide_eq_false h1]; rfl
    refine PureCalls.of Try.func36 rfl (by kernel_rfl) rfl ?_
    try first | refine AOLg.of [] ?_ | refine QSg.of [] ?_
    repeat' (first | (refine AWp.pass ?_; first | refine AWp.seq ?_ | refine AWp.block ?_ | refine AWp.skip ?_ | refine AWp.regG [] Zc ?_ | refine AWp.cond_t rfl ?_ | refine AWp.cond_f rfl ?_ | (refine AWp.cond rfl ?_ ?_ <;> intro hc <;> (try rw [hc]) <;> ((try simp only [zn] at hc) <;> (try simp (disch := omega) only [zz hA, zb, zy, reduceCtorEq, Bool.false_eq_true, Int.reduceLT, Int.reduceLE, Int.reduceNeg] at hc) <;> (try simp only [zw] at hc)) <;> (try (exfalso; omega))) | refine AWp.exit ?_ | refine AWp.ret ⟨.inr rfl, _, RetOk.ev tabOk Zc, ?_⟩) | (refine AOLg.pass ?_; refine AOLg.nx hA tabOk Zc ?_; first | refine NX.done ?_ | refine NX.gt ?_ | refine NX.gf ?_ | (refine NX.gs ?_ ?_ <;> intro hc <;> rw [hc] <;> ((try simp only [zn] at hc) <;> (try simp (disch := omega) only [zz hA, zb, zy, reduceCtorEq, Bool.false_eq_true, Int.reduceLT, Int.reduceLE, Int.reduceNeg] at hc) <;> (try simp only [zw] at hc)) <;> (try (exfalso; omega))) | (refine NX.kC ?_; first | (with_reducible refine NX.call (hr) ?_) | ((first | refine NX.call (hr) ?_)) | fail) | (refine NX.kO ?_; (first | refine NX.callO (hr) (by simp [allEq]) rfl ?_)) | refine NX.k 7 (NX.one Z7 ?_) | refine NX.k 9 (NX.one Z9 ?_) | refine NX.k 10 (NX.one Z10 ?_) | refine NX.k 14 (NX.one Z14 ?_) | refine NX.k 15 (NX.one Z15 ?_) | refine NX.k 18 (NX.one Z18 ?_) | refine NX.raw ?_) | refine Thn.exit ?_ | refine Blk.here ?_ | refine Blk.other (by decide) ?_ | refine ⟨.inl rfl, _, RetOk.ev tabOk Zc, ?_⟩ | fail)
    refine rPV_then (by conv => lhs; cbv) ?_
    rw [hrt, hid_eq hA]
end Go.Proofs.Ytkkjlmcnfoncdaa.Aw

namespace Go.Proofs.Ytkkjlmcnfoncdaa.Aw
open Go Go.RowKit
set_option maxRecDepth 10000
abbrev ints (l : List Int) : List (List IC) := l.map fun z => [I z]
abbrev nts (l : List (Int × Int)) : List (List IC) := l.map fun n => [I n.1, I n.2]
abbrev cellsPV (V N M : List (List IC)) : PV := .agg [.sl 1 false V, .sl 2 false N, .sl 1 false M]
def undo1 (n : Int × Int) (v : List Int) : Option (List Int) := if n.1 = -1 ∧ 0 < v.length then some v.dropLast else if 0 ≤ n.1 ∧ n.1 < v.length then some (v.set n.1.toNat n.2) else none
def undoAll : List (Int × Int) → List Int → Option (List Int)
  | [], v => some v
  | n :: r, v => (undoAll r v).bind (undo1 n)
theorem ints_get {V : List Int} {i : Nat} (h : i < V.length) : (ints V)[i]? = some [I V[i]] := by simp [ints, h]
def undoneR : Option (List Int) → PV
  | some v => .tup [.c (.sl 1 false (ints v)), .c (Bo true)]
  | none => .tup [.c (.sl 0 true []), .c (Bo false)]
theorem undoAll_none {D : List (Int × Int)} {V : List Int} (k : Nat) (h : undoAll (D.drop k) V = none) : undoAll D V = none := by
  have happ : ∀ (l1 l2 : List (Int × Int)) (v : List Int), undoAll (l1 ++ l2) v = (undoAll l2 v).bind (undoAll l1) := by
    intro l1
    induction l1 with
    | nil => intro l2 v; simp [undoAll]
    | cons n r ih => intro l2 v; simp only [List.cons_append, undoAll, ih]; cases undoAll l2 v <;> simp
  have := happ (D.take k) (D.drop k) V
  rw [List.take_append_drop, h] at this
  exact this
variable {A : Ar} (hA : A = real)
include hA
theorem clipN_c (V : List (List IC)) : PureCalls Try.prog 129 [.c (.sl 2 false V)] (.c (.sl 2 true V)) := by
  refine PureCalls.of Try.func129 rfl (by kernel_rfl) rfl ?_
  refine AWp.seq (AWp.region (AOL.to hA tabOk (by conv => lhs; cbv) (AOL.nil ?_)))
  refine AWp.seq (AWp.region (AOL.to hA tabOk (by conv => lhs; cbv) ?_))
  refine One.clip tabOk rfl rfl rfl rfl rfl (rlen hA _) (rlen hA _) _ _ ?_
  refine AOL.to hA tabOk (by conv => lhs; cbv) (AOL.nil ?_)
  exact AWp.ret ⟨.inr rfl, _, RetOk.one rfl (Res1.tmp 2), rfl⟩
theorem noted_c (V N M : List (List IC)) (a b : Int) (hN : N.length ≤ 1000000) : PureCalls Try.prog 104 [cellsPV V N M, .c (I a), .c (I b)] (.c (.sl 2 false (N ++ [[I a, I b]]))) := by
  refine PureCalls.of Try.func104 rfl (by kernel_rfl) rfl ?_
  refine AWp.seq (AWp.region (AOL.to hA tabOk (by conv => lhs; cbv) (AOL.nil ?_)))
  refine AWp.seq (AWp.region (AOL.to hA tabOk (by conv => lhs; cbv) ?_))
  refine One.call false rfl rfl rfl (clipN_c hA N) rfl _ _ ?_
  refine AOL.to hA tabOk (by conv => lhs; cbv) ?_
  refine One.append tabOk rfl rfl rfl rfl (.inl rfl) rfl ?_ ?_ _ _ ?_
  · show (N.length + 1) * 16 ≤ _; omega
  · show N.length + 1 ≤ _; simp only [maxLen]; omega
  generalize N ++ _ = R
  refine AOL.to hA tabOk (by conv => lhs; cbv) (AOL.nil ?_)
  exact AWp.ret ⟨.inr rfl, _, RetOk.one rfl (Res1.tmp 6), rfl⟩
theorem copied_2 (o0 o1 : AObj) (V : List (List IC)) (hN : V.length ≤ 1000000) : ACalls Try.prog 117 [.ic (.sl 1 false V)] [o0, o1] (fun x st' => x = .own 2 0 ∧ st' = [o0, o1, .row true 0 3 1 V]) := by
  refine ACalls.of Try.func117 rfl (by kernel_rfl) rfl ?_
  refine AWp.seq (AWp.region (AOL.to hA tabOk (by conv => lhs; cbv) (AOL.nil ?_)))
  refine AWp.seq (AWp.region (AOL.to hA tabOk (by conv => lhs; cbv) ?_))
  refine One.make tabOk rfl rfl rfl rfl rfl rfl (by rw [rlen hA]; omega) ?_ ?_ _ _ ?_
  · rw [rlen hA]; show 8 * _ ≤ _; simp; omega
  · rw [rlen hA]; simp only [maxLen]; omega
  generalize hR : List.replicate (A .len V).toNat _ = R
  refine AOL.to hA tabOk (by conv => lhs; cbv) (AOL.nil ?_)
  refine AWp.seq (AWp.region (AOL.to hA tabOk (by conv => lhs; cbv) ?_))
  refine One.copyOwn tabOk rfl rfl rfl rfl rfl rfl ?_ _ _ ?_
  · rw [← hR, rlen hA]; simp
  refine AOL.to hA tabOk (by conv => lhs; cbv) (AOL.nil ?_)
  refine AWp.seq (AWp.region (AOL.to hA tabOk (by conv => lhs; cbv) (AOL.nil ?_)))
  exact AWp.ret ⟨.inr rfl, _, RetOk.one rfl (Res1.tmp 2), rfl, rfl⟩
end Go.Proofs.Ytkkjlmcnfoncdaa.Aw

namespace Go.Proofs.Ytkkjlmcnfoncdaa.Aw
open Go Go.RowKit
set_option maxRecDepth 10000
variable {A : Ar} (hA : A = real)
include hA
theorem set_c1 (V N M : List (List IC)) (i : Nat) (u v : Int) (hN : N.length ≤ 1000000) (hV : V.length ≤ 1000000) (h : V[i]? = some [I u]) : PureCalls Try.prog 90 [cellsPV V N M, .c (I i), .c (I v)] (.tup [cellsPV (V.set i [I v]) (N ++ [[I i, I u]]) M, .c (I 0)]) := by
  have hi : i < V.length := (List.getElem?_eq_some_iff.1 h).1
  refine PureCalls.of Try.func90 rfl (by kernel_rfl) rfl ?_
  generalize hz : (i : Int) = z
  refine AWp.seq (AWp.region (AOL.to hA tabOk (by conv => lhs; cbv) (AOL.nil ?_)))
  refine AWp.seq (AWp.seq (AWp.region (AOL.upto hA tabOk 3 (by conv => lhs; cbv) ?_)))
  have hc : A .lt z 0 = false := by rw [rlt hA]; exact decide_eq_false (by omega)
  have hd : A .le (A .len V) z = false := by rw [rle hA, rlen hA]; exact decide_eq_false (by omega)
  rw [hc]
  refine AOL.to hA tabOk (by conv => lhs; cbv) (AOL.nil ?_)
  rw [hd]
  refine AWp.cond_f rfl (AWp.skip ?_)
  refine AWp.seq (AWp.drawQ 9 rfl (by kernel_rfl) ?_)
  refine QS.to hA tabOk (by conv => lhs; cbv) ?_
  refine QS.one rfl (One.elem tabOk rfl rfl rfl rfl (by omega) (by rw [← hz]; exact h)) ?_
  refine QS.to hA tabOk (by conv => lhs; cbv) ?_
  refine QS.one rfl (One.call false rfl rfl rfl (noted_c hA V N M z u hN) rfl) ?_
  generalize N ++ _ = R
  refine QS.to hA tabOk (by conv => lhs; cbv) ?_
  refine AOL.to hA tabOk (by conv => lhs; cbv) (AOL.nil ?_)
  refine AWp.seq (AWp.region (AOL.to hA tabOk (by conv => lhs; cbv) ?_))
  refine AOL.scall rfl rfl (copied_2 hA _ _ V hV) ?_
  rintro y st' ⟨rfl, rfl⟩
  refine AOL.to hA tabOk (by conv => lhs; cbv) (AOL.nil ?_)
  refine AWp.seq (AWp.region (AOL.to hA tabOk (by conv => lhs; cbv) ?_))
  refine One.elemOwn tabOk rfl rfl rfl rfl rfl (by omega) (by omega) _ _ ?_
  have hzi : z.toNat = i := by omega
  rw [hzi]
  refine One.storeRat tabOk rfl rfl rfl rfl h rfl rfl rfl (Nat.le_refl 1) _ _ ?_
  generalize hV' : V.set i _ = V'
  replace hV' : V.set i [I v] = V' := hV'
  rw [hV']
  refine AOL.to hA tabOk (by conv => lhs; cbv) (AOL.nil ?_)
  refine AWp.seq (AWp.region (AOL.to hA tabOk (by conv => lhs; cbv) (AOL.nil ?_)))
  exact AWp.ret ⟨.inr rfl, _, RetOk.two rfl (Res1.cell _ _ _ _ _ _ _ _ rfl rfl rfl ⟨rfl, rfl⟩) (Res1.tmp _), rfl⟩
end Go.Proofs.Ytkkjlmcnfoncdaa.Aw

namespace Go.Proofs.Ytkkjlmcnfoncdaa.Aw
open Go Go.RowKit
set_option maxRecDepth 10000
variable {A : Ar} (hA : A = real)
include hA
end Go.Proofs.Ytkkjlmcnfoncdaa.Aw

namespace Go.Proofs.Ytkkjlmcnfoncdaa.Aw
open Go Go.RowKit
set_option maxRecDepth 10000
variable {A : Ar} (hA : A = real)
include hA
end Go.Proofs.Ytkkjlmcnfoncdaa.Aw

namespace Go.Proofs.Ytkkjlmcnfoncdaa.Aw
open Go Go.RowKit
set_option maxRecDepth 10000
variable {A : Ar} (hA : A = real)
include hA
end Go.Proofs.Ytkkjlmcnfoncdaa.Aw

namespace Go.Proofs.Ytkkjlmcnfoncdaa.Aw
open Go Go.RowKit
set_option maxRecDepth 10000
theorem take_succ_eq {α : Type} {a b : List α} {k : Nat} {x y : α} (h : a.take k = b.take k) (ha : a[k]? = some x) (hb : b[k]? = some y) (e : x = y) : a.take (k + 1) = b.take (k + 1) := by
  rw [List.take_add_one, List.take_add_one, h, ha, hb, e]
theorem ints_get? (V : List Int) (i : Nat) (z : Int) (h : V[i]? = some z) : (ints V)[i]? = some [I z] := by simp [ints, h]
theorem nts_get? (V : List (Int × Int)) (i : Nat) (a b : Int) (h : V[i]? = some (a, b)) : (nts V)[i]? = some [I a, I b] := by simp [nts, h]
variable {A : Ar} (hA : A = real)
include hA
theorem refInts (a b : List Int) (ha : a.length ≤ 1000000) (hb : b.length ≤ 1000000) : PureCalls Try.prog 17 [.c (.sl 1 false (ints a)), .c (.sl 1 false (ints b))] (.c (Bo (decide (a = b)))) := by
  refine PureCalls.of Try.func17 rfl (by kernel_rfl) rfl ?_
  have hal : (ints a).length = a.length := by simp
  have hbl : (ints b).length = b.length := by simp
  have hag := ints_get? a
  have hbg := ints_get? b
  generalize ints a = X at hal hag ⊢
  generalize ints b = Y at hbl hbg ⊢
  refine AWp.seq (AWp.region (AOL.to hA tabOk (by conv => lhs; cbv) (AOL.nil ?_)))
  refine AWp.seq (AWp.seq (AWp.region (AOL.to hA tabOk (by conv => lhs; cbv) (AOL.nil ?_))))
  by_cases hl : a.length = b.length
  · rw [show A .no (A .eq (A .len X) (A .len Y)) = false by rw [rno hA, req hA, rlen hA, rlen hA, hal, hbl, hl]; simp]
    refine AWp.cond_f rfl (AWp.skip ?_)
    refine AWp.seq (AWp.seq (AWp.region (AOL.to hA tabOk (by conv => lhs; cbv) (AOL.nil ?_))))
    refine AWp.block ?_
    refine AWp.loop (fun m s => ∃ k : Nat, m + k = a.length ∧ a.take k = b.take k ∧ Sub ⟨26, [(0, .ic (.sl 1 false X)), (1, .ic (.sl 1 false Y)), (5, .ic (I (k : Int)))], []⟩ s) a.length ⟨0, by omega, by simp, Sub.of rfl rfl (.cons rfl (.cons rfl (.cons rfl .nil)))⟩ ?_
    rintro m s ⟨k, hm, htk, hsub⟩
    refine AWp.sub hsub ?_
    generalize hz : (k : Int) = z
    refine AWp.seq (AWp.seq (AWp.region (AOL.to hA tabOk (by conv => lhs; cbv) (AOL.nil ?_))))
    rcases Nat.lt_or_ge k a.length with hk | hk
    · rw [show A .lt z (A .len X) = true by rw [rlt hA, rlen hA, hal]; exact decide_eq_true (by omega)]
      refine AWp.cond_t rfl (AWp.skip ?_)
      have h1 : a[k]? = some a[k] := List.getElem?_eq_getElem hk
      have h2 : b[k]? = some (b[k]'(by omega)) := List.getElem?_eq_getElem (by omega)
      generalize a[k] = u at h1
      generalize b[k]'(by omega) = v at h2
      have hzk : z.toNat = k := by omega
      refine AWp.seq (AWp.block (AWp.seq (AWp.drawQ 9 rfl (by kernel_rfl) ?_)))
      refine QS.to hA tabOk (by conv => lhs; cbv) ?_
      refine QS.one rfl (One.elem tabOk rfl rfl rfl rfl (by omega) (by rw [hzk]; exact hag k u h1)) ?_
      refine QS.to hA tabOk (by conv => lhs; cbv) ?_
      refine QS.one rfl (One.elem tabOk rfl rfl rfl rfl (by omega) (by rw [hzk]; exact hbg k v h2)) ?_
      refine QS.to hA tabOk (by conv => lhs; cbv) ?_
      refine AOL.to hA tabOk (by conv => lhs; cbv) (AOL.nil ?_)
      by_cases huv : u = v
      · rw [show A .no (A .eq u v) = false by rw [rno hA, req hA, huv]; simp]
        refine AWp.cond_f rfl (AWp.skip ?_)
        refine AWp.region (AOL.to hA tabOk (by conv => lhs; cbv) (AOL.nil ?_))
        rw [show A .add .i64 z 1 = ((k + 1 : Nat) : Int) by rw [radd hA, wok (by omega) (by omega)]; omega]
        exact ⟨m - 1, by omega, k + 1, by omega, take_succ_eq htk h1 h2 huv, Sub.of rfl rfl (.cons rfl (.cons rfl (.cons rfl .nil)))⟩
      · rw [show A .no (A .eq u v) = true by rw [rno hA, req hA]; simp [huv]]
        refine AWp.cond_t rfl ?_
        refine AWp.seq (AWp.region (AOL.to hA tabOk (by conv => lhs; cbv) (AOL.nil ?_)))
        have hne : decide (a = b) = false := decide_eq_false fun e => huv (by rw [e, h2] at h1; simpa using h1.symm)
        rw [hne]
        exact AWp.ret ⟨.inr rfl, _, RetOk.one rfl (Res1.tmp _), rfl⟩
    · rw [show A .lt z (A .len X) = false by rw [rlt hA, rlen hA, hal]; exact decide_eq_false (by omega)]
      refine AWp.cond_f rfl (AWp.exit (Thn.exit (Thn.exit (Blk.here ?_))))
      have heq : decide (a = b) = true := decide_eq_true (by rwa [List.take_of_length_le hk, List.take_of_length_le (by omega)] at htk)
      rw [heq]
      refine AWp.seq (AWp.region (AOL.to hA tabOk (by conv => lhs; cbv) (AOL.nil ?_)))
      exact AWp.ret ⟨.inr rfl, _, RetOk.one rfl (Res1.tmp _), rfl⟩
  · rw [show A .no (A .eq (A .len X) (A .len Y)) = true by rw [rno hA, req hA, rlen hA, rlen hA, hal, hbl]; simp; omega]
    refine AWp.cond_t rfl ?_
    refine AWp.seq (AWp.region (AOL.to hA tabOk (by conv => lhs; cbv) (AOL.nil ?_)))
    have hne : decide (a = b) = false := decide_eq_false fun e => hl (by rw [e])
    rw [hne]
    exact AWp.ret ⟨.inr rfl, _, RetOk.one rfl (Res1.tmp _), rfl⟩
end Go.Proofs.Ytkkjlmcnfoncdaa.Aw

namespace Go.Proofs.Ytkkjlmcnfoncdaa.Aw
open Go Go.RowKit
set_option maxRecDepth 10000
structure Cl where
  V : List Int
  N : List (Int × Int)
  M : List Int
  deriving DecidableEq
abbrev Cl.pv (c : Cl) : PV := cellsPV (ints c.V) (nts c.N) (ints c.M)
structure Cl.small (c : Cl) : Prop where
  v : c.V.length ≤ 100000
  n : c.N.length ≤ 100000
  m : c.M.length ≤ 100000
variable {A : Ar} (hA : A = real)
include hA
theorem refSame (a b : Cl) (ha : a.small) (hb : b.small) : PureCalls Try.prog 58 [a.pv, b.pv] (.c (Bo (decide (a = b)))) := by
  obtain ⟨aV, aN, aM⟩ := a
  obtain ⟨bV, bN, bM⟩ := b
  obtain ⟨a1, a2, a3⟩ := ha
  obtain ⟨b1, b2, b3⟩ := hb
  simp only at a1 a2 a3 b1 b2 b3
  have hab : (⟨aV, aN, aM⟩ : Cl) = ⟨bV, bN, bM⟩ ↔ aV = bV ∧ aN = bN ∧ aM = bM := by simp
  rw [show decide ((⟨aV, aN, aM⟩ : Cl) = ⟨bV, bN, bM⟩) = decide (aV = bV ∧ aN = bN ∧ aM = bM) from decide_eq_decide.2 hab]
  refine PureCalls.of Try.func58 rfl (by kernel_rfl) rfl ?_
  have hI1 := refInts hA aV bV (by omega) (by omega)
  have hI2 := refInts hA aM bM (by omega) (by omega)
  have hal : (nts aN).length = aN.length := by simp
  have hbl : (nts bN).length = bN.length := by simp
  have hag := nts_get? aN
  have hbg := nts_get? bN
  simp only [Cl.pv]
  generalize nts aN = X at hal hag ⊢
  generalize nts bN = Y at hbl hbg ⊢
  generalize ints aV = XV at hI1 ⊢
  generalize ints bV = YV at hI1 ⊢
  generalize ints aM = XM at hI2 ⊢
  generalize ints bM = YM at hI2 ⊢
  refine AWp.seq (AWp.region (AOL.to hA tabOk (by conv => lhs; cbv) (AOL.nil ?_)))
  refine AWp.seq (AWp.seq (AWp.region (AOL.to hA tabOk (by conv => lhs; cbv) (AOL.nil ?_))))
  by_cases hl : aN.length = bN.length
  · rw [show A .no (A .eq (A .len X) (A .len Y)) = false by rw [rno hA, req hA, rlen hA, rlen hA, hal, hbl, hl]; simp]
    refine AWp.cond_f rfl (AWp.skip ?_)
    refine AWp.seq (AWp.seq (AWp.region (AOL.to hA tabOk (by conv => lhs; cbv) (AOL.nil ?_))))
    refine AWp.block ?_
    refine AWp.loop (fun m s => ∃ k : Nat, m + k = aN.length ∧ aN.take k = bN.take k ∧ Sub ⟨45, [(2, .ptr 0 0), (3, .ptr 1 0), (5, .ic (I (k : Int)))], [.var true 29 [.ic (.sl 1 false XV), .ic (.sl 2 false X), .ic (.sl 1 false XM)], .var true 29 [.ic (.sl 1 false YV), .ic (.sl 2 false Y), .ic (.sl 1 false YM)]]⟩ s)
      aN.length ⟨0, by omega, by simp, Sub.of rfl rfl (.cons rfl (.cons rfl (.cons rfl .nil)))⟩ ?_
    rintro m s ⟨k, hm, htk, hsub⟩
    refine AWp.sub hsub ?_
    generalize hz : (k : Int) = z
    refine AWp.seq (AWp.seq (AWp.region (AOL.to hA tabOk (by conv => lhs; cbv) (AOL.nil ?_))))
    rcases Nat.lt_or_ge k aN.length with hk | hk
    · rw [show A .lt z (A .len X) = true by rw [rlt hA, rlen hA, hal]; exact decide_eq_true (by omega)]
      refine AWp.cond_t rfl (AWp.skip ?_)
      have h1 : aN[k]? = some aN[k] := List.getElem?_eq_getElem hk
      have h2 : bN[k]? = some (bN[k]'(by omega)) := List.getElem?_eq_getElem (by omega)
      generalize aN[k] = u at h1
      generalize bN[k]'(by omega) = v at h2
      obtain ⟨u1, u2⟩ := u
      obtain ⟨v1, v2⟩ := v
      have hzk : z.toNat = k := by omega
      refine AWp.seq (AWp.block (AWp.seq (AWp.drawQ 11 rfl (by kernel_rfl) ?_)))
      refine QS.to hA tabOk (by conv => lhs; cbv) ?_
      refine QS.one rfl (One.elem tabOk rfl rfl rfl rfl (by omega) (by rw [hzk]; exact hag k u1 u2 h1)) ?_
      refine QS.to hA tabOk (by conv => lhs; cbv) ?_
      refine QS.one rfl (One.elem tabOk rfl rfl rfl rfl (by omega) (by rw [hzk]; exact hbg k v1 v2 h2)) ?_
      refine QS.to hA tabOk (by conv => lhs; cbv) ?_
      by_cases huv : (u1, u2) = (v1, v2)
      · refine QS.one rfl (One.neInts [u1, u2] [v1, v2] (b := false) rfl (by kernel_rfl) rfl rfl rfl (by simp only [Prod.mk.injEq] at huv; simp [huv])) ?_
        refine QS.to hA tabOk (by conv => lhs; cbv) ?_
        refine AOL.to hA tabOk (by conv => lhs; cbv) (AOL.nil ?_)
        refine AWp.cond_f rfl (AWp.skip ?_)
        refine AWp.region (AOL.to hA tabOk (by conv => lhs; cbv) (AOL.nil ?_))
        rw [show A .add .i64 z 1 = ((k + 1 : Nat) : Int) by rw [radd hA, wok (by omega) (by omega)]; omega]
        exact ⟨m - 1, by omega, k + 1, by omega, take_succ_eq htk h1 h2 huv, Sub.of rfl rfl (.cons rfl (.cons rfl (.cons rfl .nil)))⟩
      · refine QS.one rfl (One.neInts [u1, u2] [v1, v2] (b := true) rfl (by kernel_rfl) rfl rfl rfl (by simp only [Prod.mk.injEq] at huv; simp [huv])) ?_
        refine QS.to hA tabOk (by conv => lhs; cbv) ?_
        refine AOL.to hA tabOk (by conv => lhs; cbv) (AOL.nil ?_)
        refine AWp.cond_t rfl ?_
        refine AWp.seq (AWp.region (AOL.to hA tabOk (by conv => lhs; cbv) (AOL.nil ?_)))
        rw [show decide (aV = bV ∧ aN = bN ∧ aM = bM) = false from decide_eq_false fun e => huv (by rw [e.2.1, h2] at h1; simpa using h1.symm)]
        exact AWp.ret ⟨.inr rfl, _, RetOk.one rfl (Res1.tmp _), rfl⟩
    · rw [show A .lt z (A .len X) = false by rw [rlt hA, rlen hA, hal]; exact decide_eq_false (by omega)]
      refine AWp.cond_f rfl (AWp.exit (Thn.exit (Thn.exit (Blk.here ?_))))
      have heq : aN = bN := by rwa [List.take_of_length_le hk, List.take_of_length_le (by omega)] at htk
      refine AWp.seq (AWp.region (AOL.to hA tabOk (by conv => lhs; cbv) ?_))
      refine One.call false rfl rfl rfl hI1 rfl _ _ ?_
      rw [show decide (aV = bV ∧ aN = bN ∧ aM = bM) = decide (aV = bV ∧ aM = bM) from decide_eq_decide.2 (by simp [heq])]
      generalize hq : decide (aV = bV) = q
      refine AOL.to hA tabOk (by conv => lhs; cbv) (AOL.nil ?_)
      cases q with
      | true =>
        have e1 := of_decide_eq_true hq
        refine AWp.seq (AWp.region (AOL.to hA tabOk (by conv => lhs; cbv) ?_))
        refine One.call false rfl rfl rfl hI2 rfl _ _ ?_
        rw [show decide (aV = bV ∧ aM = bM) = decide (aM = bM) from decide_eq_decide.2 (by simp [e1])]
        generalize decide (aM = bM) = q2
        refine AOL.to hA tabOk (by conv => lhs; cbv) (AOL.nil ?_)
        exact AWp.ret ⟨.inr rfl, _, RetOk.one rfl (Res1.tmp _), rfl⟩
      | false =>
        have e1 := of_decide_eq_false hq
        refine AWp.seq (AWp.region (AOL.to hA tabOk (by conv => lhs; cbv) (AOL.nil ?_)))
        rw [show decide (aV = bV ∧ aM = bM) = false from decide_eq_false fun e => e1 e.1]
        exact AWp.ret ⟨.inr rfl, _, RetOk.one rfl (Res1.tmp _), rfl⟩
  · rw [show A .no (A .eq (A .len X) (A .len Y)) = true by rw [rno hA, req hA, rlen hA, rlen hA, hal, hbl]; simp; omega]
    refine AWp.cond_t rfl ?_
    refine AWp.seq (AWp.region (AOL.to hA tabOk (by conv => lhs; cbv) (AOL.nil ?_)))
    rw [show decide (aV = bV ∧ aN = bN ∧ aM = bM) = false from decide_eq_false fun e => hl (by rw [e.2.1])]
    exact AWp.ret ⟨.inr rfl, _, RetOk.one rfl (Res1.tmp _), rfl⟩
end Go.Proofs.Ytkkjlmcnfoncdaa.Aw

namespace Go.Proofs.Ytkkjlmcnfoncdaa.Aw
open Go Go.RowKit
set_option maxRecDepth 10000
variable {A : Ar} (hA : A = real)
include hA
theorem refCells (V : List Int) (N : List (Int × Int)) (M : List (List IC)) (many : Nat) (hf : many ≤ N.length) (hV : V.length ≤ 1000000) (hN : N.length ≤ 1000000) :
    PureCalls Try.prog 118 [cellsPV (ints V) (nts N) M, .c (I many)] (undoneR (undoAll (N.drop many) V)) := by
  refine PureCalls.of Try.func118 rfl (by kernel_rfl) rfl ?_
  have hng := nts_get? N
  generalize hVr : ints V = Vr
  generalize hNr : nts N = Nr at hng ⊢
  generalize hmn : (many : Int) = mn
  have hVl : Vr.length = V.length := by rw [← hVr]; simp
  have hNl : Nr.length = N.length := by rw [← hNr]; simp
  refine AWp.seq (AWp.region (AOL.to hA tabOk (by conv => lhs; cbv) (AOL.nil ?_)))
  refine AWp.seq (AWp.region (AOL.to hA tabOk (by conv => lhs; cbv) ?_))
  refine One.build0 tabOk rfl rfl _ _ ?_
  refine AOL.to hA tabOk (by conv => lhs; cbv) ?_
  refine One.appendOwn tabOk rfl rfl rfl rfl rfl rfl ?_ ?_ _ _ ?_
  · show (0 + Vr.length) * 8 ≤ _; omega
  · show 0 + Vr.length ≤ _; simp only [maxLen]; omega
  refine AOL.to hA tabOk (by conv => lhs; cbv) (AOL.nil ?_)
  refine AWp.seq (AWp.seq (AWp.region (AOL.to hA tabOk (by conv => lhs; cbv) (AOL.nil ?_))))
  have hs : A .sub .i64 (A .len Nr) 1 = (N.length : Int) - 1 := by rw [rsub hA, rlen hA, hNl, wok (by omega) (by omega)]
  rw [hs]
  refine AWp.block ?_
  refine AWp.loop (fun m s => ∃ (k ver : Nat) (Vk : List Int), m + many = k ∧ k ≤ N.length ∧ undoAll (N.drop k) V = some Vk ∧ Vk.length ≤ V.length ∧ Sub ⟨57, [(1, .ic (I mn)), (2, .ptr 0 0), (6, .own 1 ver), (7, .ic (I ((k : Int) - 1)))],
    [.var true 29 [.ic (.sl 1 false Vr), .ic (.sl 2 false Nr), .ic (.sl 1 false M)], .row true ver 3 1 (ints Vk)]⟩ s) (N.length - many)
    ⟨N.length, 1, V, by omega, Nat.le_refl _, by simp [undoAll], Nat.le_refl _, Sub.of rfl (by rw [hVr]) (.cons rfl (.cons rfl (.cons rfl (.cons rfl .nil))))⟩ ?_
  rintro m s ⟨k, ver, Vk, hm, hk, hu, hle, hsub⟩
  refine AWp.sub hsub (AWp.trim 2 (Nat.le_refl _) ?_)
  have hIl : (ints Vk).length = Vk.length := by simp
  have hIg := ints_get? Vk
  generalize hI : ints Vk = Ik at hIl hIg
  generalize hz : (k : Int) - 1 = z
  refine AWp.seq (AWp.seq (AWp.region (AOL.to hA tabOk (by conv => lhs; cbv) (AOL.nil ?_))))
  cases m with
  | zero =>
    rw [show A .le mn z = false by rw [rle hA]; exact decide_eq_false (by omega)]
    refine AWp.cond_f rfl (AWp.exit (Thn.exit ?_))
    refine ⟨[(6, .own 1 ver)], Trim.of rfl (.same (.same .nil)) rfl (.cons rfl .nil), Thn.exit (Blk.here ?_)⟩
    have hkm : k = many := by omega
    rw [hkm] at hu
    rw [hu]
    simp only [undoneR]
    rw [hI]
    refine AWp.seq (AWp.region (AOL.to hA tabOk (by conv => lhs; cbv) (AOL.nil ?_)))
    exact AWp.ret ⟨.inr rfl, _, RetOk.two rfl (Res1.tmp _) (Res1.tmp _), rPV_own2 rfl rfl⟩
  | succ m =>
    rw [show A .le mn z = true by rw [rle hA]; exact decide_eq_true (by omega)]
    refine AWp.cond_t rfl (AWp.skip ?_)
    obtain ⟨k, rfl⟩ : ∃ k', k = k' + 1 := ⟨k - 1, by omega⟩
    have hn : N[k]? = some N[k] := List.getElem?_eq_getElem (by omega)
    have hd : N.drop k = N[k] :: N.drop (k + 1) := List.drop_eq_getElem_cons (by omega)
    generalize N[k] = n at hn hd
    obtain ⟨a, b⟩ := n
    have hstep : undoAll (N.drop k) V = undo1 (a, b) Vk := by rw [hd]; simp [undoAll, hu]
    have hzk : z.toNat = k := by omega
    have hdec : A .sub .i64 z 1 = (k : Int) - 1 := by rw [rsub hA, wok (by omega) (by omega)]; omega
    refine AWp.seq (AWp.block (AWp.seq (AWp.region (AOL.to hA tabOk (by conv => lhs; cbv) ?_))))
    refine One.elem tabOk rfl rfl rfl rfl (by omega) (by rw [hzk]; exact hng k a b hn) _ _ ?_
    refine AOL.to hA tabOk (by conv => lhs; cbv) (AOL.nil ?_)
    by_cases h1 : a = -1 ∧ 0 < Vk.length
    · have hun : undo1 (a, b) Vk = some Vk.dropLast := by simp [undo1, h1.1, h1.2]
      refine AWp.seq (AWp.region (AOL.upto hA tabOk 4 (by conv => lhs; cbv) ?_))
      rw [show A .eq a (-1) = true by rw [req hA]; exact decide_eq_true h1.1]
      refine AOL.to hA tabOk (by conv => lhs; cbv) ?_
      refine One.lenOwn tabOk rfl rfl rfl rfl (rlen hA Ik).symm _ _ ?_
      refine AOL.to hA tabOk (by conv => lhs; cbv) (AOL.nil ?_)
      rw [show A .lt 0 (A .len Ik) = true by rw [rlt hA, rlen hA]; exact decide_eq_true (by omega)]
      refine AWp.cond_t rfl (AWp.region (AOL.to hA tabOk (by conv => lhs; cbv) ?_))
      refine One.lenOwn tabOk rfl rfl rfl rfl (rlen hA Ik).symm _ _ ?_
      refine AOL.to hA tabOk (by conv => lhs; cbv) ?_
      have hs : A .sub .i64 (A .len Ik) 1 = ((Vk.length - 1 : Nat) : Int) := by rw [rsub hA, rlen hA, wok (by omega) (by omega)]; omega
      refine One.takeOwn tabOk rfl rfl rfl rfl rfl (by rw [hs]; omega) (by rw [hs]; omega) _ _ ?_
      rw [hs]
      have hd2 : Ik.take (((Vk.length - 1 : Nat) : Int)).toNat = ints Vk.dropLast := by rw [← hI, Int.toNat_natCast, List.dropLast_eq_take]; simp [ints, List.map_take]
      rw [hd2]
      generalize hI2 : ints Vk.dropLast = Ik2
      generalize ver + 1 = ver'
      refine AOL.to hA tabOk (by conv => lhs; cbv) (AOL.nil ?_)
      refine AWp.region (AOL.to hA tabOk (by conv => lhs; cbv) (AOL.nil ?_))
      rw [hdec]
      refine ⟨[(1, .ic (I mn)), (2, .ptr 0 0), (6, .own 1 ver'), (7, .ic (I ((k : Int) - 1)))], Trim.of rfl (.same (.turn rfl .nil)) rfl (.cons rfl (.cons rfl (.cons rfl (.cons rfl .nil)))), ?_⟩
      exact ⟨m, by omega, k, ver', Vk.dropLast, by omega, by omega, by rw [hstep, hun], by simp; omega, Sub.of rfl (by rw [hI2]; rfl) (.cons rfl (.cons rfl (.cons rfl (.cons rfl .nil))))⟩
    · by_cases h2 : 0 ≤ a ∧ a < Vk.length
      · have hun : undo1 (a, b) Vk = some (Vk.set a.toNat b) := by simp only [undo1]; rw [if_neg h1, if_pos h2]
        have hlt : a.toNat < Vk.length := by omega
        have hu2 : Ik[a.toNat]? = some [I (Vk[a.toNat]'hlt)] := hIg _ _ (List.getElem?_eq_getElem hlt)
        refine AWp.seq (AWp.region (AOL.upto hA tabOk 4 (by conv => lhs; cbv) ?_))
        rw [show A .eq a (-1) = false by rw [req hA]; exact decide_eq_false (by omega)]
        refine AOL.to hA tabOk (by conv => lhs; cbv) (AOL.nil ?_)
        refine AWp.cond_f rfl ?_
        refine AWp.seq (AWp.region (AOL.upto hA tabOk 4 (by conv => lhs; cbv) ?_))
        rw [show A .le 0 a = true by rw [rle hA]; exact decide_eq_true (by omega)]
        refine AOL.to hA tabOk (by conv => lhs; cbv) ?_
        refine One.lenOwn tabOk rfl rfl rfl rfl (rlen hA Ik).symm _ _ ?_
        refine AOL.to hA tabOk (by conv => lhs; cbv) (AOL.nil ?_)
        rw [show A .lt a (A .len Ik) = true by rw [rlt hA, rlen hA]; exact decide_eq_true (by omega)]
        refine AWp.cond_t rfl (AWp.region (AOL.to hA tabOk (by conv => lhs; cbv) ?_))
        refine One.elemOwn tabOk rfl rfl rfl rfl rfl (by omega) (by omega) _ _ ?_
        refine One.storeRat tabOk rfl rfl rfl rfl hu2 rfl rfl rfl (Nat.le_refl 1) _ _ ?_
        generalize hV' : Ik.set a.toNat _ = Ik2
        have hd2 : ints (Vk.set a.toNat b) = Ik2 := by rw [← hV', ← hI]; simp [ints, List.map_set]
        refine AOL.to hA tabOk (by conv => lhs; cbv) (AOL.nil ?_)
        refine AWp.region (AOL.to hA tabOk (by conv => lhs; cbv) (AOL.nil ?_))
        rw [hdec]
        refine ⟨[(1, .ic (I mn)), (2, .ptr 0 0), (6, .own 1 ver), (7, .ic (I ((k : Int) - 1)))], Trim.of rfl (.same (.turn rfl .nil)) rfl (.cons rfl (.cons rfl (.cons rfl (.cons rfl .nil)))), ?_⟩
        exact ⟨m, by omega, k, ver, Vk.set a.toNat b, by omega, by omega, by rw [hstep, hun], by simpa using hle, Sub.of rfl (by rw [hd2]; rfl) (.cons rfl (.cons rfl (.cons rfl (.cons rfl .nil))))⟩
      · have hun : undo1 (a, b) Vk = none := by simp only [undo1]; rw [if_neg h1, if_neg h2]
        have hnone : undoAll (N.drop many) V = none := by
          refine undoAll_none (k - many) ?_
          rw [List.drop_drop, show many + (k - many) = k by omega, hstep, hun]
        rw [hnone]
        refine AWp.seq (AWp.region (AOL.upto hA tabOk 4 (by conv => lhs; cbv) ?_))
        by_cases h3 : a = -1
        · rw [show A .eq a (-1) = true by rw [req hA]; exact decide_eq_true h3]
          refine AOL.to hA tabOk (by conv => lhs; cbv) ?_
          refine One.lenOwn tabOk rfl rfl rfl rfl (rlen hA Ik).symm _ _ ?_
          refine AOL.to hA tabOk (by conv => lhs; cbv) (AOL.nil ?_)
          rw [show A .lt 0 (A .len Ik) = false by rw [rlt hA, rlen hA]; exact decide_eq_false (by omega)]
          refine AWp.cond_f rfl ?_
          refine AWp.seq (AWp.region (AOL.upto hA tabOk 4 (by conv => lhs; cbv) ?_))
          rw [show A .le 0 a = false by rw [rle hA]; exact decide_eq_false (by omega)]
          refine AOL.to hA tabOk (by conv => lhs; cbv) (AOL.nil ?_)
          refine AWp.cond_f rfl ?_
          refine AWp.seq (AWp.region (AOL.to hA tabOk (by conv => lhs; cbv) (AOL.nil ?_)))
          refine AWp.ret ⟨[(4, .ic (.sl 0 true [])), (5, .ic (Bo false))], Trim.of rfl (.same (.same .nil)) rfl (.cons rfl (.cons rfl .nil)), ?_⟩
          exact ⟨.inr rfl, _, RetOk.two rfl (Res1.tmp _) (Res1.tmp _), rfl⟩
        · rw [show A .eq a (-1) = false by rw [req hA]; exact decide_eq_false h3]
          refine AOL.to hA tabOk (by conv => lhs; cbv) (AOL.nil ?_)
          refine AWp.cond_f rfl ?_
          refine AWp.seq (AWp.region (AOL.upto hA tabOk 4 (by conv => lhs; cbv) ?_))
          by_cases h4 : 0 ≤ a
          · rw [show A .le 0 a = true by rw [rle hA]; exact decide_eq_true h4]
            refine AOL.to hA tabOk (by conv => lhs; cbv) ?_
            refine One.lenOwn tabOk rfl rfl rfl rfl (rlen hA Ik).symm _ _ ?_
            refine AOL.to hA tabOk (by conv => lhs; cbv) (AOL.nil ?_)
            rw [show A .lt a (A .len Ik) = false by rw [rlt hA, rlen hA]; exact decide_eq_false (by omega)]
            refine AWp.cond_f rfl ?_
            refine AWp.seq (AWp.region (AOL.to hA tabOk (by conv => lhs; cbv) (AOL.nil ?_)))
            refine AWp.ret ⟨[(4, .ic (.sl 0 true [])), (5, .ic (Bo false))], Trim.of rfl (.same (.same .nil)) rfl (.cons rfl (.cons rfl .nil)), ?_⟩
            exact ⟨.inr rfl, _, RetOk.two rfl (Res1.tmp _) (Res1.tmp _), rfl⟩
          · rw [show A .le 0 a = false by rw [rle hA]; exact decide_eq_false h4]
            refine AOL.to hA tabOk (by conv => lhs; cbv) (AOL.nil ?_)
            refine AWp.cond_f rfl ?_
            refine AWp.seq (AWp.region (AOL.to hA tabOk (by conv => lhs; cbv) (AOL.nil ?_)))
            refine AWp.ret ⟨[(4, .ic (.sl 0 true [])), (5, .ic (Bo false))], Trim.of rfl (.same (.same .nil)) rfl (.cons rfl (.cons rfl .nil)), ?_⟩
            exact ⟨.inr rfl, _, RetOk.two rfl (Res1.tmp _) (Res1.tmp _), rfl⟩
end Go.Proofs.Ytkkjlmcnfoncdaa.Aw

namespace Go.Proofs.Ytkkjlmcnfoncdaa.Aw
open Go Go.RowKit
set_option maxRecDepth 10000
def mOk (n : Int) : Int → List Int → Bool
  | _, [] => true
  | p, m :: r => decide (p ≤ m) && decide (m ≤ n) && mOk n m r
def Cl.right (c : Cl) : Bool := mOk c.N.length 0 c.M && (undoAll c.N c.V).isSome
theorem undoneR_tup (o : Option (List Int)) : ∃ x, undoneR o = .tup [.c x, .c (Bo o.isSome)] := by cases o <;> exact ⟨_, rfl⟩
variable {A : Ar} (hA : A = real)
include hA
theorem refRight (c : Cl) (hc : c.small) : PureCalls Try.prog 91 [c.pv] (.c (Bo c.right)) := by
  obtain ⟨V, N, M⟩ := c
  obtain ⟨hv, hn, hm⟩ := hc
  simp only at hv hn hm
  simp only [Cl.right, Cl.pv]
  refine PureCalls.of Try.func91 rfl (by kernel_rfl) rfl ?_
  have hcl := refCells hA V N (ints M) 0 (Nat.zero_le _) (by omega) (by omega)
  rw [List.drop_zero] at hcl
  have hMg := ints_get? M
  have hMl : (ints M).length = M.length := by simp
  have hNl : (nts N).length = N.length := by simp
  generalize ints V = Vr at hcl ⊢
  generalize nts N = Nr at hNl hcl ⊢
  generalize ints M = Mr at hMl hMg hcl ⊢
  refine AWp.seq (AWp.region (AOL.to hA tabOk (by conv => lhs; cbv) (AOL.nil ?_)))
  refine AWp.seq (AWp.seq (AWp.region (AOL.to hA tabOk (by conv => lhs; cbv) (AOL.nil ?_))))
  refine AWp.block ?_
  refine AWp.loop (fun q s => ∃ (k : Nat) (p : Int), q + k = M.length ∧ 0 ≤ p ∧ (∀ j, k = j + 1 → M[j]? = some p) ∧ (k = 0 → p = 0) ∧ mOk N.length 0 M = mOk N.length p (M.drop k) ∧ Sub ⟨54, [(1, .ptr 0 0), (3, .ic (I (k : Int)))],
    [.var true 29 [.ic (.sl 1 false Vr), .ic (.sl 2 false Nr), .ic (.sl 1 false Mr)]]⟩ s) M.length
    ⟨0, 0, by omega, by omega, by simp, by simp, by simp, Sub.of rfl rfl (.cons rfl (.cons rfl .nil))⟩ ?_
  rintro q s ⟨k, p, hk, hp0, hpk, hpz, hmk, hsub⟩
  refine AWp.sub hsub ?_
  generalize hz : (k : Int) = z
  refine AWp.seq (AWp.seq (AWp.region (AOL.to hA tabOk (by conv => lhs; cbv) (AOL.nil ?_))))
  rcases Nat.lt_or_ge k M.length with hkl | hkl
  · rw [show A .lt z (A .len Mr) = true by rw [rlt hA, rlen hA]; exact decide_eq_true (by omega)]
    refine AWp.cond_t rfl (AWp.skip ?_)
    have hmm : M[k]? = some M[k] := List.getElem?_eq_getElem hkl
    have hdm : M.drop k = M[k] :: M.drop (k + 1) := List.drop_eq_getElem_cons hkl
    generalize M[k] = m at hmm hdm
    have hzk : z.toNat = k := by omega
    have hel := hMg k m hmm
    have hadd : A .add .i64 z 1 = ((k + 1 : Nat) : Int) := by rw [radd hA, wok (by omega) (by omega)]; omega
    rw [hdm] at hmk
    simp only [mOk] at hmk
    refine AWp.seq (AWp.block (AWp.seq (AWp.drawQ 35 rfl (by kernel_rfl) ?_)))
    refine QS.to hA tabOk (by conv => lhs; cbv) ?_
    refine QS.one rfl (One.elem tabOk rfl rfl rfl rfl (by omega) (by rw [hzk]; exact hel)) ?_
    refine QS.upto hA tabOk 3 (by conv => lhs; cbv) ?_
    by_cases h1 : m < 0
    · rw [show A .lt m 0 = true by rw [rlt hA]; exact decide_eq_true h1]
      refine QS.to hA tabOk (by conv => lhs; cbv) ?_
      refine AOL.to hA tabOk (by conv => lhs; cbv) (AOL.nil ?_)
      refine AWp.cond_t rfl ?_
      refine AWp.seq (AWp.region (AOL.to hA tabOk (by conv => lhs; cbv) (AOL.nil ?_)))
      rw [hmk, show decide (p ≤ m) = false from decide_eq_false (by omega)]
      exact AWp.ret ⟨.inr rfl, _, RetOk.one rfl (Res1.tmp _), rfl⟩
    · rw [show A .lt m 0 = false by rw [rlt hA]; exact decide_eq_false h1]
      refine QS.to hA tabOk (by conv => lhs; cbv) ?_
      refine QS.one rfl (One.elem tabOk rfl rfl rfl rfl (by omega) (by rw [hzk]; exact hel)) ?_
      refine QS.upto hA tabOk 7 (by conv => lhs; cbv) ?_
      by_cases h2 : (N.length : Int) < m
      · rw [show A .lt (A .len Nr) m = true by rw [rlt hA, rlen hA, hNl]; exact decide_eq_true h2]
        refine QS.to hA tabOk (by conv => lhs; cbv) ?_
        refine AOL.to hA tabOk (by conv => lhs; cbv) (AOL.nil ?_)
        refine AWp.cond_t rfl ?_
        refine AWp.seq (AWp.region (AOL.to hA tabOk (by conv => lhs; cbv) (AOL.nil ?_)))
        rw [hmk, show decide (m ≤ (N.length : Int)) = false from decide_eq_false (by omega)]
        simp only [Bool.and_false, Bool.false_and]
        exact AWp.ret ⟨.inr rfl, _, RetOk.one rfl (Res1.tmp _), rfl⟩
      · rw [show A .lt (A .len Nr) m = false by rw [rlt hA, rlen hA, hNl]; exact decide_eq_false h2]
        rw [show decide (m ≤ (N.length : Int)) = true from decide_eq_true (by omega)] at hmk
        refine QS.upto hA tabOk 3 (by conv => lhs; cbv) ?_
        cases k with
        | zero =>
          rw [show A .lt 0 z = false by rw [rlt hA]; exact decide_eq_false (by omega)]
          refine QS.to hA tabOk (by conv => lhs; cbv) ?_
          refine AOL.to hA tabOk (by conv => lhs; cbv) (AOL.nil ?_)
          refine AWp.cond_f rfl (AWp.skip ?_)
          refine AWp.region (AOL.to hA tabOk (by conv => lhs; cbv) (AOL.nil ?_))
          rw [hadd]
          have hp : p = 0 := hpz rfl
          rw [show decide (p ≤ m) = true from decide_eq_true (by omega)] at hmk
          simp only [Bool.true_and] at hmk
          exact ⟨q - 1, by omega, 1, m, by omega, by omega, fun j hj => (show 0 = j by omega) ▸ hmm, by omega, hmk, Sub.of rfl rfl (.cons rfl (.cons rfl .nil))⟩
        | succ k =>
          rw [show A .lt 0 z = true by rw [rlt hA]; exact decide_eq_true (by omega)]
          have hpe := hMg k p (hpk k rfl)
          refine QS.to hA tabOk (by conv => lhs; cbv) ?_
          refine QS.one rfl (One.elem tabOk rfl rfl rfl rfl (by omega) (by rw [hzk]; exact hel)) ?_
          refine QS.to hA tabOk (by conv => lhs; cbv) ?_
          have hsz : A .sub .i64 z 1 = (k : Int) := by rw [rsub hA, wok (by omega) (by omega)]; omega
          refine QS.one rfl (One.elem tabOk rfl rfl rfl rfl (by rw [hsz]; omega) (by rw [hsz, Int.toNat_natCast]; exact hpe)) ?_
          refine QS.upto hA tabOk 2 (by conv => lhs; cbv) ?_
          by_cases h3 : m < p
          · rw [show A .lt m p = true by rw [rlt hA]; exact decide_eq_true h3]
            refine QS.to hA tabOk (by conv => lhs; cbv) ?_
            refine AOL.to hA tabOk (by conv => lhs; cbv) (AOL.nil ?_)
            refine AWp.cond_t rfl ?_
            refine AWp.seq (AWp.region (AOL.to hA tabOk (by conv => lhs; cbv) (AOL.nil ?_)))
            rw [hmk, show decide (p ≤ m) = false from decide_eq_false (by omega)]
            exact AWp.ret ⟨.inr rfl, _, RetOk.one rfl (Res1.tmp _), rfl⟩
          · rw [show A .lt m p = false by rw [rlt hA]; exact decide_eq_false h3]
            refine QS.to hA tabOk (by conv => lhs; cbv) ?_
            refine AOL.to hA tabOk (by conv => lhs; cbv) (AOL.nil ?_)
            refine AWp.cond_f rfl (AWp.skip ?_)
            refine AWp.region (AOL.to hA tabOk (by conv => lhs; cbv) (AOL.nil ?_))
            rw [hadd]
            rw [show decide (p ≤ m) = true from decide_eq_true (by omega)] at hmk
            simp only [Bool.true_and] at hmk
            exact ⟨q - 1, by omega, k + 1 + 1, m, by omega, by omega, fun j hj => (show k + 1 = j by omega) ▸ hmm, by omega, hmk, Sub.of rfl rfl (.cons rfl (.cons rfl .nil))⟩
  · rw [show A .lt z (A .len Mr) = false by rw [rlt hA, rlen hA]; exact decide_eq_false (by omega)]
    refine AWp.cond_f rfl (AWp.exit (Thn.exit (Thn.exit (Blk.here ?_))))
    rw [List.drop_of_length_le hkl] at hmk
    rw [hmk]
    simp only [mOk, Bool.true_and]
    obtain ⟨x, hx⟩ := undoneR_tup (undoAll N V)
    rw [hx] at hcl
    generalize (undoAll N V).isSome = r at hcl ⊢
    refine AWp.seq (AWp.region (AOL.to hA tabOk (by conv => lhs; cbv) ?_))
    refine One.call false rfl rfl rfl hcl rfl _ _ ?_
    refine AOL.to hA tabOk (by conv => lhs; cbv) (AOL.nil ?_)
    refine AWp.seq (AWp.region (AOL.to hA tabOk (by conv => lhs; cbv) (AOL.nil ?_)))
    exact AWp.ret ⟨.inr rfl, _, RetOk.one rfl (Res1.tmp _), rfl⟩
end Go.Proofs.Ytkkjlmcnfoncdaa.Aw

namespace Go.Proofs.Ytkkjlmcnfoncdaa.Aw
open Go Go.RowKit
set_option maxRecDepth 10000
variable {A : Ar} (hA : A = real)
include hA
end Go.Proofs.Ytkkjlmcnfoncdaa.Aw

namespace Go.Proofs.Ytkkjlmcnfoncdaa.Aw
open Go Go.RowKit
set_option maxRecDepth 10000
variable {A : Ar} (hA : A = real)
include hA
end Go.Proofs.Ytkkjlmcnfoncdaa.Aw

namespace Go.Proofs.Ytkkjlmcnfoncdaa.Aw
open Go Go.RowKit
set_option maxRecDepth 10000
variable {A : Ar} (hA : A = real)
include hA
end Go.Proofs.Ytkkjlmcnfoncdaa.Aw

namespace Go.Proofs.Ytkkjlmcnfoncdaa.Aw
open Go Go.RowKit
set_option maxRecDepth 10000
structure Cl.fits (c : Cl) : Prop where
  v : c.V.length ≤ 140737488351232
  n : c.N.length ≤ 140737488351232
  m : c.M.length ≤ 140737488351232
def Cl.marked (c : Cl) : Cl := ⟨c.V, c.N, c.M ++ [(c.N.length : Int)]⟩
variable {A : Ar} (hA : A = real)
include hA
end Go.Proofs.Ytkkjlmcnfoncdaa.Aw

namespace Go.Proofs.Ytkkjlmcnfoncdaa.Aw
open Go Go.RowKit
set_option maxRecDepth 10000
def Cl.grown (c : Cl) (v : Int) : Cl := ⟨c.V ++ [v], c.N ++ [(-1, 0)], c.M⟩
variable {A : Ar} (hA : A = real)
include hA
end Go.Proofs.Ytkkjlmcnfoncdaa.Aw

namespace Go.Proofs.Ytkkjlmcnfoncdaa.Aw
open Go Go.RowKit
def shCells : List Sh := [.sl 8 (.int .i64), .sl 16 (.st [.int .i64, .int .i64]), .sl 8 (.int .i64)]
theorem decCells {ics : List IC} (h : Decs shCells ics) : ∃ c : Cl, ics = [.sl 1 false (ints c.V), .sl 2 false (nts c.N), .sl 1 false (ints c.M)] ∧ c.fits := by
  obtain ⟨a1, b1, rfl, ⟨r1, rfl, h1, l1⟩, a2, b2, rfl, ⟨r2, rfl, h2, l2⟩, a3, b3, rfl, ⟨r3, rfl, h3, l3⟩, rfl⟩ := h
  obtain ⟨V, rfl, _⟩ := decInts h1
  obtain ⟨N, rfl, _⟩ := decPairs h2
  obtain ⟨M, rfl, _⟩ := decInts h3
  refine ⟨⟨V, N, M⟩, rfl, ⟨?_, ?_, ?_⟩⟩
  · simp only [List.length_map] at l1; show V.length ≤ _; omega
  · simp only [List.length_map] at l2; show N.length ≤ _; omega
  · simp only [List.length_map] at l3; show M.length ≤ _; omega
end Go.Proofs.Ytkkjlmcnfoncdaa.Aw

namespace Go.Proofs.Ytkkjlmcnfoncdaa.Aw
open Go Go.RowKit
set_option maxRecDepth 10000
attribute [local irreducible] AWp AOL QS One AOLg QSg NX QX TRg TX AllO Fin3
def rankM (ranks : List Int) (z : Int) : Int := if z < 0 ∨ ranks.length ≤ z then 0 else ranks.getD z.toNat default
def lessM (ranks : List Int) (a b : Int) : Bool := decide (rankM ranks a < rankM ranks b) || (decide (rankM ranks a = rankM ranks b) && decide (a < b))
def encN (n : Int × Int) : List IC := [.lit (.int .i64 n.1), .lit (.int .i64 n.2)]
abbrev clP (A : Ar) (V : List Int) (N : List (Int × Int)) (M : List Int) : PV := .agg [.sl 1 false (hid A (List.map encI V)), .sl 2 false (hid A (List.map encN N)), .sl 1 false (hid A (List.map encI M))]
theorem clP_eq {A : Ar} (hA : A = real) (c : Cl) : clP A c.V c.N c.M = c.pv := by
  simp only [clP, hid_eq hA]; rfl
variable {A : Ar} (hA : A = real)
include hA
theorem rank_c (ranks : List Int) (z : Int) (hr : ranks.length ≤ 1000000) : ACalls Try.prog 119 [.ic (.lit (.int .i64 z)), .ptr 0 0] [.var true 24 [.ic (.sl 1 false (hid A (List.map encI ranks)))]]
    (fun x s' => x = .ic (.lit (.int .i64 (hid A (rankM ranks z)))) ∧ s' = [.var true 24 [.ic (.sl 1 false (hid A (List.map encI ranks)))]]) := by
  refine ACalls.of Try.func119 rfl (by kernel_rfl) rfl ?_
  try first | refine AOLg.of [] ?_ | refine QSg.of [] ?_
  repeat' (first | (refine AWp.pass ?_; first | refine AWp.seq ?_ | refine AWp.block ?_ | refine AWp.skip ?_ | refine AWp.regG [] Zc ?_ | refine AWp.cond_t rfl ?_ | refine AWp.cond_f rfl ?_ | (refine AWp.cond rfl ?_ ?_ <;> intro hc <;> (try rw [hc]) <;> ((try simp only [zn] at hc) <;> (try simp (disch := omega) only [zz hA, zb, zy, reduceCtorEq, Bool.false_eq_true, Int.reduceLT, Int.reduceLE, Int.reduceNeg] at hc) <;> (try simp only [zw] at hc)) <;> (try (exfalso; omega))) | refine AWp.exit ?_ | refine AWp.ret ⟨.inr rfl, _, RetOk.ev tabOk Zc, ?_⟩) | (refine AOLg.pass ?_; refine AOLg.nx hA tabOk Zc ?_; first | refine NX.done ?_ | refine NX.gt ?_ | refine NX.gf ?_ | (refine NX.gs ?_ ?_ <;> intro hc <;> rw [hc] <;> ((try simp only [zn] at hc) <;> (try simp (disch := omega) only [zz hA, zb, zy, reduceCtorEq, Bool.false_eq_true, Int.reduceLT, Int.reduceLE, Int.reduceNeg] at hc) <;> (try simp only [zw] at hc)) <;> (try (exfalso; omega))) | refine NX.k 1 (NX.one Z1 ?_) | refine NX.k 10 (NX.one Z10 ?_) | refine NX.k 14 (NX.one Z14 ?_) | refine NX.raw ?_) | refine Thn.exit ?_ | refine Blk.here ?_ | refine Blk.other (by decide) ?_ | refine ⟨.inl rfl, _, RetOk.ev tabOk Zc, ?_⟩ | fail)
  · exact ⟨by simp [rankM, hc, hA, real, hid], rfl⟩
  · exact ⟨by simp [rankM, hc, hA, real, hid], rfl⟩
  · refine ⟨?_, rfl⟩
    rename_i h0
    rw [rankM, if_neg (by omega)]
theorem ordered_c (ranks : List Int) : ACalls Try.prog 92 [.ic (.sl 1 false (hid A (List.map encI ranks)))] []
    (fun x s' => x = .fn (.func 120) [] [.ptr 1 0] ∧ s' = [.var true 24 [.ic (.sl 1 false (hid A (List.map encI ranks)))], .var true 119 [.fn (.func 119) [] [.ptr 0 0]]]) := by
  refine ACalls.of Try.func92 rfl (by kernel_rfl) rfl ?_
  try first | refine AOLg.of [] ?_ | refine QSg.of [] ?_
  repeat' (first | (refine AWp.pass ?_; first | refine AWp.seq ?_ | refine AWp.block ?_ | refine AWp.skip ?_ | refine AWp.regG [] Zc ?_ | refine AWp.cond_t rfl ?_ | refine AWp.cond_f rfl ?_ | (refine AWp.cond rfl ?_ ?_ <;> intro hc <;> (try rw [hc]) <;> ((try simp only [zn] at hc) <;> (try simp (disch := omega) only [zz hA, zb, zy, reduceCtorEq, Bool.false_eq_true, Int.reduceLT, Int.reduceLE, Int.reduceNeg] at hc) <;> (try simp only [zw] at hc)) <;> (try (exfalso; omega))) | refine AWp.exit ?_ | refine AWp.ret ⟨.inr rfl, _, RetOk.ev tabOk Zc, ?_⟩) | (refine AOLg.pass ?_; refine AOLg.nx hA tabOk Zc ?_; first | refine NX.done ?_ | refine NX.gt ?_ | refine NX.gf ?_ | (refine NX.gs ?_ ?_ <;> intro hc <;> rw [hc] <;> ((try simp only [zn] at hc) <;> (try simp (disch := omega) only [zz hA, zb, zy, reduceCtorEq, Bool.false_eq_true, Int.reduceLT, Int.reduceLE, Int.reduceNeg] at hc) <;> (try simp only [zw] at hc)) <;> (try (exfalso; omega))) | refine NX.k 15 (NX.one Z15 ?_) | refine NX.raw ?_) | refine Thn.exit ?_ | refine Blk.here ?_ | refine Blk.other (by decide) ?_ | refine ⟨.inl rfl, _, RetOk.ev tabOk Zc, ?_⟩ | fail)
  exact ⟨rfl, rfl⟩
theorem ord2_c (ranks : List Int) (a b : Int) (hr : ranks.length ≤ 1000000) : ACalls Try.prog 120 [.ic (.lit (.int .i64 a)), .ic (.lit (.int .i64 b)), .ptr 1 0] [.var true 24 [.ic (.sl 1 false (hid A (List.map encI ranks)))], .var true 119 [.fn (.func 119) [] [.ptr 0 0]]]
    (fun x s' => x = .ic (.lit (.bool (hid A (lessM ranks a b)))) ∧ s' = [.var true 24 [.ic (.sl 1 false (hid A (List.map encI ranks)))], .var true 119 [.fn (.func 119) [] [.ptr 0 0]]]) := by
  refine ACalls.of Try.func120 rfl (by kernel_rfl) rfl ?_
  try first | refine AOLg.of [] ?_ | refine QSg.of [] ?_
  repeat' (first | (refine AWp.pass ?_; first | refine AWp.seq ?_ | refine AWp.block ?_ | refine AWp.skip ?_ | refine AWp.regG [] Zc ?_ | refine AWp.cond_t rfl ?_ | refine AWp.cond_f rfl ?_ | (refine AWp.cond rfl ?_ ?_ <;> intro hc <;> (try rw [hc]) <;> ((try simp only [zn] at hc) <;> (try simp (disch := omega) only [zz hA, zb, zy, reduceCtorEq, Bool.false_eq_true, Int.reduceLT, Int.reduceLE, Int.reduceNeg] at hc) <;> (try simp only [zw] at hc)) <;> (try (exfalso; omega))) | refine AWp.exit ?_ | refine AWp.ret ⟨.inr rfl, _, RetOk.ev tabOk Zc, ?_⟩ | refine AWp.drawVG [] rfl (by decide +kernel) Zc ?_) | (refine AOLg.pass ?_; refine AOLg.nx hA tabOk Zc ?_; first | refine NX.done ?_ | refine NX.gt ?_ | refine NX.gf ?_ | (refine NX.gs ?_ ?_ <;> intro hc <;> rw [hc] <;> ((try simp only [zn] at hc) <;> (try simp (disch := omega) only [zz hA, zb, zy, reduceCtorEq, Bool.false_eq_true, Int.reduceLT, Int.reduceLE, Int.reduceNeg] at hc) <;> (try simp only [zw] at hc)) <;> (try (exfalso; omega))) | refine NX.k 8 (NX.one Z8 ?_) | refine NX.k 14 (NX.one Z14 ?_) | (refine NX.one (One.fcall 0 (rank_c hA ranks _ hr) rfl rfl rfl rfl rfl rfl rfl rfl) ?_) | refine NX.raw ?_) | (refine TRg.pass ?_; refine TRg.nx hA tabOk Zc ?_; first | refine TX.done ?_ | refine TX.gt ?_ | refine TX.gf ?_ | (refine TX.gs ?_ ?_ <;> intro hc <;> rw [hc] <;> ((try simp only [zn] at hc) <;> (try simp (disch := omega) only [zz hA, zb, zy, reduceCtorEq, Bool.false_eq_true, Int.reduceLT, Int.reduceLE, Int.reduceNeg] at hc) <;> (try simp only [zw] at hc)) <;> (try (exfalso; omega))) | refine TX.k 8 (TX.one Z8 ?_) | refine TX.k 14 (TX.one Z14 ?_) | (refine TX.one (One.fcall 0 (rank_c hA ranks _ hr) rfl rfl rfl rfl rfl rfl rfl rfl) ?_) | refine TX.raw ?_) | refine Fin3.of Zc (by repeat' (first | exact True.intro | exact rfl | refine And.intro ?_ ?_)) ?_ ?_ | (refine AllO.pass ?_; first | exact AllO.nil | (refine AllO.cons (One.ev hA tabOk ?_) ?_ <;> (first | refine AllO.pass ?_ | ((conv => lhs; cbv); done))) | (refine AllO.cons (One.skipB ?_) ?_ <;> (first | refine AllO.pass ?_ | ((conv => lhs; cbv); done))) | refine AllO.consX ZX rfl rfl ?_ | ((refine AllO.consX (One.fcall 0 (rank_c hA ranks _ hr) rfl rfl rfl rfl rfl rfl rfl rfl) rfl rfl ?_) <;> (first | refine AllO.pass ?_ | exact Zd))) | refine Thn.exit ?_ | refine Blk.here ?_ | refine Blk.other (by decide) ?_ | refine ⟨.inl rfl, _, RetOk.ev tabOk Zc, ?_⟩ | fail)
  all_goals
    refine ⟨?_, rfl⟩
    simp_all [lessM, hid, real]
theorem less_c (ranks : List Int) (a b : Int) (hr : ranks.length ≤ 1000000) : PureCalls Try.prog 62 [intsP A ranks, IP a, IP b] (BP (hid A (lessM ranks a b))) := by
  refine PureCalls.of Try.func62 rfl (by kernel_rfl) rfl ?_
  try first | refine AOLg.of [] ?_ | refine QSg.of [] ?_
  repeat' (first | (refine AWp.pass ?_; first | refine AWp.seq ?_ | refine AWp.block ?_ | refine AWp.skip ?_ | refine AWp.regG [] Zc ?_ | refine AWp.cond_t rfl ?_ | refine AWp.cond_f rfl ?_ | (refine AWp.cond rfl ?_ ?_ <;> intro hc <;> (try rw [hc]) <;> ((try simp only [zn] at hc) <;> (try simp (disch := omega) only [zz hA, zb, zy, reduceCtorEq, Bool.false_eq_true, Int.reduceLT, Int.reduceLE, Int.reduceNeg] at hc) <;> (try simp only [zw] at hc)) <;> (try (exfalso; omega))) | refine AWp.exit ?_ | refine AWp.ret ⟨.inr rfl, _, RetOk.ev tabOk Zc, ?_⟩) | (refine AOLg.pass ?_; refine AOLg.nx hA tabOk Zc ?_; first | refine NX.done ?_ | refine NX.gt ?_ | refine NX.gf ?_ | (refine NX.gs ?_ ?_ <;> intro hc <;> rw [hc] <;> ((try simp only [zn] at hc) <;> (try simp (disch := omega) only [zz hA, zb, zy, reduceCtorEq, Bool.false_eq_true, Int.reduceLT, Int.reduceLE, Int.reduceNeg] at hc) <;> (try simp only [zw] at hc)) <;> (try (exfalso; omega))) | refine NX.raw ?_) | refine Thn.exit ?_ | refine Blk.here ?_ | refine Blk.other (by decide) ?_ | refine ⟨.inl rfl, _, RetOk.ev tabOk Zc, ?_⟩ | fail)
  refine AOL.scall rfl rfl (ordered_c hA ranks) ?_
  rintro y st' ⟨rfl, rfl⟩
  refine AOL.norm (by conv => lhs; cbv) ?_
  try first | refine AOLg.of [] ?_ | refine QSg.of [] ?_
  repeat' (first | (refine AWp.pass ?_; first | refine AWp.seq ?_ | refine AWp.block ?_ | refine AWp.skip ?_ | refine AWp.regG [] Zc ?_ | refine AWp.cond_t rfl ?_ | refine AWp.cond_f rfl ?_ | (refine AWp.cond rfl ?_ ?_ <;> intro hc <;> (try rw [hc]) <;> ((try simp only [zn] at hc) <;> (try simp (disch := omega) only [zz hA, zb, zy, reduceCtorEq, Bool.false_eq_true, Int.reduceLT, Int.reduceLE, Int.reduceNeg] at hc) <;> (try simp only [zw] at hc)) <;> (try (exfalso; omega))) | refine AWp.exit ?_ | refine AWp.ret ⟨.inr rfl, _, RetOk.ev tabOk Zc, ?_⟩) | (refine AOLg.pass ?_; refine AOLg.nx hA tabOk Zc ?_; first | refine NX.done ?_ | refine NX.gt ?_ | refine NX.gf ?_ | (refine NX.gs ?_ ?_ <;> intro hc <;> rw [hc] <;> ((try simp only [zn] at hc) <;> (try simp (disch := omega) only [zz hA, zb, zy, reduceCtorEq, Bool.false_eq_true, Int.reduceLT, Int.reduceLE, Int.reduceNeg] at hc) <;> (try simp only [zw] at hc)) <;> (try (exfalso; omega))) | (refine NX.one (One.fcall 0 (ord2_c hA ranks _ _ hr) rfl rfl rfl rfl rfl rfl rfl rfl) ?_) | refine NX.raw ?_) | refine Thn.exit ?_ | refine Blk.here ?_ | refine Blk.other (by decide) ?_ | refine ⟨.inl rfl, _, RetOk.ev tabOk Zc, ?_⟩ | fail)
  refine rPV_then (by conv => lhs; cbv) ?_
  rfl
end Go.Proofs.Ytkkjlmcnfoncdaa.Aw

namespace Go.Proofs.Ytkkjlmcnfoncdaa.Aw
open Go Go.RowKit
def iterF (V : List Int) : Nat → Int → Int
  | 0, n => n
  | k + 1, n => iterF V k (V.getD n.toNat default)
def findU (V : List Int) (n : Int) : Int := iterF V V.length n
structure RightU (V ranks : List Int) : Prop where
  ok : ∀ n : Nat, n < V.length → V.getD n default = n ∨ (0 ≤ V.getD n default ∧ V.getD n default < V.length ∧ lessM ranks (V.getD n default) n = true)
theorem less_iff (ranks : List Int) (a b : Int) : lessM ranks a b = true ↔ rankM ranks a < rankM ranks b ∨ rankM ranks a = rankM ranks b ∧ a < b := by simp [lessM]
theorem less_irr (ranks : List Int) (a : Int) : lessM ranks a a = false := by simp [lessM]
theorem less_trans {ranks : List Int} {a b c : Int} (h : lessM ranks a b = true) (k : lessM ranks b c = true) : lessM ranks a c = true := by
  rw [less_iff] at *; omega
theorem less_tri (ranks : List Int) {a b : Int} (h : a ≠ b) : lessM ranks a b = true ∨ lessM ranks b a = true := by
  rw [less_iff, less_iff]; omega
def muU (V ranks : List Int) (n : Int) : Nat := (List.range V.length).countP fun m => lessM ranks ((m : Nat) : Int) n
theorem countP_lt {α : Type} {p q : α → Bool} : ∀ {l : List α} {x : α}, (∀ y ∈ l, p y = true → q y = true) → x ∈ l → q x = true → p x = false → l.countP p < l.countP q
  | [], x, h, hx, hq, hp => by simp at hx
  | y :: r, x, h, hx, hq, hp => by
    have hmono : r.countP p ≤ r.countP q := List.countP_mono_left fun z hz => h z (List.mem_cons_of_mem _ hz)
    rcases List.mem_cons.1 hx with rfl | hx
    · rw [List.countP_cons, List.countP_cons, hq, hp]
      simp; omega
    · have ih := countP_lt (l := r) (fun z hz => h z (List.mem_cons_of_mem _ hz)) hx hq hp
      rw [List.countP_cons, List.countP_cons]
      have := h y List.mem_cons_self
      cases hpy : p y <;> cases hqy : q y <;> simp_all <;> omega
theorem muU_lt {V ranks : List Int} {p n : Int} (h0 : 0 ≤ p) (h1 : p < V.length) (h : lessM ranks p n = true) : muU V ranks p < muU V ranks n := by
  refine countP_lt (x := p.toNat) (fun y _ hy => less_trans hy h) (List.mem_range.2 (by omega)) ?_ ?_
  · rw [show ((p.toNat : Nat) : Int) = p by omega]; exact h
  · rw [show ((p.toNat : Nat) : Int) = p by omega]; exact less_irr _ _
theorem muU_bound {V ranks : List Int} {n : Nat} (h : n < V.length) : muU V ranks n < V.length := by
  have := countP_lt (p := fun m : Nat => lessM ranks ((m : Nat) : Int) n) (q := fun _ => true) (l := List.range V.length) (x := n) (fun _ _ _ => rfl) (List.mem_range.2 h) rfl (less_irr _ _)
  simpa [muU] using this
theorem iterF_add (V : List Int) (a b : Nat) (n : Int) : iterF V (a + b) n = iterF V b (iterF V a n) := by
  induction a generalizing n with
  | zero => simp [iterF]
  | succ a ih => rw [Nat.succ_add]; exact ih _
theorem iterF_succ (V : List Int) (k : Nat) (n : Int) : iterF V (k + 1) n = V.getD (iterF V k n).toNat default := by
  rw [iterF_add]; rfl
theorem iterF_root {V : List Int} {n : Int} (h : V.getD n.toNat default = n) (k : Nat) : iterF V k n = n := by
  induction k with
  | zero => rfl
  | succ k ih => rw [iterF, h, ih]
variable {V ranks : List Int} (hR : RightU V ranks)
include hR
theorem step_range {n : Int} (h0 : 0 ≤ n) (h1 : n < V.length) : 0 ≤ V.getD n.toNat default ∧ V.getD n.toNat default < V.length := by
  rcases hR.ok n.toNat (by omega) with h | ⟨a, b, _⟩
  · rw [h]; omega
  · exact ⟨a, b⟩
theorem iter_range {n : Int} (h0 : 0 ≤ n) (h1 : n < V.length) (k : Nat) : 0 ≤ iterF V k n ∧ iterF V k n < V.length := by
  induction k with
  | zero => exact ⟨h0, h1⟩
  | succ k ih => rw [iterF_succ]; exact step_range hR ih.1 ih.2
theorem reach {n : Int} (h0 : 0 ≤ n) (h1 : n < V.length) (m : Nat) (hm : muU V ranks n ≤ m) : V.getD (iterF V m n).toNat default = iterF V m n := by
  induction m generalizing n with
  | zero =>
    rcases hR.ok n.toNat (by omega) with h | ⟨a, b, c⟩
    · show V.getD n.toNat default = n
      rw [h]; omega
    · rw [show ((n.toNat : Nat) : Int) = n by omega] at c
      have := muU_lt a b c
      omega
  | succ m ih =>
    rcases hR.ok n.toNat (by omega) with h | ⟨a, b, c⟩
    · have h' : V.getD n.toNat default = n := by rw [h]; omega
      rw [iterF_root h', h']
    · rw [show ((n.toNat : Nat) : Int) = n by omega] at c
      have := muU_lt a b c
      exact ih a b (by omega)
theorem find_fix {n : Int} (h0 : 0 ≤ n) (h1 : n < V.length) : V.getD (findU V n).toNat default = findU V n := by
  refine reach hR h0 h1 _ ?_
  have := muU_bound (ranks := ranks) (V := V) (n := n.toNat) (by omega)
  rw [show ((n.toNat : Nat) : Int) = n by omega] at this
  omega
theorem find_range {n : Int} (h0 : 0 ≤ n) (h1 : n < V.length) : 0 ≤ findU V n ∧ findU V n < V.length := iter_range hR h0 h1 _
theorem find_step {n : Int} (h0 : 0 ≤ n) (h1 : n < V.length) : findU V (V.getD n.toNat default) = findU V n := by
  show iterF V (V.length + 1) n = _
  rw [iterF_succ]
  exact find_fix hR h0 h1
omit hR in
theorem find_root {n : Int} (h : V.getD n.toNat default = n) : findU V n = n := iterF_root h _
theorem find_find {n : Int} (h0 : 0 ≤ n) (h1 : n < V.length) : findU V (findU V n) = findU V n := find_root (find_fix hR h0 h1)
end Go.Proofs.Ytkkjlmcnfoncdaa.Aw

namespace Go.Proofs.Ytkkjlmcnfoncdaa.Aw
open Go Go.RowKit
set_option maxRecDepth 10000
attribute [local irreducible] AWp AOL QS One AOLg QSg NX QX TRg TX AllO Fin3
variable {A : Ar} (hA : A = real)
include hA
theorem ufind_c (V : List Int) (N : List (Int × Int)) (M ranks : List Int) (hR : RightU V ranks) (z : Int) (h0 : 0 ≤ z) (h1 : z < V.length) : PureCalls Try.prog 41 [clP A V N M, IP z] (IP (hid A (findU V z))) := by
  refine PureCalls.of Try.func41 rfl (by kernel_rfl) rfl ?_
  try first | refine AOLg.of [] ?_ | refine QSg.of [] ?_
  repeat' (first | (refine AWp.pass ?_; first | refine AWp.seq ?_ | refine AWp.block ?_ | refine AWp.skip ?_ | refine AWp.regG [] Zc ?_ | refine AWp.cond_t rfl ?_ | refine AWp.cond_f rfl ?_ | (refine AWp.cond rfl ?_ ?_ <;> intro hc <;> (try rw [hc]) <;> ((try simp only [zn] at hc) <;> (try simp (disch := omega) only [zz hA, zb, zy, reduceCtorEq, Bool.false_eq_true, Int.reduceLT, Int.reduceLE, Int.reduceNeg] at hc) <;> (try simp only [zw] at hc)) <;> (try (exfalso; omega))) | refine AWp.exit ?_ | refine AWp.ret ⟨.inr rfl, _, RetOk.ev tabOk Zc, ?_⟩) | (refine AOLg.pass ?_; refine AOLg.nx hA tabOk Zc ?_; first | refine NX.done ?_ | refine NX.gt ?_ | refine NX.gf ?_ | (refine NX.gs ?_ ?_ <;> intro hc <;> rw [hc] <;> ((try simp only [zn] at hc) <;> (try simp (disch := omega) only [zz hA, zb, zy, reduceCtorEq, Bool.false_eq_true, Int.reduceLT, Int.reduceLE, Int.reduceNeg] at hc) <;> (try simp only [zw] at hc)) <;> (try (exfalso; omega))) | refine NX.k 1 (NX.one Z1 ?_) | refine NX.k 9 (NX.one Z9 ?_) | refine NX.k 14 (NX.one Z14 ?_) | refine NX.k 18 (NX.one Z18 ?_) | refine NX.raw ?_) | refine Thn.exit ?_ | refine Blk.here ?_ | refine Blk.other (by decide) ?_ | refine ⟨.inl rfl, _, RetOk.ev tabOk Zc, ?_⟩ | fail)
  refine AWp.loopU (fun x : Nat => [(1, .ic (.lit (.int .i64 (hid A (cN x)))))]) (fun _ => [.var true 29 [.ic (.sl 1 false (hid A (List.map encI V))), .ic (.sl 2 false (hid A (List.map encN N))), .ic (.sl 1 false (hid A (List.map encI M)))]]) (fun x => muU V ranks x) (fun x => x < V.length ∧ findU V x = findU V z) z.toNat (by conv => lhs; cbv) ⟨by omega, by rw [show ((z.toNat : Nat) : Int) = z by omega]⟩ (.int rfl (by simp only [hA, real, hid, cN]; omega) .nil) rfl ?_
  rintro x ⟨hx, hf⟩
  have hs := step_range hR (n := (x : Int)) (by omega) (by omega)
  rw [Int.toNat_natCast] at hs
  try first | refine AOLg.of [] ?_ | refine QSg.of [] ?_
  repeat' (first | (refine AWp.pass ?_; first | refine AWp.seq ?_ | refine AWp.block ?_ | refine AWp.skip ?_ | refine AWp.regG [] Zc ?_ | refine AWp.cond_t rfl ?_ | refine AWp.cond_f rfl ?_ | (refine AWp.cond rfl ?_ ?_ <;> intro hc <;> (try rw [hc]) <;> ((try simp only [zn] at hc) <;> (try simp (disch := omega) only [zz hA, zb, zy, reduceCtorEq, Bool.false_eq_true, Int.reduceLT, Int.reduceLE, Int.reduceNeg] at hc) <;> (try simp only [zw] at hc)) <;> (try (exfalso; omega))) | refine AWp.exit ?_ | refine AWp.ret ⟨.inr rfl, _, RetOk.ev tabOk Zc, ?_⟩) | (refine AOLg.pass ?_; refine AOLg.nx hA tabOk Zc ?_; first | refine NX.done ?_ | refine NX.gt ?_ | refine NX.gf ?_ | (refine NX.gs ?_ ?_ <;> intro hc <;> rw [hc] <;> ((try simp only [zn] at hc) <;> (try simp (disch := omega) only [zz hA, zb, zy, reduceCtorEq, Bool.false_eq_true, Int.reduceLT, Int.reduceLE, Int.reduceNeg] at hc) <;> (try simp only [zw] at hc)) <;> (try (exfalso; omega))) | refine NX.k 1 (NX.one Z1 ?_) | refine NX.k 9 (NX.one Z9 ?_) | refine NX.k 14 (NX.one Z14 ?_) | refine NX.k 18 (NX.one Z18 ?_) | refine NX.raw ?_) | refine Thn.exit ?_ | refine Blk.here ?_ | refine Blk.other (by decide) ?_ | refine ⟨.inl rfl, _, RetOk.ev tabOk Zc, ?_⟩ | fail)
  · have hst := find_step hR (n := (x : Int)) (by omega) (by omega)
    rw [Int.toNat_natCast] at hst
    have hlt : muU V ranks ((V.getD x default).toNat : Nat) < muU V ranks x := by
      rw [show (((V.getD x default).toNat : Nat) : Int) = V.getD x default by omega]
      rcases hR.ok x hx with h | ⟨a, b, c⟩
      · exact absurd h hc
      · exact muU_lt a b c
    refine ⟨(V.getD x default).toNat, ?_, ?_, rfl, rfl, ?_, Zk⟩ <;> (try omega)
    repeat' (first | exact subE.nil | refine subE.cons rfl ?_ | refine subE.int rfl ?_ ?_ | refine subE.bool rfl ?_ ?_ | refine subE.str rfl ?_ ?_ | refine subE.sl rfl ?_ ?_)
    · refine ⟨by omega, ?_⟩
      rw [show (((V.getD x default).toNat : Nat) : Int) = V.getD x default by omega, hst, hf]
    · exact Zd
  · refine rPV_then (by conv => lhs; cbv) ?_
    rw [← hf, find_root (by rw [Int.toNat_natCast]; exact hc)]
    ((try simp only [zn]) <;> (try simp (disch := omega) only [zz hA, zb, zy, reduceCtorEq, Bool.false_eq_true, Int.reduceLT, Int.reduceLE, Int.reduceNeg]) <;> (try simp only [zw]))
theorem set_n (V : List Int) (N : List (Int × Int)) (M : List Int) (z v : Int) (h0 : 0 ≤ z) (h1 : z < V.length) (hN : N.length ≤ 1000000) (hV : V.length ≤ 1000000) : PureCalls Try.prog 90 [clP A V N M, IP z, IP v] (.tup [clP A (V.set z.toNat v) (N ++ [(z, V.getD z.toNat default)]) M, IP 0]) := by
  have := set_c1 hA (hid A (List.map encI V)) (hid A (List.map encN N)) (hid A (List.map encI M)) z.toNat (V.getD z.toNat default) v (by simpa [hid_eq hA] using hN) (by simpa [hid_eq hA] using hV) (by rw [hid_eq hA]; simp [show z.toNat < V.length by omega, encI])
  rw [show ((z.toNat : Nat) : Int) = z by omega] at this
  simp only [clP, hid_eq hA, List.map_set, List.map_append] at this ⊢
  exact this
def joinP (V ranks : List Int) (a b : Int) : Int × Int := if lessM ranks (findU V b) (findU V a) then (findU V b, findU V a) else (findU V a, findU V b)
def joinV (V ranks : List Int) (a b : Int) : List Int := if findU V a = findU V b then V else V.set (joinP V ranks a b).2.toNat (joinP V ranks a b).1
def joinN (V ranks : List Int) (N : List (Int × Int)) (a b : Int) : List (Int × Int) := if findU V a = findU V b then N else N ++ [((joinP V ranks a b).2, (joinP V ranks a b).2)]
theorem join_c (V : List Int) (N : List (Int × Int)) (M ranks : List Int) (hR : RightU V ranks) (a b : Int) (ha : 0 ≤ a ∧ a < V.length) (hb : 0 ≤ b ∧ b < V.length) (hr : ranks.length ≤ 1000000) (hN : N.length ≤ 1000000) (hV : V.length ≤ 1000000) :
    PureCalls Try.prog 57 [clP A V N M, intsP A ranks, IP a, IP b] (clP A (joinV V ranks a b) (joinN V ranks N a b) M) := by
  have hfa := find_range hR ha.1 ha.2
  have hfb := find_range hR hb.1 hb.2
  have hxa := find_fix hR ha.1 ha.2
  have hxb := find_fix hR hb.1 hb.2
  refine PureCalls.of Try.func57 rfl (by kernel_rfl) rfl ?_
  try first | refine AOLg.of [] ?_ | refine QSg.of [] ?_
  repeat' (first | (refine AWp.pass ?_; first | refine AWp.seq ?_ | refine AWp.block ?_ | refine AWp.skip ?_ | refine AWp.regG [] Zc ?_ | refine AWp.cond_t rfl ?_ | refine AWp.cond_f rfl ?_ | (refine AWp.cond rfl ?_ ?_ <;> intro hc <;> (try rw [hc]) <;> ((try simp only [zn] at hc) <;> (try simp (disch := omega) only [zz hA, zb, zy, reduceCtorEq, Bool.false_eq_true, Int.reduceLT, Int.reduceLE, Int.reduceNeg] at hc) <;> (try simp only [zw] at hc)) <;> (try (exfalso; omega))) | refine AWp.exit ?_ | refine AWp.ret ⟨.inr rfl, _, RetOk.ev tabOk Zc, ?_⟩ | refine AWp.drawVG [] rfl (by decide +kernel) Zc ?_) | (refine AOLg.pass ?_; refine AOLg.nx hA tabOk Zc ?_; first | refine NX.done ?_ | refine NX.gt ?_ | refine NX.gf ?_ | (refine NX.gs ?_ ?_ <;> intro hc <;> rw [hc] <;> ((try simp only [zn] at hc) <;> (try simp (disch := omega) only [zz hA, zb, zy, reduceCtorEq, Bool.false_eq_true, Int.reduceLT, Int.reduceLE, Int.reduceNeg] at hc) <;> (try simp only [zw] at hc)) <;> (try (exfalso; omega))) | (refine NX.kC ?_; first | (with_reducible refine NX.call (ufind_c hA V N M ranks hR a ha.1 ha.2) ?_) | (with_reducible refine NX.call (ufind_c hA V N M ranks hR b hb.1 hb.2) ?_) | (with_reducible refine NX.call (less_c hA ranks _ _ hr) ?_) | ((with_reducible refine NX.call (set_n hA V N M _ _ ?_ ?_ hN hV) ?_) <;> (first | refine AOLg.pass ?_ | exact Zd)) | ((first | refine NX.call (ufind_c hA V N M ranks hR a ha.1 ha.2) ?_ | refine NX.call (ufind_c hA V N M ranks hR b hb.1 hb.2) ?_ | refine NX.call (less_c hA ranks _ _ hr) ?_ | refine NX.call (set_n hA V N M _ _ ?_ ?_ hN hV) ?_) <;> (first | refine AOLg.pass ?_ | exact Zd)) | fail) | (refine NX.kO ?_; (first | refine NX.callO (ufind_c hA V N M ranks hR a ha.1 ha.2) (by simp [allEq]) rfl ?_ | refine NX.callO (ufind_c hA V N M ranks hR b hb.1 hb.2) (by simp [allEq]) rfl ?_ | refine NX.callO (less_c hA ranks _ _ hr) (by simp [allEq]) rfl ?_ | refine NX.callO (set_n hA V N M _ _ ?_ ?_ hN hV) (by simp [allEq]) rfl ?_) <;> (first | refine AOLg.pass ?_ | exact Zd)) | refine NX.k 8 (NX.one Z8 ?_) | refine NX.k 14 (NX.one Z14 ?_) | refine NX.k 15 (NX.one Z15 ?_) | refine NX.raw ?_) | (refine TRg.pass ?_; refine TRg.nx hA tabOk Zc ?_; first | refine TX.done ?_ | refine TX.gt ?_ | refine TX.gf ?_ | (refine TX.gs ?_ ?_ <;> intro hc <;> rw [hc] <;> ((try simp only [zn] at hc) <;> (try simp (disch := omega) only [zz hA, zb, zy, reduceCtorEq, Bool.false_eq_true, Int.reduceLT, Int.reduceLE, Int.reduceNeg] at hc) <;> (try simp only [zw] at hc)) <;> (try (exfalso; omega))) | (refine TX.kC ?_; first | (with_reducible refine TX.call (ufind_c hA V N M ranks hR a ha.1 ha.2) ?_) | (with_reducible refine TX.call (ufind_c hA V N M ranks hR b hb.1 hb.2) ?_) | (with_reducible refine TX.call (less_c hA ranks _ _ hr) ?_) | ((with_reducible refine TX.call (set_n hA V N M _ _ ?_ ?_ hN hV) ?_) <;> (first | refine TRg.pass ?_ | exact Zd)) | ((first | refine TX.call (ufind_c hA V N M ranks hR a ha.1 ha.2) ?_ | refine TX.call (ufind_c hA V N M ranks hR b hb.1 hb.2) ?_ | refine TX.call (less_c hA ranks _ _ hr) ?_ | refine TX.call (set_n hA V N M _ _ ?_ ?_ hN hV) ?_) <;> (first | refine TRg.pass ?_ | exact Zd)) | fail) | (refine TX.kO ?_; (first | refine TX.callO (ufind_c hA V N M ranks hR a ha.1 ha.2) (by simp [allEq]) rfl ?_ | refine TX.callO (ufind_c hA V N M ranks hR b hb.1 hb.2) (by simp [allEq]) rfl ?_ | refine TX.callO (less_c hA ranks _ _ hr) (by simp [allEq]) rfl ?_ | refine TX.callO (set_n hA V N M _ _ ?_ ?_ hN hV) (by simp [allEq]) rfl ?_) <;> (first | refine TRg.pass ?_ | exact Zd)) | refine TX.k 8 (TX.one Z8 ?_) | refine TX.k 14 (TX.one Z14 ?_) | refine TX.k 15 (TX.one Z15 ?_) | refine TX.raw ?_) | refine Fin3.of Zc (by repeat' (first | exact True.intro | exact rfl | refine And.intro ?_ ?_)) ?_ ?_ | (refine AllO.pass ?_; first | exact AllO.nil | (refine AllO.cons (One.ev hA tabOk ?_) ?_ <;> (first | refine AllO.pass ?_ | ((conv => lhs; cbv); done))) | (refine AllO.cons (One.skipB ?_) ?_ <;> (first | refine AllO.pass ?_ | ((conv => lhs; cbv); done))) | ((with_reducible refine AllO.call Zc (ufind_c hA V N M ranks hR a ha.1 ha.2) ?_ ?_) <;> (first | refine AllO.pass ?_ | exact rfl | exact Zd)) | ((with_reducible refine AllO.call Zc (ufind_c hA V N M ranks hR b hb.1 hb.2) ?_ ?_) <;> (first | refine AllO.pass ?_ | exact rfl | exact Zd)) | ((with_reducible refine AllO.call Zc (less_c hA ranks _ _ hr) ?_ ?_) <;> (first | refine AllO.pass ?_ | exact rfl | exact Zd)) | ((with_reducible refine AllO.call Zc (set_n hA V N M _ _ ?_ ?_ hN hV) ?_ ?_) <;> (first | refine AllO.pass ?_ | exact rfl | exact Zd)) | refine AllO.consX ZX rfl rfl ?_) | refine Thn.exit ?_ | refine Blk.here ?_ | refine Blk.other (by decide) ?_ | refine ⟨.inl rfl, _, RetOk.ev tabOk Zc, ?_⟩ | fail)
  · refine rPV_then (by conv => lhs; cbv) ?_
    ((try simp only [zn]) <;> (try simp (disch := omega) only [zz hA, zb, zy, reduceCtorEq, Bool.false_eq_true, Int.reduceLT, Int.reduceLE, Int.reduceNeg, joinV, joinN]) <;> (try simp only [zw]))
    rw [if_pos hc, if_pos hc]
    simp [hA, real, hid]
  · rename_i hne
    refine rPV_then (by conv => lhs; cbv) ?_
    ((try simp only [zn]) <;> (try simp (disch := omega) only [zz hA, zb, zy, reduceCtorEq, Bool.false_eq_true, Int.reduceLT, Int.reduceLE, Int.reduceNeg, joinV, joinN, joinP]) <;> (try simp only [zw]))
    rw [if_neg hne, if_neg hne, if_pos hc, hxa]
    simp [hA, real, hid]
  · rename_i hne
    refine rPV_then (by conv => lhs; cbv) ?_
    ((try simp only [zn]) <;> (try simp (disch := omega) only [zz hA, zb, zy, reduceCtorEq, Bool.false_eq_true, Int.reduceLT, Int.reduceLE, Int.reduceNeg, joinV, joinN, joinP]) <;> (try simp only [zw]))
    rw [if_neg hne, if_neg hne, if_neg (by rw [hc]; simp), hxb]
    simp [hA, real, hid]
end Go.Proofs.Ytkkjlmcnfoncdaa.Aw

namespace Go.Proofs.Ytkkjlmcnfoncdaa.Aw
open Go Go.RowKit
set_option maxRecDepth 10000
attribute [local irreducible] AWp AOL QS One AOLg QSg NX QX TRg TX AllO Fin3
def thoseM (n : Nat) (pr : Int → Bool) : List Int := ((List.range n).map fun (k : Nat) => (k : Int)).filter pr
variable {A : Ar} (hA : A = real)
include hA
end Go.Proofs.Ytkkjlmcnfoncdaa.Aw

namespace Go.Proofs.Ytkkjlmcnfoncdaa.Aw
open Go Go.RowKit
set_option maxRecDepth 10000
attribute [local irreducible] AWp AOL QS One AOLg QSg NX QX TRg TX AllO Fin3
def okU (V ranks : List Int) (n : Nat) : Bool := decide (V.getD n default = n) || (decide (0 ≤ V.getD n default) && decide (V.getD n default < V.length) && lessM ranks (V.getD n default) n)
def rightB (V ranks : List Int) : Bool := (List.range V.length).all (okU V ranks)
theorem rightB_iff (V ranks : List Int) : rightB V ranks = true ↔ RightU V ranks := by
  unfold rightB
  rw [List.all_eq_true]
  constructor
  · intro h
    refine ⟨fun n hn => ?_⟩
    have := h n (List.mem_range.2 hn)
    simpa [okU, and_assoc] using this
  · intro h n hn
    have := h.ok n (List.mem_range.1 hn)
    simpa [okU, and_assoc] using this
theorem rightB_false {V ranks : List Int} {n : Nat} (hn : n < V.length) (h : okU V ranks n = false) : rightB V ranks = false := by
  cases hb : rightB V ranks with
  | false => rfl
  | true =>
    unfold rightB at hb
    rw [List.all_eq_true] at hb
    rw [hb n (List.mem_range.2 hn)] at h
    cases h
theorem rightB_all {V ranks : List Int} (h : ∀ n, n < V.length → okU V ranks n = true) : rightB V ranks = true := by
  unfold rightB
  rw [List.all_eq_true]
  exact fun n hn => h n (List.mem_range.1 hn)
variable {A : Ar} (hA : A = real)
include hA
theorem refLess_c (ranks : List Int) (a b : Int) (hr : ranks.length ≤ 1000000) : PureCalls Try.prog 52 [intsP A ranks, IP a, IP b] (BP (hid A (lessM ranks a b))) := by
  have e1 : ∀ z : Int, ¬ z < 0 → ¬ (ranks.length : Int) ≤ z → rankM ranks z = ranks.getD z.toNat default := fun z h1 h2 => by rw [rankM, if_neg (by omega)]
  have e2 : ∀ z : Int, z < 0 ∨ (ranks.length : Int) ≤ z → rankM ranks z = 0 := fun z h => by rw [rankM, if_pos h]
  have e3 : (∀ z : Int, (z < 0 ∨ (ranks.length : Int) ≤ z) ∨ (0 ≤ z ∧ z < ranks.length)) := fun z => by omega
  refine PureCalls.of Try.func52 rfl (by kernel_rfl) rfl ?_
  try first | refine AOLg.of [] ?_ | refine QSg.of [] ?_
  repeat' (first | (refine AWp.pass ?_; first | refine AWp.seq ?_ | refine AWp.block ?_ | refine AWp.skip ?_ | refine AWp.regG [] Zc ?_ | refine AWp.cond_t rfl ?_ | refine AWp.cond_f rfl ?_ | (refine AWp.cond rfl ?_ ?_ <;> intro hc <;> (try rw [hc]) <;> ((try simp only [zn] at hc) <;> (try simp (disch := omega) only [zz hA, zb, zy, reduceCtorEq, Bool.false_eq_true, Int.reduceLT, Int.reduceLE, Int.reduceNeg] at hc) <;> (try simp only [zw] at hc)) <;> (try (exfalso; omega))) | refine AWp.exit ?_ | refine AWp.ret ⟨.inr rfl, _, RetOk.ev tabOk Zc, ?_⟩) | (refine AOLg.pass ?_; refine AOLg.nx hA tabOk Zc ?_; first | refine NX.done ?_ | refine NX.gt ?_ | refine NX.gf ?_ | (refine NX.gs ?_ ?_ <;> intro hc <;> rw [hc] <;> ((try simp only [zn] at hc) <;> (try simp (disch := omega) only [zz hA, zb, zy, reduceCtorEq, Bool.false_eq_true, Int.reduceLT, Int.reduceLE, Int.reduceNeg] at hc) <;> (try simp only [zw] at hc)) <;> (try (exfalso; omega))) | refine NX.k 1 (NX.one Z1 ?_) | refine NX.k 9 (NX.one Z9 ?_) | refine NX.k 10 (NX.one Z10 ?_) | refine NX.k 14 (NX.one Z14 ?_) | refine NX.raw ?_) | refine Thn.exit ?_ | refine Blk.here ?_ | refine Blk.other (by decide) ?_ | refine ⟨.inl rfl, _, RetOk.ev tabOk Zc, ?_⟩ | fail)
  all_goals
    refine rPV_then (by conv => lhs; cbv) ?_
    ((try simp only [zn]) <;> (try simp (disch := omega) only [zz hA, zb, zy, reduceCtorEq, Bool.false_eq_true, Int.reduceLT, Int.reduceLE, Int.reduceNeg, lessM]) <;> (try simp only [zw]))
    rcases e3 a with ha | ha <;> rcases e3 b with hb | hb
    all_goals first
      | (exfalso; omega)
      | skip
    all_goals first
      | rw [e2 a ha, e2 b hb]
      | rw [e2 a ha, e1 b (by omega) (by omega)]
      | rw [e1 a (by omega) (by omega), e2 b hb]
      | rw [e1 a (by omega) (by omega), e1 b (by omega) (by omega)]
    all_goals clear e1 e2 e3
    all_goals refine congrArg (fun b => PV.c (IC.lit (Value.bool b))) ?_
    all_goals rw [Bool.eq_iff_iff]
    all_goals simp only [hid_eq hA, Bool.or_eq_true, Bool.and_eq_true, decide_eq_true_eq]
    all_goals first | omega | (simp; done) | (simp; omega)
theorem refURight_c (c : Cl) (hc : c.small) (ranks : List Int) (hr : ranks.length ≤ 1000000) : PureCalls Try.prog 60 [clP A c.V c.N c.M, intsP A ranks] (BP (hid A (rightB c.V ranks && c.right))) := by
  have hrr : PureCalls Try.prog 91 [clP A c.V c.N c.M] (BP (hid A c.right)) := by rw [clP_eq hA c, hid_eq hA]; exact refRight hA c hc
  have hv := hc.v
  refine PureCalls.of Try.func60 rfl (by kernel_rfl) rfl ?_
  try first | refine AOLg.of [] ?_ | refine QSg.of [] ?_
  repeat' (first | (refine AWp.pass ?_; first | refine AWp.seq ?_ | refine AWp.block ?_ | refine AWp.skip ?_ | refine AWp.regG [] Zc ?_ | refine AWp.cond_t rfl ?_ | refine AWp.cond_f rfl ?_ | (refine AWp.cond rfl ?_ ?_ <;> intro hc <;> (try rw [hc]) <;> ((try simp only [zn] at hc) <;> (try simp (disch := omega) only [zz hA, zb, zy, reduceCtorEq, Bool.false_eq_true, Int.reduceLT, Int.reduceLE, Int.reduceNeg] at hc) <;> (try simp only [zw] at hc)) <;> (try (exfalso; omega))) | refine AWp.exit ?_ | refine AWp.ret ⟨.inr rfl, _, RetOk.ev tabOk Zc, ?_⟩) | (refine AOLg.pass ?_; refine AOLg.nx hA tabOk Zc ?_; first | refine NX.done ?_ | refine NX.gt ?_ | refine NX.gf ?_ | (refine NX.gs ?_ ?_ <;> intro hc <;> rw [hc] <;> ((try simp only [zn] at hc) <;> (try simp (disch := omega) only [zz hA, zb, zy, reduceCtorEq, Bool.false_eq_true, Int.reduceLT, Int.reduceLE, Int.reduceNeg] at hc) <;> (try simp only [zw] at hc)) <;> (try (exfalso; omega))) | refine NX.k 1 (NX.one Z1 ?_) | refine NX.k 7 (NX.one Z7 ?_) | refine NX.k 8 (NX.one Z8 ?_) | refine NX.k 10 (NX.one Z10 ?_) | refine NX.k 14 (NX.one Z14 ?_) | refine NX.k 18 (NX.one Z18 ?_) | refine NX.raw ?_) | refine Thn.exit ?_ | refine Blk.here ?_ | refine Blk.other (by decide) ?_ | refine ⟨.inl rfl, _, RetOk.ev tabOk Zc, ?_⟩ | fail)
  refine AWp.loopU (fun k : Nat => [(5, .ic (.lit (.int .i64 (hid A (cN k)))))]) (fun _ => [.var true 29 [.ic (.sl 1 false (hid A (List.map encI c.V))), .ic (.sl 2 false (hid A (List.map encN c.N))), .ic (.sl 1 false (hid A (List.map encI c.M)))]]) (fun k => c.V.length - k) (fun k => k ≤ c.V.length ∧ ∀ n, n < k → okU c.V ranks n = true) 0 (by conv => lhs; cbv) ⟨Nat.zero_le _, by simp⟩ (by (repeat' (first | exact subE.nil | refine subE.cons rfl ?_ | refine subE.int rfl ?_ ?_ | refine subE.bool rfl ?_ ?_ | refine subE.str rfl ?_ ?_ | refine subE.sl rfl ?_ ?_)) <;> simp [hA, real, hid, cN]) rfl ?_
  rintro k ⟨hk, hok⟩
  try first | refine AOLg.of [] ?_ | refine QSg.of [] ?_
  repeat' (first | (refine AWp.pass ?_; first | refine AWp.seq ?_ | refine AWp.block ?_ | refine AWp.skip ?_ | refine AWp.regG [] Zc ?_ | refine AWp.cond_t rfl ?_ | refine AWp.cond_f rfl ?_ | (refine AWp.cond rfl ?_ ?_ <;> intro hc <;> (try rw [hc]) <;> ((try simp only [zn] at hc) <;> (try simp (disch := omega) only [zz hA, zb, zy, reduceCtorEq, Bool.false_eq_true, Int.reduceLT, Int.reduceLE, Int.reduceNeg] at hc) <;> (try simp only [zw] at hc)) <;> (try (exfalso; omega))) | refine AWp.exit ?_ | refine AWp.ret ⟨.inr rfl, _, RetOk.ev tabOk Zc, ?_⟩) | (refine AOLg.pass ?_; refine AOLg.nx hA tabOk Zc ?_; first | refine NX.done ?_ | refine NX.gt ?_ | refine NX.gf ?_ | (refine NX.gs ?_ ?_ <;> intro hc <;> rw [hc] <;> ((try simp only [zn] at hc) <;> (try simp (disch := omega) only [zz hA, zb, zy, reduceCtorEq, Bool.false_eq_true, Int.reduceLT, Int.reduceLE, Int.reduceNeg] at hc) <;> (try simp only [zw] at hc)) <;> (try (exfalso; omega))) | (refine NX.kC ?_; first | (with_reducible refine NX.call (refLess_c hA ranks _ _ hr) ?_) | (with_reducible refine NX.call (hrr) ?_) | ((first | refine NX.call (refLess_c hA ranks _ _ hr) ?_ | refine NX.call (hrr) ?_)) | fail) | (refine NX.kO ?_; (first | refine NX.callO (refLess_c hA ranks _ _ hr) (by simp [allEq]) rfl ?_ | refine NX.callO (hrr) (by simp [allEq]) rfl ?_)) | refine NX.k 1 (NX.one Z1 ?_) | refine NX.k 7 (NX.one Z7 ?_) | refine NX.k 8 (NX.one Z8 ?_) | refine NX.k 10 (NX.one Z10 ?_) | refine NX.k 14 (NX.one Z14 ?_) | refine NX.k 18 (NX.one Z18 ?_) | refine NX.raw ?_) | refine Thn.exit ?_ | refine Blk.here ?_ | refine Blk.other (by decide) ?_ | refine ⟨.inl rfl, _, RetOk.ev tabOk Zc, ?_⟩ | fail)
  · refine ⟨k + 1, ?_, ?_, rfl, rfl, ?_, Zk⟩ <;> (try omega)
    repeat' (first | exact subE.nil | refine subE.cons rfl ?_ | refine subE.int rfl ?_ ?_ | refine subE.bool rfl ?_ ?_ | refine subE.str rfl ?_ ?_ | refine subE.sl rfl ?_ ?_)
    · refine ⟨by omega, fun n hn => ?_⟩
      rcases Nat.lt_or_ge n k with h | h
      · exact hok n h
      · obtain rfl : n = k := by omega
        simp [okU]
        left
        assumption
    · exact Zd
  · rw [rightB_false (n := k) (by omega) (by rw [okU, decide_eq_false (by assumption), decide_eq_false (by omega)]; rfl)]
    refine rPV_then (by conv => lhs; cbv) ?_
    simp [hA, real, hid]
  · rw [rightB_false (n := k) (by omega) (by rw [okU, decide_eq_false (by assumption), decide_eq_false (p := c.V.getD k default < c.V.length) (by omega)]; simp)]
    refine rPV_then (by conv => lhs; cbv) ?_
    simp [hA, real, hid]
  · rename_i h1 h2 h3 h4
    rw [rightB_false (n := k) (by omega) (by rw [okU, decide_eq_false h2, hc]; simp)]
    refine rPV_then (by conv => lhs; cbv) ?_
    simp [hA, real, hid]
  · rename_i h1 h2 h3 h4
    refine ⟨k + 1, ?_, ?_, rfl, rfl, ?_, Zk⟩ <;> (try omega)
    repeat' (first | exact subE.nil | refine subE.cons rfl ?_ | refine subE.int rfl ?_ ?_ | refine subE.bool rfl ?_ ?_ | refine subE.str rfl ?_ ?_ | refine subE.sl rfl ?_ ?_)
    · refine ⟨by omega, fun n hn => ?_⟩
      rcases Nat.lt_or_ge n k with h | h
      · exact hok n h
      · obtain rfl : n = k := by omega
        rw [okU, decide_eq_true (p := 0 ≤ c.V.getD n default) (by omega), decide_eq_true (p := c.V.getD n default < c.V.length) (by omega)]
        simp
        exact .inr (by assumption)
    · exact Zd
  · rw [rightB_all fun n hn => hok n (by omega)]
    refine rPV_then (by conv => lhs; cbv) ?_
    simp [hA, real, hid]
end Go.Proofs.Ytkkjlmcnfoncdaa.Aw

namespace Go.Proofs.Ytkkjlmcnfoncdaa.Aw
open Go Go.RowKit
set_option maxRecDepth 10000
attribute [local irreducible] AWp AOL QS One AOLg QSg NX QX TRg TX AllO Fin3
variable {A : Ar} (hA : A = real)
include hA
end Go.Proofs.Ytkkjlmcnfoncdaa.Aw

namespace Go.Proofs.Ytkkjlmcnfoncdaa.Aw
open Go Go.RowKit
theorem getD_setU (V : List Int) (r : Nat) (p : Int) (hr : r < V.length) (n : Nat) : (V.set r p).getD n default = if n = r then p else V.getD n default := by
  simp only [List.getD_eq_getElem?_getD, List.getElem?_set]
  by_cases h : n = r
  · subst h; simp [hr]
  · simp [h, Ne.symm h]
section
variable {V ranks : List Int} (hR : RightU V ranks) {p r : Int} (p0 : 0 ≤ p) (p1 : p < V.length) (r0 : 0 ≤ r) (r1 : r < V.length) (hp : V.getD p.toNat default = p) (hr : V.getD r.toNat default = r) (hl : lessM ranks p r = true)
include hR p0 p1 r0 r1 hl
theorem set_right : RightU (V.set r.toNat p) ranks := by
  constructor
  intro n hn
  rw [List.length_set] at hn ⊢
  rw [getD_setU _ _ _ (by omega)]
  by_cases h : n = r.toNat
  · rw [if_pos h]
    refine .inr ⟨p0, p1, ?_⟩
    rw [h, show ((r.toNat : Nat) : Int) = r by omega]; exact hl
  · rw [if_neg h]; exact hR.ok n hn
include hp hr
theorem set_find (m : Nat) {n : Int} (h0 : 0 ≤ n) (h1 : n < V.length) (hm : muU V ranks n ≤ m) : findU (V.set r.toNat p) n = if findU V n = r then p else findU V n := by
  have hR' := set_right hR p0 p1 r0 r1 hl
  have hpr : p ≠ r := by rintro rfl; rw [less_irr] at hl; cases hl
  have root : ∀ {k : Int}, V.getD k.toNat default = k → findU V k = k := fun h => iterF_root h _
  have root' : ∀ {k : Int}, (V.set r.toNat p).getD k.toNat default = k → findU (V.set r.toNat p) k = k := fun h => iterF_root h _
  have gp : (V.set r.toNat p).getD p.toNat default = p := by rw [getD_setU _ _ _ (by omega), if_neg (by omega), hp]
  induction m generalizing n with
  | zero =>
    rcases hR.ok n.toNat (by omega) with h | ⟨a, b, c⟩
    · have h' : V.getD n.toNat default = n := by rw [h]; omega
      rw [root h']
      by_cases e : n = r
      · subst e
        rw [if_pos rfl, ← find_step hR' h0 (by simpa using h1), getD_setU _ _ _ (by omega), if_pos rfl]
        exact root' gp
      · rw [if_neg e]
        refine root' ?_
        rw [getD_setU _ _ _ (by omega), if_neg (by omega), h']
    · rw [show ((n.toNat : Nat) : Int) = n by omega] at c
      have := muU_lt a b c
      omega
  | succ m ih =>
    rcases hR.ok n.toNat (by omega) with h | ⟨a, b, c⟩
    · have h' : V.getD n.toNat default = n := by rw [h]; omega
      rw [root h']
      by_cases e : n = r
      · subst e
        rw [if_pos rfl, ← find_step hR' h0 (by simpa using h1), getD_setU _ _ _ (by omega), if_pos rfl]
        exact root' gp
      · rw [if_neg e]
        refine root' ?_
        rw [getD_setU _ _ _ (by omega), if_neg (by omega), h']
    · rw [show ((n.toNat : Nat) : Int) = n by omega] at c
      have hmu := muU_lt a b c
      have e : n ≠ r := by
        rintro rfl
        rw [hr, less_irr] at c; cases c
      rw [← find_step hR' h0 (by simpa using h1), getD_setU _ _ _ (by omega), if_neg (by omega), ← find_step hR h0 h1]
      exact ih a b (by omega)
end
section
variable {V ranks : List Int} (hR : RightU V ranks) {a b : Int} (a0 : 0 ≤ a) (a1 : a < V.length) (b0 : 0 ≤ b) (b1 : b < V.length)
include hR a0 a1 b0 b1
theorem joinP_ok (h : findU V a ≠ findU V b) : lessM ranks (joinP V ranks a b).1 (joinP V ranks a b).2 = true ∧ ((joinP V ranks a b).1 = findU V a ∧ (joinP V ranks a b).2 = findU V b ∨ (joinP V ranks a b).1 = findU V b ∧ (joinP V ranks a b).2 = findU V a) := by
  unfold joinP
  cases hc : lessM ranks (findU V b) (findU V a) with
  | true => exact ⟨hc, .inr ⟨rfl, rfl⟩⟩
  | false =>
    rcases less_tri ranks h with k | k
    · exact ⟨k, .inl ⟨rfl, rfl⟩⟩
    · rw [hc] at k; cases k
theorem joinV_right : RightU (joinV V ranks a b) ranks := by
  unfold joinV
  split
  · exact hR
  · next h =>
    have ha := find_range hR a0 a1
    have hb := find_range hR b0 b1
    rcases joinP_ok hR a0 a1 b0 b1 h with ⟨hl, ⟨e, e'⟩ | ⟨e, e'⟩⟩ <;> rw [e, e'] at hl ⊢
    · exact set_right hR ha.1 ha.2 hb.1 hb.2 hl
    · exact set_right hR hb.1 hb.2 ha.1 ha.2 hl
theorem joinV_find {n : Int} (n0 : 0 ≤ n) (n1 : n < V.length) : findU (joinV V ranks a b) n = if findU V n = findU V a ∨ findU V n = findU V b then (joinP V ranks a b).1 else findU V n := by
  have ha := find_range hR a0 a1
  have hb := find_range hR b0 b1
  unfold joinV
  split
  · next h =>
    have : (joinP V ranks a b).1 = findU V a := by
      unfold joinP; split <;> simp [h]
    rw [this, ← h]
    split
    · next k => rcases k with k | k <;> exact k
    · rfl
  · next h =>
    rcases joinP_ok hR a0 a1 b0 b1 h with ⟨hl, ⟨e, e'⟩ | ⟨e, e'⟩⟩ <;> rw [e, e'] at hl ⊢
    · rw [set_find hR ha.1 ha.2 hb.1 hb.2 (find_fix hR a0 a1) (find_fix hR b0 b1) hl _ n0 n1 (Nat.le_refl _)]
      by_cases k : findU V n = findU V b
      · simp [k]
      · by_cases k' : findU V n = findU V a <;> simp [k, k']
    · rw [set_find hR hb.1 hb.2 ha.1 ha.2 (find_fix hR b0 b1) (find_fix hR a0 a1) hl _ n0 n1 (Nat.le_refl _)]
      by_cases k : findU V n = findU V a
      · simp [k]
      · by_cases k' : findU V n = findU V b <;> simp [k, k']
end
theorem joinV_len (V ranks : List Int) (a b : Int) : (joinV V ranks a b).length = V.length := by
  unfold joinV; split <;> simp
end Go.Proofs.Ytkkjlmcnfoncdaa.Aw

namespace Go.Proofs.Ytkkjlmcnfoncdaa.Aw
open Go Go.RowKit
set_option maxRecDepth 10000
attribute [local irreducible] AWp AOL QS One AOLg QSg NX QX TRg TX AllO Fin3
theorem undoAppU (l1 l2 : List (Int × Int)) (v : List Int) : undoAll (l1 ++ l2) v = (undoAll l2 v).bind (undoAll l1) := by
  induction l1 generalizing l2 v with
  | nil => simp [undoAll]
  | cons n r ih => simp only [List.cons_append, undoAll, ih]; cases undoAll l2 v <;> simp
theorem mOkUpU {n n' p : Int} {r : List Int} (h : mOk n p r = true) (hn : n ≤ n') : mOk n' p r = true := by
  induction r generalizing p with
  | nil => rfl
  | cons m r ih =>
    simp only [mOk, Bool.and_eq_true, decide_eq_true_eq] at h ⊢
    exact ⟨⟨h.1.1, by omega⟩, ih h.2⟩
theorem set_undo {V : List Int} {p r : Int} (r0 : 0 ≤ r) (r1 : r < V.length) (hr : V.getD r.toNat default = r) : undo1 (r, r) (V.set r.toNat p) = some V := by
  unfold undo1
  rw [if_neg (by simp only; omega), if_pos (by simp only [List.length_set]; omega)]
  simp only [List.set_set, Option.some.injEq]
  refine List.ext_getElem? fun i => ?_
  rw [List.getElem?_set]
  split
  · next h =>
    subst h
    rw [if_pos (by omega)]
    rw [List.getD_eq_getElem?_getD, List.getElem?_eq_getElem (by omega)] at hr
    rw [List.getElem?_eq_getElem (by omega)]
    simp at hr
    simp [hr]
  · rfl
theorem join_right (c : Cl) {ranks : List Int} (hR : RightU c.V ranks) {a b : Int} (a0 : 0 ≤ a) (a1 : a < c.V.length) (b0 : 0 ≤ b) (b1 : b < c.V.length) (h : c.right = true) : (⟨joinV c.V ranks a b, joinN c.V ranks c.N a b, c.M⟩ : Cl).right = true := by
  unfold Cl.right at h ⊢
  unfold joinV joinN
  rw [Bool.and_eq_true] at h
  split
  · rw [Bool.and_eq_true]; exact h
  · next k =>
    have ha := find_range hR a0 a1
    have hb := find_range hR b0 b1
    rw [Bool.and_eq_true]
    refine ⟨mOkUpU h.1 (by simp only [List.length_append, List.length_cons, List.length_nil]; omega), ?_⟩
    simp only
    rw [undoAppU, undoAll, undoAll, Option.bind_some]
    rcases joinP_ok hR a0 a1 b0 b1 k with ⟨_, ⟨e, e'⟩ | ⟨e, e'⟩⟩ <;> rw [e, e']
    · rw [set_undo hb.1 hb.2 (find_fix hR b0 b1)]; exact h.2
    · rw [set_undo ha.1 ha.2 (find_fix hR a0 a1)]; exact h.2
theorem joinN_len (V ranks : List Int) (N : List (Int × Int)) (a b : Int) : (joinN V ranks N a b).length ≤ N.length + 1 := by
  unfold joinN; split <;> simp
variable {A : Ar} (hA : A = real)
include hA
theorem uInts_c (a b : List Int) (ha : a.length ≤ 1000000) (hb : b.length ≤ 1000000) : PureCalls Try.prog 17 [intsP A a, intsP A b] (BP (hid A (decide (a = b)))) := by
  have := refInts hA a b ha hb
  simp only [intsP, slP, hid_eq hA]
  exact this
end Go.Proofs.Ytkkjlmcnfoncdaa.Aw

namespace Go.Proofs.Ytkkjlmcnfoncdaa.Aw
open Go Go.RowKit
set_option maxRecDepth 10000
def keyV (v : Int) : List Int := [2, v, 0]
def atV (K : List (List Int)) (v : Int) : Int := atM K (keyV v)
def numM (K : List (List Int)) (n : Nat) (id : Int) : Int :=
  if (0 ≤ id ∧ id < K.length) ∧ (K.getD id.toNat default).getD 0 default = 2 ∧ (K.getD id.toNat default).getD 1 default < n then (K.getD id.toNat default).getD 1 default else -1
def repM (K : List (List Int)) (V : List Int) (id : Int) : Int := if numM K V.length id < 0 then id else atV K (findU V (numM K V.length id))
structure OkK (K : List (List Int)) : Prop where
  nodup : K.Nodup
  long : ∀ i : Nat, i < K.length → 3 ≤ (K.getD i default).length
  sym : ∀ i : Nat, i < K.length → (K.getD i default).getD 0 default = 2 → 0 ≤ (K.getD i default).getD 1 default
theorem okK {l : List Sg} {K : List (List Int)} {S : List Int} (h : rightT l K S = true) : OkK K ∧ S = layM K ∧ 2 ≤ K.length := by
  unfold rightT at h
  simp only [Bool.and_eq_true, decide_eq_true_eq] at h
  obtain ⟨⟨⟨h1, h2⟩, h3⟩, h4⟩ := h
  have hk : ∀ i : Nat, i < K.length → keyOk l i (K.getD i default) = true := fun i hi => allB_get h4 hi
  refine ⟨⟨h1, fun i hi => ?_, fun i hi h2 => ?_⟩, h2, h3⟩
  · have := hk i hi
    unfold keyOk at this
    simp only [Bool.and_eq_true, decide_eq_true_eq] at this
    exact this.1.1
  · have := hk i hi
    unfold keyOk at this
    simp only [Bool.and_eq_true, decide_eq_true_eq, mayM_iff] at this
    have := this.1.2.1
    unfold shapeP at this
    omega
theorem num_cases (K : List (List Int)) (n : Nat) (id : Int) (hK : OkK K) : numM K n id = -1 ∨ (0 ≤ numM K n id ∧ numM K n id < n) := by
  unfold numM
  split
  · rename_i h
    have := hK.sym id.toNat (by omega) h.2.1
    exact .inr ⟨this, h.2.2⟩
  · exact .inl rfl
def allV (K : List (List Int)) (n : Nat) : Bool := allB n fun v => decide (0 ≤ atV K (v : Int))
section
variable {K : List (List Int)} {V R : List Int} (hK : OkK K) (hR : RightU V R) (hA : allV K V.length = true)
include hK hR hA
end
end Go.Proofs.Ytkkjlmcnfoncdaa.Aw

namespace Go.Proofs.Ytkkjlmcnfoncdaa.Aw
open Go Go.RowKit
theorem does_buildArr {P : Program} {s : St} (t e m : Nat) (parts : Array (Nat × Operand)) (z : List Value) (out : List AV) (ht : (tyi P t).there = true) (hk : (tyi P t).k = .array m e) (hz : (tyi P t).zero = some z) (hz1 : z.all (·.oneCell') = true)
    (hf : fillA (fun i => some (i * (tyi P e).size, (tyi P e).size)) (z.map nilc) (parts.toList.map fun q => (q.1, s.ev q.2)) = some out) :
    Does P s (fun ρ => do pure (.value (← Instr.build t (parts.map fun (i, x) => (i, ρ x))))) (.agg out) s.st :=
  .pure fun G g w a hrel => by
    obtain ⟨zv, hzr, rfl⟩ := run_zero hz w
    obtain ⟨d, hd, hrun⟩ := run_und (there_0 ht) w
    have hu := tk_array hk
    obtain rfl : d = .array m e := by rw [hd] at hu; simpa using hu
    have hss := run_size (P := P) (there_elemA ht hu) w
    have hse : (tyi P e).size = P.cellsOf e := rfl
    rw [hse] at hf
    obtain ⟨cs', r1, r2, r3, r4, r5⟩ := fill_rel (G := G) (s := s.st) (g := g) (w := w) _ ((parts.map fun q => (q.1, a.eval q.2)).toList) _ out zv.cells (by simp) (parts_rel hrel parts) (by simp) (fun u hu => by
      rw [List.all_eq_true] at hz1
      exact hz1 u (by simpa using hu)) (zero_rel zv.cells) hf
    refine ⟨.agg cs', ?_, .agg _ _ r2 r5 r4⟩
    have e' : (parts.map fun (x : Nat × Operand) => match x with | (i, x) => (i, a.eval x)) = parts.map fun q => (q.1, a.eval q.2) := rfl
    simp only [Instr.build, e', Sem.run_bind, hzr, Result.andThen_ok, hrun, hss, r1, Sem.run_pure]
theorem indexAt_run {P : Program} {t e m : Nat} (ht : (tyi P t).there = true) (hk : (tyi P t).k = .array m e) (k : IntKind) (n : Int) (h0 : 0 ≤ n) (h1 : n < (m : Int)) (b o : Nat) (w : World) :
    (Instr.indexAt t (.pointer (some ⟨b, o, none⟩)) (.int k n)).run P w = .ok (.pointer (some ⟨b, o + n.toNat * (tyi P e).size, none⟩)) w := by
  have hu := tk_array hk
  have hsz := run_size (there_elemA ht hu) w
  have hse : (tyi P e).size = P.cellsOf e := rfl
  rw [hse]
  simp [Instr.indexAt, asIntOf, run_underlying hu, Instr.sureAddr, h0, h1, hsz, add_block]
theorem does_indexPtr {P : Program} {s : St} (t e m : Nat) (x y : Operand) (i o : Nat) (mo : Bool) (t' : TypeId) (cs : List AV) (k : IntKind) (n : Int) (ht : (tyi P t).there = true) (hk : (tyi P t).k = .array m e) (hx : s.ev x = .ptr i o) (hs : s.st[i]? = some (.var mo t' cs)) (hy : s.ev y = .ic (.lit (.int k n))) (h0 : 0 ≤ n) (h1 : n < (m : Int)) :
    Does P s (fun ρ => do pure (.value (← Instr.indexAt t (ρ x) (ρ y)))) (.ptr i (o + n.toNat * (tyi P e).size)) s.st :=
  .pure fun G g w a hr => by
    have h := hr.ev x
    rw [hx] at h
    obtain ⟨b, vs, e1, e2, _⟩ := h.ptr_inv hs hr.sr
    have h2 := hr.ev y
    rw [hy] at h2
    have e3 := h2.lit_inv
    refine ⟨.pointer (some ⟨b, o + n.toNat * (tyi P e).size, none⟩), ?_, .ptr _ _ _ ?_ (fun m' t'' cs' _ => ⟨b, e2, rfl⟩) rfl⟩
    · simp [e1, e3, indexAt_run ht hk k n h0 h1]
    · exact (List.getElem?_eq_some_iff.1 hs).1
section one
variable {r : Option Nat} {P : Program} {ops : Array Oper} {i : Nat} {s : St} {tab : List TI} {A : Ar}
def arrT (tab : List TI) (t : TypeId) : Option (Nat × TypeId × TI) := match tab[t]? with
  | some q => match q.k with
    | .array m e => match tab[e]? with
      | some j => bif q.there then some (m, e, j) else none
      | none => none
    | _ => none
  | none => none
theorem arrT_ok (hT : TabOk P tab) {t m e : Nat} {j : TI} (h : arrT tab t = some (m, e, j)) : (tyi P t).there = true ∧ (tyi P t).k = .array m e ∧ j = tyi P e := by
  unfold arrT at h
  split at h
  · rename_i q hq
    split at h
    · rename_i m' e' hk
      split at h
      · rename_i j' hj
        cases hth : q.there with
        | false => rw [hth] at h; cases h
        | true =>
          rw [hth] at h
          simp only [cond_true, Option.some.injEq, Prod.mk.injEq] at h
          obtain ⟨rfl, rfl, rfl⟩ := h
          rw [← hT t q hq]
          exact ⟨hth, hk, hT _ _ hj⟩
      · cases h
    · cases h
  · cases h
theorem One.buildArr (hT : TabOk P tab) {t m e : Nat} {j q : TI} {parts : Array (Nat × Operand)} {z : List Value} {out : List AV} (h : opAt ops i s = some (.build t parts)) (ha : arrT tab t = some (m, e, j)) (hq : tiAt tab t = some q) (hz : q.zero = some z) (hz1 : z.all (·.oneCell') = true)
    (hf : fillA (fun i => some (i * j.size, j.size)) (z.map nilc) (parts.toList.map fun q => (q.1, s.ev q.2)) = some out) : One r P ops i s (.agg out) s.st := by
  obtain ⟨h1, h2, rfl⟩ := arrT_ok hT ha
  obtain ⟨rfl, h3⟩ := tiAt_ok hT hq
  exact .does h rfl fun o hop => (does_buildArr t e m parts z out h1 h2 hz hz1 hf).congr fun ρ => by simp only [execOp, hop]
theorem One.indexPtr (hT : TabOk P tab) {t m e : Nat} {j : TI} {x y : Operand} {b o : Nat} {mo : Bool} {t' : TypeId} {cs : List AV} {k : IntKind} {n : Int} (h : opAt ops i s = some (.indexAddr t x y)) (ha : arrT tab t = some (m, e, j)) (hx : s.ev x = .ptr b o) (hs : s.st[b]? = some (.var mo t' cs)) (hy : s.ev y = .ic (.lit (.int k n))) (h0 : 0 ≤ n) (h1 : n < (m : Int)) : One r P ops i s (.ptr b (o + n.toNat * j.size)) s.st := by
  obtain ⟨h2, h3, rfl⟩ := arrT_ok hT ha
  exact .does h rfl fun q hop => (does_indexPtr t e m x y b o mo t' cs k n h2 h3 hx hs hy h0 h1).congr fun ρ => by simp only [execOp, hop]
end one
inductive ILr : List (List IC) → List (List IC) → Prop
  | nil : ILr [] []
  | cons {x y : List IC} {r r' : List (List IC)} (h : ILes x y) (k : ILr r r') : ILr (x :: r) (y :: r')
theorem ILr.get {xs ys : List (List IC)} (h : ILr xs ys) : xs.length = ys.length ∧ ∀ (k : Nat) (y : List IC), ys[k]? = some y → ∃ x, xs[k]? = some x ∧ ILes x y := by
  induction h with
  | nil => simp
  | cons h k ih =>
    refine ⟨by simp [ih.1], fun j y hj => ?_⟩
    cases j with
    | zero => simp at hj; subst hj; exact ⟨_, rfl, h⟩
    | succ j => simpa using ih.2 j y (by simpa using hj)
theorem IR.rows {w : World} {ok : Nat → Prop} {sz : Nat} {ex : Bool} {xs ys : List (List IC)} {v : Value} (h : IR w ok (.sl sz ex xs) v) (k : ILr xs ys) : IR w ok (.sl sz ex ys) v := by
  obtain ⟨hl, hg⟩ := k.get
  cases h with
  | nil _ _ A c hx hc =>
    cases k
    exact .nil _ _ _ _ hx hc
  | sl _ _ _ b o c val hb hlc hc hx hok hsz hcell hin =>
    rw [hl]
    refine .sl _ _ _ b o c val hb (by omega) hc (by rw [← hl]; exact hx) hok (fun j r hj => ?_) (fun j r i y hj hi => ?_) (fun j r i y hj hi => ?_)
    · obtain ⟨x, h1, h2⟩ := hg j r hj
      rw [← h2.get.1]; exact hsz j x h1
    · obtain ⟨x, h1, h2⟩ := hg j r hj
      obtain ⟨u, h3, h4⟩ := h2.get.2 i y hi
      exact hcell j x i u h1 h3
    · obtain ⟨x, h1, h2⟩ := hg j r hj
      obtain ⟨u, h3, h4⟩ := h2.get.2 i y hi
      exact (hin j x i u h1 h3).le h4
theorem One.weak {r : Option Nat} {P : Program} {ops : Array Oper} {i : Nat} {s : St} {sz : Nat} {ex : Bool} {xs ys : List (List IC)} {st : List AObj} (h : One r P ops i s (.ic (.sl sz ex xs)) st) (k : ILr xs ys) : One r P ops i s (.ic (.sl sz ex ys)) st := by
  intro rest Q hq
  refine h rest Q ?_
  generalize dstOf ops i = d at hq
  cases d with
  | none => exact hq
  | some d =>
    intro G g w a QQ hr kk
    refine hq G g w a QQ ⟨fun t => ?_, hr.size, hr.sr⟩ kk
    have ht := hr.slots t
    simp only [putS, St.get, look] at ht ⊢
    cases hb : Nat.beq d t with
    | true =>
      simp only [hb, cond_true] at ht ⊢
      exact .ic _ _ (ht.ic_inv.rows k)
    | false =>
      simp only [hb, cond_false] at ht ⊢
      exact ht
end Go.Proofs.Ytkkjlmcnfoncdaa.Aw

namespace Go.Proofs.Ytkkjlmcnfoncdaa.Aw.W
open Go Go.RowKit
inductive Ah (ops : Array Oper) : Nat → Nat → Prop where
  | on {i : Nat} {o : Oper} {e : Edge} (ho : ops[i]? = some o) (he : e ∈ o.after) (hb : bindsE e = true) : Ah ops i e.on
  | tr {i : Nat} {o : Oper} {e : Edge} {j : Nat} (ho : ops[i]? = some o) (he : e ∈ o.after) (hb : bindsE e = true) (h : Ah ops e.on j) : Ah ops i j
theorem Ah.listed {ops : Array Oper} {listed : Array Bool} (hc : Closed ops listed) {i j : Nat} (h : Ah ops i j) : (∀ o, ops[i]? = some o → ∀ e ∈ o.after, bindsE e = true → listed.getD e.on false = true) → listed.getD j false = true := by
  induction h with
  | on ho he hb => intro k; exact k _ ho _ he hb
  | tr ho he hb h ih => intro k; exact ih fun o' ho' e' he' hb' => hc _ o' (k _ ho _ he hb) ho' e' he' hb'
theorem Ah.of_listed {ops : Array Oper} {listed : Array Bool} (hc : Closed ops listed) {i j : Nat} (h : Ah ops i j) (hi : listed.getD i false = true) : listed.getD j false = true := h.listed hc fun o ho e he hb => hc i o hi ho e he hb
def maskOf (acc : List Nat) : List Edge → Nat
  | [] => 0
  | e :: r => match bindsE e with
    | true => (2 ^ e.on ||| acc.getD e.on 0) ||| maskOf acc r
    | false => maskOf acc r
def masks : List Oper → List Nat → List Nat
  | [], acc => acc
  | o :: r, acc => masks r (acc ++ [maskOf acc o.after.toList])
theorem maskOf_ok {acc : List Nat} {j : Nat} : ∀ {l : List Edge}, (maskOf acc l).testBit j = true → ∃ e ∈ l, bindsE e = true ∧ (e.on = j ∨ (acc.getD e.on 0).testBit j = true)
  | [], h => by simp [maskOf] at h
  | e :: r, h => by
    simp only [maskOf] at h
    split at h
    · rename_i hb
      simp only [Nat.testBit_or, Bool.or_eq_true] at h
      rcases h with (h | h) | h
      · refine ⟨e, List.mem_cons_self, hb, .inl ?_⟩
        rw [Nat.testBit_two_pow] at h
        simpa using h
      · exact ⟨e, List.mem_cons_self, hb, .inr h⟩
      · obtain ⟨e', h1, h2, h3⟩ := maskOf_ok h
        exact ⟨e', List.mem_cons_of_mem _ h1, h2, h3⟩
    · obtain ⟨e', h1, h2, h3⟩ := maskOf_ok h
      exact ⟨e', List.mem_cons_of_mem _ h1, h2, h3⟩
theorem masks_ok {ops : Array Oper} : ∀ (l : List Oper) (acc : List Nat), (∀ k o, l[k]? = some o → ops[acc.length + k]? = some o) → (∀ i j, (acc.getD i 0).testBit j = true → Ah ops i j) → ∀ i j, ((masks l acc).getD i 0).testBit j = true → Ah ops i j
  | [], acc, _, h => h
  | o :: r, acc, hl, h => by
    refine masks_ok r _ (fun k o' hk => ?_) fun i j hij => ?_
    · have := hl (k + 1) o' (by simpa using hk)
      rw [List.length_append, List.length_cons, List.length_nil]
      rw [← this]; congr 1; omega
    · rcases Nat.lt_trichotomy i acc.length with hi | hi | hi
      · rw [List.getD_eq_getElem?_getD, List.getElem?_append_left hi, ← List.getD_eq_getElem?_getD] at hij
        exact h i j hij
      · subst hi
        rw [List.getD_eq_getElem?_getD, List.getElem?_append_right (Nat.le_refl _)] at hij
        simp only [Nat.sub_self, List.getElem?_cons_zero, Option.getD_some] at hij
        obtain ⟨e, he, hb, hj⟩ := maskOf_ok hij
        have ho := hl 0 o rfl
        rw [Nat.add_zero] at ho
        rcases hj with hj | hj
        · subst hj; exact .on ho (by simpa using he) hb
        · exact .tr ho (by simpa using he) hb (h _ _ hj)
      · rw [List.getD_eq_getElem?_getD, List.getElem?_eq_none (by simp; omega)] at hij
        simp at hij
def chOp : Op → Bool
  | .alloc _ => true
  | .box _ _ => true
  | .store _ _ _ => true
  | .makeSlice _ _ _ => true
  | .buildSlice _ 0 _ => true
  | .call c => match c.callee with
    | .value _ => true
    | .builtin .append => true
    | _ => false
  | _ => false
def chAt (ops : Array Oper) (i : Nat) : Bool := match ops[i]? with
  | some o => chOp o.op
  | none => false
def chs (ops : Array Oper) : List Nat := (List.range ops.size).filter (chAt ops)
def ahM (ms : List Nat) (i j : Nat) : Bool := (ms.getD i 0).testBit j
def drawVB (ops : Array Oper) : Bool :=
  let ms := masks ops.toList []
  let cs := chs ops
  ops.toList.all (fun o => notDefer o.op) &&
  (List.range ops.size).all (fun i => match ops[i]? with
    | some o => o.after.toList.all (fun e => !bindsE e || Nat.blt e.on i) &&
      (match o.dst with | some d => (List.range ops.size).all (fun j => Nat.beq i j || !(dstOf ops j == some d)) | none => chOp o.op) &&
      (o.looksAt ops).all (fun t => (List.range ops.size).all (fun j => !(dstOf ops j == some t) || (Nat.blt j i && ahM ms i j) || (Nat.blt i j && ahM ms j i)))
    | none => false) &&
  cs.all (fun c => cs.all (fun d => !Nat.blt d c || ahM ms c d))
structure TRec where
  i : Nat
  s : St
  x : AV
  st : List AObj
def TR (r : Option Nat) (P : Program) (ops : Array Oper) : List Nat → St → List TRec → (St → List TRec → Prop) → Prop
  | [], s, rc, Q => Q s rc
  | i :: rest, s, rc, Q => ∃ x st', One r P ops i (lookS ops i s) x st' ∧ TR r P ops rest (putS s (dstOf ops i) x st') (rc ++ [⟨i, s, x, st'⟩]) Q
def vers (ops : Array Oper) (s0 : List AObj) : List TRec → List (List AObj)
  | [] => [s0]
  | t :: r => match chAt ops t.i with
    | true => s0 :: vers ops t.st r
    | false => vers ops s0 r
def okV (ms cs : List Nat) (i m : Nat) : Bool := (List.range cs.length).all fun j => match cs[j]? with
  | some c => (!ahM ms i c || Nat.blt j m) && (!ahM ms c i || Nat.ble m j)
  | none => true
def later (ops : Array Oper) (ms cs : List Nat) (S : List (List AObj)) (t : TRec) (m : Nat) : List (Nat × St × AV) := match okV ms cs t.i m && !Nat.beq m (cs.filter (fun c => Nat.blt c t.i)).length with
  | true => match S[m]? with
    | some st => [(t.i, lookS ops t.i ⟨t.s.nt, t.s.env, st⟩, t.x)]
    | none => []
  | false => []
def obl (ops : Array Oper) (ms cs : List Nat) (S : List (List AObj)) : List TRec → List (Nat × St × AV)
  | [] => []
  | t :: r => match chAt ops t.i with
    | true => obl ops ms cs S r
    | false => (List.range (cs.length + 1)).flatMap (later ops ms cs S t) ++ obl ops ms cs S r
def AllO (r : Option Nat) (P : Program) (ops : Array Oper) : List (Nat × St × AV) → Prop
  | [] => True
  | p :: l => One r P ops p.1 p.2.1 p.2.2 p.2.1.st ∧ AllO r P ops l
def SameQ (ops : Array Oper) : List TRec → Prop
  | [] => True
  | t :: r => (match chAt ops t.i with | true => True | false => t.st = t.s.st) ∧ SameQ ops r
theorem AllO_mem {r : Option Nat} {P : Program} {ops : Array Oper} : ∀ {l : List (Nat × St × AV)}, AllO r P ops l → ∀ p ∈ l, One r P ops p.1 p.2.1 p.2.2 p.2.1.st
  | [], _, p, hp => by simp at hp
  | q :: l, h, p, hp => by
    rcases List.mem_cons.1 hp with rfl | hp
    · exact h.1
    · exact AllO_mem h.2 p hp
theorem SameQ_mem {ops : Array Oper} : ∀ {l : List TRec}, SameQ ops l → ∀ t ∈ l, chAt ops t.i = false → t.st = t.s.st
  | [], _, t, ht, _ => by simp at ht
  | q :: l, h, t, ht, hc => by
    rcases List.mem_cons.1 ht with rfl | ht
    · have := h.1; rw [hc] at this; exact this
    · exact SameQ_mem h.2 t ht hc
theorem TR.collect {r : Option Nat} {P : Program} {ops : Array Oper} {Q : St → List TRec → Prop} : ∀ (n k : Nat) (s : St) (rc : List TRec), TR r P ops ((List.range n).map (k + ·)) s rc Q →
    ∃ (se : Nat → St) (xs : Nat → AV), se k = s ∧ (∀ i, k ≤ i → i < k + n → One r P ops i (lookS ops i (se i)) (xs i) (se (i + 1)).st ∧ se (i + 1) = putS (se i) (dstOf ops i) (xs i) (se (i + 1)).st) ∧
      Q (se (k + n)) (rc ++ (List.range n).map fun j => ⟨k + j, se (k + j), xs (k + j), (se (k + j + 1)).st⟩)
  | 0, k, s, rc, h => ⟨fun _ => s, fun _ => .any, rfl, fun i h1 h2 => by omega, by simpa [TR] using h⟩
  | n + 1, k, s, rc, h => by
    rw [List.range_succ_eq_map, List.map_cons, List.map_map] at h
    simp only [TR, Nat.add_zero] at h
    obtain ⟨x, st', hone, hrest⟩ := h
    have e : (List.range n).map ((fun x => k + x) ∘ Nat.succ) = (List.range n).map (k + 1 + ·) := List.map_congr_left fun j _ => by simp; omega
    rw [e] at hrest
    obtain ⟨se, xs, h0, h1, h2⟩ := TR.collect n (k + 1) _ _ hrest
    have hst : (se (k + 1)).st = st' := by rw [h0, putS_st]
    refine ⟨fun i => if i = k then s else se i, fun i => if i = k then x else xs i, by simp, fun i hi1 hi2 => ?_, ?_⟩
    · by_cases hik : i = k
      · subst hik
        simp only [if_true, if_neg (show ¬ i + 1 = i by omega)]
        refine ⟨by rw [hst]; exact hone, by rw [hst]; exact h0⟩
      · simp only [if_neg hik, if_neg (show ¬ i + 1 = k by omega)]
        exact h1 i (by omega) (by omega)
    · simp only [if_neg (show ¬ k + (n + 1) = k by omega)]
      rw [show k + (n + 1) = k + 1 + n by omega]
      have : (List.range (n + 1)).map (fun j => (⟨k + j, if k + j = k then s else se (k + j), if k + j = k then x else xs (k + j), (if k + j + 1 = k then s else se (k + j + 1)).st⟩ : TRec)) =
          ⟨k, s, x, st'⟩ :: (List.range n).map fun j => ⟨k + 1 + j, se (k + 1 + j), xs (k + 1 + j), (se (k + 1 + j + 1)).st⟩ := by
        rw [List.range_succ_eq_map, List.map_cons, List.map_map]
        simp only [Nat.add_zero, if_true, if_neg (show ¬ k + 1 = k by omega), hst]
        congr 1
        refine List.map_congr_left fun j _ => ?_
        simp only [Function.comp, Nat.succ_eq_add_one, if_neg (show ¬ k + (j + 1) = k by omega), if_neg (show ¬ k + (j + 1) + 1 = k by omega)]
        rw [show k + (j + 1) = k + 1 + j by omega]
      rw [this, List.append_cons]
      exact h2
section cnt
variable (p : Nat → Bool)
def cnt (i : Nat) : Nat := ((List.range i).filter p).length
theorem cnt_succ (i : Nat) : cnt p (i + 1) = cnt p i + if p i then 1 else 0 := by
  unfold cnt
  rw [List.range_succ, List.filter_append, List.length_append]
  cases h : p i <;> simp [h]
theorem cnt_get {n i : Nat} (hi : i < n) (hp : p i = true) : ((List.range n).filter p)[cnt p i]? = some i := by
  induction n with
  | zero => omega
  | succ n ih =>
    rw [List.range_succ, List.filter_append]
    by_cases h : i < n
    · have := ih h
      rw [List.getElem?_append_left (List.getElem?_eq_some_iff.1 this).1]
      exact this
    · obtain rfl : i = n := by omega
      unfold cnt
      rw [List.getElem?_append_right (Nat.le_refl _)]
      simp [hp]
theorem cnt_lt {n i : Nat} : ∀ {j c : Nat}, ((List.range n).filter p)[j]? = some c → c < n ∧ p c = true ∧ j = cnt p c := by
  induction n with
  | zero => intro j c h; simp at h
  | succ n ih =>
    intro j c h
    rw [List.range_succ, List.filter_append] at h
    by_cases hj : j < ((List.range n).filter p).length
    · rw [List.getElem?_append_left hj] at h
      obtain ⟨h1, h2, h3⟩ := ih h
      exact ⟨by omega, h2, h3⟩
    · rw [List.getElem?_append_right (by omega)] at h
      cases hp : p n with
      | false => simp [hp] at h
      | true =>
        simp only [List.filter_cons, hp, if_true, List.filter_nil] at h
        have hlt := (List.getElem?_eq_some_iff.1 h).1
        simp only [List.length_cons, List.length_nil] at hlt
        have h0 : j - ((List.range n).filter p).length = 0 := by omega
        rw [h0] at h
        simp only [List.getElem?_cons_zero, Option.some.injEq] at h
        subst h
        exact ⟨by omega, hp, by unfold cnt; omega⟩
theorem cnt_below {n i : Nat} (hi : i ≤ n) : (((List.range n).filter p).filter (fun c => Nat.blt c i)).length = cnt p i := by
  induction n with
  | zero =>
    obtain rfl : i = 0 := by omega
    rfl
  | succ n ih =>
    by_cases h : i ≤ n
    · rw [List.range_succ, List.filter_append, List.filter_append, List.length_append, ih h]
      have : (List.filter (fun c => Nat.blt c i) (List.filter p [n])).length = 0 := by
        rw [List.length_eq_zero_iff, List.filter_eq_nil_iff]
        intro a ha
        have := (List.mem_filter.1 ha).1
        simp only [List.mem_singleton] at this
        subst this
        intro hb
        have := Nat.le_of_ble_eq_true hb
        omega
      omega
    · obtain rfl : i = n + 1 := by omega
      rw [List.filter_eq_self.2]
      · rfl
      · intro a ha
        have := (List.mem_filter.1 ha).1
        rw [List.mem_range] at this
        exact Nat.ble_eq_true_of_le this
theorem cnt_mono {i j : Nat} (h : i ≤ j) : cnt p i ≤ cnt p j := by
  induction j with
  | zero =>
    obtain rfl : i = 0 := by omega
    exact Nat.le_refl _
  | succ j ih =>
    by_cases e : i = j + 1
    · subst e; exact Nat.le_refl _
    · have := ih (by omega); rw [cnt_succ]; omega
theorem cnt_strict {i j : Nat} (h : i < j) (hp : p i = true) : cnt p i < cnt p j := by
  have h1 := cnt_mono p (show i + 1 ≤ j by omega)
  rw [cnt_succ, hp] at h1
  simp at h1
  omega
end cnt
theorem obl_mem {ops : Array Oper} {ms cs : List Nat} {S : List (List AObj)} {t : TRec} (hc : chAt ops t.i = false) {m : Nat} (hm : m ≤ cs.length) (hk : okV ms cs t.i m = true) (hne : m ≠ (cs.filter (fun c => Nat.blt c t.i)).length) {st : List AObj} (hS : S[m]? = some st) :
    ∀ {l : List TRec}, t ∈ l → (t.i, lookS ops t.i ⟨t.s.nt, t.s.env, st⟩, t.x) ∈ obl ops ms cs S l
  | [], h => by simp at h
  | q :: l, h => by
    have hb : Nat.beq m (cs.filter (fun c => Nat.blt c t.i)).length = false := by
      cases e : Nat.beq m (cs.filter (fun c => Nat.blt c t.i)).length with
      | false => rfl
      | true => exact absurd (Nat.eq_of_beq_eq_true e) hne
    rcases List.mem_cons.1 h with rfl | h
    · simp only [obl, hc]
      refine List.mem_append_left _ (List.mem_flatMap.2 ⟨m, List.mem_range.2 (by omega), ?_⟩)
      simp only [later, hk, hb, hS, Bool.not_false, Bool.and_self, List.mem_singleton]
    · have ih := obl_mem hc hm hk hne hS h
      simp only [obl]
      cases chAt ops q.i with
      | true => exact ih
      | false => exact List.mem_append_right _ ih
section main
variable {r : Option Nat} {P : Program} {ops : Array Oper}
structure TextV (ops : Array Oper) (ms : List Nat) : Prop where
  eqm : ms = masks ops.toList []
  nd : ops.toList.all (fun o => notDefer o.op) = true
  e : ∀ i o, ops[i]? = some o → ∀ e ∈ o.after, bindsE e = true → e.on < i
  d : ∀ i d, i < ops.size → dstOf ops i = some d → ∀ j, j < ops.size → dstOf ops j = some d → j = i
  l : ∀ i o, ops[i]? = some o → ∀ t ∈ o.looksAt ops, ∀ j, j < ops.size → dstOf ops j = some t → (j < i ∧ ahM ms i j = true) ∨ (i < j ∧ ahM ms j i = true)
  c : ∀ i j, i < ops.size → j < i → chAt ops i = true → chAt ops j = true → ahM ms i j = true
theorem ahM_ok {ms : List Nat} (h : ms = masks ops.toList []) {i j : Nat} (ha : ahM ms i j = true) : Ah ops i j := by
  subst h
  exact masks_ok ops.toList [] (fun k o hk => by simpa using hk) (fun i j hij => by simp at hij) i j ha
theorem textV (h : drawVB ops = true) : TextV ops (masks ops.toList []) := by
  simp only [drawVB, Bool.and_eq_true, List.all_eq_true, List.mem_range] at h
  obtain ⟨⟨h0, h1⟩, h2⟩ := h
  have get : ∀ i o, ops[i]? = some o → (∀ e ∈ o.after.toList, (!bindsE e || Nat.blt e.on i) = true) ∧ (match o.dst with | some d => (List.range ops.size).all (fun j => Nat.beq i j || !(dstOf ops j == some d)) | none => chOp o.op) = true ∧
      (o.looksAt ops).all (fun t => (List.range ops.size).all (fun j => !(dstOf ops j == some t) || (Nat.blt j i && ahM (masks ops.toList []) i j) || (Nat.blt i j && ahM (masks ops.toList []) j i))) = true := fun i o ho => by
    have := h1 i (Array.getElem?_eq_some_iff.1 ho).1
    simp only [ho, Bool.and_eq_true, List.all_eq_true] at this
    exact ⟨this.1.1, this.1.2, by rw [List.all_eq_true]; intro t ht; rw [List.all_eq_true]; exact this.2 t ht⟩
  refine ⟨rfl, List.all_eq_true.2 h0, fun i o ho e he hb => ?_, fun i d hi hd j hj hjd => ?_, fun i o ho t ht j hj hjt => ?_, fun i j hi hj hc hd => ?_⟩
  · have := (get i o ho).1 e (by simpa using he)
    rw [hb] at this
    simp only [Bool.not_true, Bool.false_or] at this
    exact Nat.le_of_ble_eq_true this
  · have ho := Array.getElem?_eq_getElem hi
    have := (get i _ ho).2.1
    simp only [dstOf, ho, Option.bind_some] at hd
    rw [hd] at this
    simp only [List.all_eq_true, List.mem_range] at this
    have := this j hj
    simp only [hjd, beq_self_eq_true, Bool.not_true, Bool.or_false] at this
    exact (Nat.eq_of_beq_eq_true this).symm
  · have := (get i o ho).2.2
    simp only [List.all_eq_true, List.mem_range] at this
    have := this t ht j hj
    simp only [hjt, beq_self_eq_true, Bool.not_true, Bool.false_or, Bool.or_eq_true, Bool.and_eq_true] at this
    rcases this with ⟨a, b⟩ | ⟨a, b⟩
    · exact .inl ⟨Nat.le_of_ble_eq_true a, b⟩
    · exact .inr ⟨Nat.le_of_ble_eq_true a, b⟩
  · have := h2 i (List.mem_filter.2 ⟨List.mem_range.2 hi, hc⟩) j (List.mem_filter.2 ⟨List.mem_range.2 (by omega), hd⟩)
    have hb : Nat.blt j i = true := Nat.ble_eq_true_of_le hj
    rw [hb] at this
    simpa using this
theorem drawV_any {G : Nat → Prop} {ms : List Nat} (hT : TextV ops ms) {s0 : St} {se : Nat → St} {xs : Nat → AV} {S : Nat → List AObj} {g0 : Ghost} {w0 : World} {a0 : Act} {QQ : Exit → Act → World → Prop} {Q : St → Prop}
    (hS : ∀ i, i ≤ ops.size → (se i).st = S (cnt (chAt ops) i))
    (D1 : ∀ i j t, i ≤ ops.size → j < i → dstOf ops j = some t → (se i).get t = xs j) (D2 : ∀ i t, i ≤ ops.size → (∀ j, j < i → dstOf ops j ≠ some t) → (se i).get t = s0.get t)
    (hone : ∀ i, i < ops.size → One r P ops i (lookS ops i ⟨s0.nt, (se i).env, S (cnt (chAt ops) i)⟩) (xs i) (S (cnt (chAt ops) (i + 1))))
    (hlat : ∀ i m, i < ops.size → chAt ops i = false → m ≤ cnt (chAt ops) ops.size → okV ms (chs ops) i m = true → One r P ops i (lookS ops i ⟨s0.nt, (se i).env, S m⟩) (xs i) (S m))
    (hQ : Q ⟨s0.nt, (se ops.size).env, S (cnt (chAt ops) ops.size)⟩)
    (kk : ∀ s' g' w' a', Q s' → Rel G s' g' w' a' → Evo s0.st g0 w0 s'.st g' w' → a'.defers = a0.defers → QQ Exit.normal a' w') :
    ∀ (fuel : Nat) (listed : Array Bool) (a : Act) (g : Ghost) (w : World) (m : Nat), listed.size = ops.size → left listed ops.size = fuel → Closed ops listed → (∀ j, j < ops.size → chAt ops j = true → (listed.getD j false = true ↔ cnt (chAt ops) j < m)) → m ≤ cnt (chAt ops) ops.size →
      a.tmps.size = s0.nt → SR G (S m) g w → (∀ j t, j < ops.size → dstOf ops j = some t → listed.getD j false = true → AR G (S m) g w (xs j) (a.tmps.getD t undef)) →
      (∀ t, (∀ j, j < ops.size → dstOf ops j = some t → listed.getD j false = false) → AR G (S m) g w (s0.get t) (a.tmps.getD t undef)) →
      Evo s0.st g0 w0 (S m) g w → a.defers = a0.defers → wpAnyIn (FW r) 0 P .any ops QQ fuel listed a w := by
  intro fuel
  induction fuel with
  | zero =>
    intro listed a g w m hs hl hc hm hmM hsz hsr hv1 hv2 hev hdf
    have h1 : ∀ j, j < ops.size → listed.getD j true = true := fun j hj => by
      unfold left at hl
      rw [List.length_eq_zero_iff, List.filter_eq_nil_iff] at hl
      have := hl j (List.mem_range.2 hj)
      simpa using this
    have h1' : ∀ j, j < ops.size → listed.getD j false = true := fun j hj => by rw [getD_tf (by omega) false true]; exact h1 j hj
    refine ⟨?_, ?_⟩
    · rw [List.eq_nil_iff_forall_not_mem]
      intro j hj
      obtain ⟨hj1, hj2, _⟩ := mem_ready hj
      rw [h1 j hj1] at hj2
      simp at hj2
    · have em : m = cnt (chAt ops) ops.size := by
        rcases Nat.lt_or_ge m (cnt (chAt ops) ops.size) with hlt | hge
        · exfalso
          have hget : (chs ops)[m]? = some ((chs ops)[m]'hlt) := List.getElem?_eq_getElem hlt
          obtain ⟨c1, c2, c3⟩ := cnt_lt (chAt ops) (i := 0) hget
          have := (hm _ c1 c2).1 (h1' _ c1)
          omega
        · omega
      subst em
      refine kk _ g w a hQ ⟨fun t => ?_, hsz, hsr⟩ hev hdf
      show AR G _ g w ((se ops.size).get t) _
      by_cases hw : ∃ j, j < ops.size ∧ dstOf ops j = some t
      · obtain ⟨j, hj, hjt⟩ := hw
        rw [D1 _ j t (Nat.le_refl _) hj hjt]
        exact hv1 j t hj hjt (h1' j hj)
      · rw [D2 _ t (Nat.le_refl _) fun j hj hjt => hw ⟨j, hj, hjt⟩]
        exact hv2 t fun j hj hjt => absurd ⟨j, hj, hjt⟩ hw
  | succ fuel ih =>
    intro listed a g w m hs hl hc hm hmM hsz hsr hv1 hv2 hev hdf
    have hex : ∃ j, j < ops.size ∧ listed.getD j true = false := by
      by_cases he : ∃ j, j < ops.size ∧ listed.getD j true = false
      · exact he
      · exfalso
        have : left listed ops.size = 0 := by
          unfold left
          rw [List.length_eq_zero_iff, List.filter_eq_nil_iff]
          intro j hj
          cases hb : listed.getD j true with
          | true => simp
          | false => exact absurd ⟨j, List.mem_range.1 hj, hb⟩ he
        omega
    refine ⟨fun hnil => ?_, fun i hi => ?_⟩
    · exfalso
      have least : ∀ n j, j ≤ n → j < ops.size → listed.getD j true = false → ∃ i, i < ops.size ∧ listed.getD i true = false ∧ ∀ k, k < i → listed.getD k true = true := by
        intro n
        induction n with
        | zero =>
          intro j hj hjq hjl
          exact ⟨j, hjq, hjl, fun k hk => by omega⟩
        | succ n ihn =>
          intro j hj hjq hjl
          by_cases hk : ∃ k, k < j ∧ listed.getD k true = false
          · obtain ⟨k, hk1, hk2⟩ := hk
            exact ihn k (by omega) (by omega) hk2
          · refine ⟨j, hjq, hjl, fun k hk' => ?_⟩
            cases hb : listed.getD k true with
            | true => rfl
            | false => exact absurd ⟨k, hk', hb⟩ hk
      obtain ⟨j, hj1, hj2⟩ := hex
      obtain ⟨i, hi1, hi2, hi3⟩ := least j j (Nat.le_refl _) hj1 hj2
      have ho := Array.getElem?_eq_getElem hi1
      have hmem := ready_of ho hi2 (fun e hem hb => by
        have := hT.e i _ ho e hem hb
        rw [getD_tf (by omega) false true]
        exact hi3 _ this)
      rw [hnil] at hmem
      exact List.not_mem_nil hmem
    · obtain ⟨hi1, hi2, o, ho, he⟩ := mem_ready hi
      have hpre : ∀ o', ops[i]? = some o' → ∀ e ∈ o'.after, bindsE e = true → listed.getD e.on false = true := fun o' ho' => by
        rw [ho] at ho'
        obtain rfl := Option.some.inj ho'
        exact he
      have hnot : listed.getD i false = false := by rw [getD_tf (by omega) false true]; exact hi2
      have ahd : ∀ j, ahM ms i j = true → listed.getD j false = true := fun j h => (ahM_ok hT.eqm h).listed hc hpre
      have bhd : ∀ j, ahM ms j i = true → listed.getD j false = false := fun j h => by
        cases hb : listed.getD j false with
        | false => rfl
        | true =>
          have := (ahM_ok hT.eqm h).of_listed hc hb
          rw [hnot] at this
          cases this
      -- the operation, at the version that the store has
      have key : ∃ m', m' ≤ cnt (chAt ops) ops.size ∧ One r P ops i (lookS ops i ⟨s0.nt, (se i).env, S m⟩) (xs i) (S m') ∧ (∀ j, j < ops.size → chAt ops j = true → ((listed.setIfInBounds i true).getD j false = true ↔ cnt (chAt ops) j < m')) := by
        cases hch : chAt ops i with
        | true =>
          have e1 : m = cnt (chAt ops) i := by
            have h1 : ¬ cnt (chAt ops) i < m := fun h => by
              have := (hm i hi1 hch).2 h
              rw [hnot] at this
              cases this
            rcases Nat.lt_or_ge m (cnt (chAt ops) i) with hlt | hge
            · exfalso
              have hlt2 : m < (chs ops).length := Nat.lt_of_lt_of_le hlt (cnt_mono _ (Nat.le_of_lt hi1))
              have hget : (chs ops)[m]? = some ((chs ops)[m]'hlt2) := List.getElem?_eq_getElem hlt2
              obtain ⟨c1, c2, c3⟩ := cnt_lt (chAt ops) (i := 0) hget
              have hci : (chs ops)[m] < i := by
                rcases Nat.lt_trichotomy ((chs ops)[m]'hlt2) i with h | h | h
                · exact h
                · rw [h] at c3; omega
                · have := cnt_strict (chAt ops) h hch; omega
              have := (hm _ c1 c2).1 (ahd _ (hT.c i _ hi1 hci hch c2))
              omega
            · omega
          subst e1
          refine ⟨cnt (chAt ops) (i + 1), cnt_mono _ hi1, hone i hi1, fun j hj hcj => ?_⟩
          rw [getD_setB _ _ _ _ (by omega), cnt_succ, hch]
          by_cases e : i = j
          · subst e; simp
          · rw [if_neg e, hm j hj hcj]
            simp only [if_true]
            constructor
            · intro h; omega
            · intro h
              rcases Nat.lt_or_ge j i with h' | h'
              · exact cnt_strict _ h' hcj
              · have := cnt_strict (chAt ops) (show i < j by omega) hch; omega
        | false =>
          refine ⟨m, hmM, hlat i m hi1 hch hmM ?_, fun j hj hcj => ?_⟩
          · unfold okV
            rw [List.all_eq_true]
            intro j hj
            rw [List.mem_range] at hj
            have hget : (chs ops)[j]? = some ((chs ops)[j]'hj) := List.getElem?_eq_getElem hj
            obtain ⟨c1, c2, c3⟩ := cnt_lt (chAt ops) (i := 0) hget
            rw [hget]
            simp only [Bool.and_eq_true, Bool.or_eq_true, Bool.not_eq_true']
            refine ⟨?_, ?_⟩
            · cases ha : ahM ms i ((chs ops)[j]'hj) with
              | false => exact .inl rfl
              | true =>
                right
                have := (hm _ c1 c2).1 (ahd _ ha)
                exact Nat.ble_eq_true_of_le (by omega)
            · cases ha : ahM ms ((chs ops)[j]'hj) i with
              | false => exact .inl rfl
              | true =>
                right
                have h1 := bhd _ ha
                have : ¬ cnt (chAt ops) ((chs ops)[j]'hj) < m := fun h => by
                  have := (hm _ c1 c2).2 h
                  rw [h1] at this
                  cases this
                exact Nat.ble_eq_true_of_le (by omega)
          · rw [getD_setB _ _ _ _ (by omega)]
            have : i ≠ j := fun e => by subst e; rw [hch] at hcj; cases hcj
            rw [if_neg this]
            exact hm j hj hcj
      obtain ⟨m', hm'M, h1, hm'⟩ := key
      have hlk : lookS ops i ⟨s0.nt, (se i).env, S m⟩ = restr ⟨s0.nt, (se i).env, S m⟩ (o.looksAt ops) := by simp only [lookS, ho]
      rw [hlk] at h1
      have hrel : Rel G (restr ⟨s0.nt, (se i).env, S m⟩ (o.looksAt ops)) g w a := by
        refine ⟨fun t => ?_, hsz, hsr⟩
        show AR G (S m) g w (look ((o.looksAt ops).map fun t => (t, St.get ⟨s0.nt, (se i).env, S m⟩ t)) t) _
        rw [look_restr]
        split
        · rename_i ht
          show AR G (S m) g w ((se i).get t) _
          by_cases hw : ∃ j, j < ops.size ∧ dstOf ops j = some t
          · obtain ⟨j, hj, hjt⟩ := hw
            rcases hT.l i o ho t ht j hj hjt with ⟨h2, h3⟩ | ⟨h2, h3⟩
            · rw [D1 i j t (by omega) h2 hjt]
              exact hv1 j t hj hjt (ahd j h3)
            · rw [D2 i t (by omega) fun q hq hqt => by have := hT.d j t hj hjt q (by omega) hqt; omega]
              exact hv2 t fun q hq hqt => by
                obtain rfl := hT.d j t hj hjt q hq hqt
                exact bhd _ h3
          · rw [D2 i t (by omega) fun j hj hjt => hw ⟨j, by omega, hjt⟩]
            exact hv2 t fun j hj hjt => absurd ⟨j, hj, hjt⟩ hw
        · exact .any _
      have h := h1 [] (fun s' => s' = putS (restr ⟨s0.nt, (se i).env, S m⟩ (o.looksAt ops)) (dstOf ops i) (xs i) (S m')) (AOL.nil rfl) G g w a (fun e a' w' => match e with | .normal => wpAnyIn (FW r) 0 P .any ops QQ fuel (listed.setIfInBounds i true) a' w' | e => QQ e a' w') hrel ?_
      · exact wpOpIn_of h
      · rintro s' g' w' a' rfl hr' hev' hdf' hfr
        rw [putS_st] at hev'
        have hev' : Evo (S m) g w (S m') g' w' := hev'
        have hsr' : SR G (S m') g' w' := by have := hr'.sr; rw [putS_st] at this; exact this
        have hnt : a'.tmps.size = s0.nt := hr'.size.trans (by cases dstOf ops i <;> rfl)
        have hdo : dstOf ops i = o.dst := by simp [dstOf, ho]
        have same : ∀ t, dstOf ops i ≠ some t → a'.tmps.getD t undef = a.tmps.getD t undef := fun t ht => hfr t fun j hj p hp => by
          obtain rfl := List.mem_singleton.1 hj
          rw [ho] at hp
          obtain rfl := Option.some.inj hp
          rw [← hdo]
          exact ht
        refine ih _ a' g' w' m' (by simp [hs]) ?_ (closed_set hc ho (by omega) he) hm' hm'M hnt hsr' (fun j t hj hjt hlj => ?_) (fun t ht => ?_) (hev.trans hev') (hdf'.trans hdf)
        · have := left_set (listed := listed) (by omega) hi1 hi2
          omega
        · rw [getD_setB _ _ _ _ (by omega)] at hlj
          by_cases e : i = j
          · subst e
            have := hr'.slots t
            rw [putS_st] at this
            have hg : (putS (restr ⟨s0.nt, (se i).env, S m⟩ (o.looksAt ops)) (dstOf ops i) (xs i) (S m')).get t = xs i := by
              rw [hjt]
              exact look_cons_eq
            rw [hg] at this
            exact this
          · rw [if_neg e] at hlj
            have hne : dstOf ops i ≠ some t := fun h => e (hT.d j t hj hjt i hi1 h)
            rw [same t hne]
            exact (hv1 j t hj hjt hlj).evo hev'
        · have hne : dstOf ops i ≠ some t := fun h => by
            have := ht i hi1 h
            rw [getD_setB _ _ _ _ (by omega), if_pos rfl] at this
            cases this
          rw [same t hne]
          refine (hv2 t fun j hj hjt => ?_).evo hev'
          have := ht j hj hjt
          rw [getD_setB _ _ _ _ (by omega)] at this
          split at this
          · cases this
          · exact this
end main
section fin
variable {r : Option Nat} {P : Program} {ops : Array Oper}
def stV (ops : Array Oper) (s : List AObj) (se : Nat → St) : Nat → List AObj
  | 0 => s
  | m + 1 => (se ((chs ops).getD m 0 + 1)).st
theorem stV_eq {s : St} {se : Nat → St} (h0 : se 0 = s) (hq : ∀ i, i < ops.size → chAt ops i = false → (se (i + 1)).st = (se i).st) : ∀ i, i ≤ ops.size → (se i).st = stV ops s.st se (cnt (chAt ops) i)
  | 0, _ => by rw [h0]; rfl
  | i + 1, hi => by
    rw [cnt_succ]
    cases hc : chAt ops i with
    | true =>
      have hg := cnt_get (chAt ops) (n := ops.size) (by omega) hc
      have : (chs ops).getD (cnt (chAt ops) i) 0 = i := by rw [List.getD_eq_getElem?_getD]; unfold chs; rw [hg]; rfl
      simp only [if_true, stV, this]
    | false =>
      rw [hq i (by omega) hc]
      simpa using stV_eq h0 hq i (by omega)
theorem vers_get {s : St} {se : Nat → St} {xs : Nat → AV} (hS : ∀ i, i ≤ ops.size → (se i).st = stV ops s.st se (cnt (chAt ops) i)) :
    ∀ (n k : Nat), k + n = ops.size → ∀ j, cnt (chAt ops) k + j ≤ cnt (chAt ops) ops.size →
      (vers ops (stV ops s.st se (cnt (chAt ops) k)) ((List.range n).map fun j => ⟨k + j, se (k + j), xs (k + j), (se (k + j + 1)).st⟩))[j]? = some (stV ops s.st se (cnt (chAt ops) k + j))
  | 0, k, hk, j, hj => by
    obtain rfl : k = ops.size := by omega
    obtain rfl : j = 0 := by omega
    rfl
  | n + 1, k, hk, j, hj => by
    have e : (List.range (n + 1)).map (fun j => (⟨k + j, se (k + j), xs (k + j), (se (k + j + 1)).st⟩ : TRec)) = ⟨k, se k, xs k, (se (k + 1)).st⟩ :: (List.range n).map fun j => ⟨k + 1 + j, se (k + 1 + j), xs (k + 1 + j), (se (k + 1 + j + 1)).st⟩ := by
      rw [List.range_succ_eq_map, List.map_cons, List.map_map]
      simp only [Nat.add_zero]
      congr 1
      refine List.map_congr_left fun j _ => ?_
      simp only [Function.comp, Nat.succ_eq_add_one]
      rw [show k + (j + 1) = k + 1 + j by omega]
    rw [e]
    have ih := vers_get (xs := xs) hS n (k + 1) (by omega)
    cases hc : chAt ops k with
    | true =>
      have e2 : cnt (chAt ops) (k + 1) = cnt (chAt ops) k + 1 := by rw [cnt_succ, hc]; rfl
      simp only [vers, hc]
      rw [hS (k + 1) (by omega)]
      cases j with
      | zero => rfl
      | succ j =>
        rw [List.getElem?_cons_succ, ih j (by omega), e2]
        congr 2; omega
    | false =>
      have e2 : cnt (chAt ops) (k + 1) = cnt (chAt ops) k := by rw [cnt_succ, hc]; rfl
      simp only [vers, hc]
      rw [← e2] at hj ⊢
      exact ih j hj
theorem AWp.drawV {id : Nat} {s : St} {Q : Exit → St → Prop} {l : List Nat} (hm : P.follows .mixedOrders = true) (hb : drawVB ops = true) (hl : List.range ops.size = l)
    (h : TR r P ops l s [] fun T rc => SameQ ops rc ∧ AllO r P ops (obl ops (masks ops.toList []) (chs ops) (vers ops s.st rc) rc) ∧ Q .normal T) : AWp r P (.region id ops true) s Q := fun G g w a B QQ hr hB hd k => by
  subst hl
  have hT := textV hb
  have h' : TR r P ops ((List.range ops.size).map (0 + ·)) s [] fun T rc => SameQ ops rc ∧ AllO r P ops (obl ops (masks ops.toList []) (chs ops) (vers ops s.st rc) rc) ∧ Q .normal T := by
    have : (List.range ops.size).map (0 + ·) = List.range ops.size := by
      have : (List.range ops.size).map (fun x => 0 + x) = (List.range ops.size).map (fun x => x) := List.map_congr_left fun x _ => Nat.zero_add x
      rw [this, List.map_id']
    rw [this]; exact h
  obtain ⟨se, xs, h0, h1, hq, ho, hQ⟩ := TR.collect _ _ _ _ h'
  rw [List.nil_append] at hq ho
  rw [Nat.zero_add] at hQ
  have hq' : ∀ i, i < ops.size → chAt ops i = false → (se (i + 1)).st = (se i).st := fun i hi hc => by
    have := SameQ_mem hq ⟨0 + i, se (0 + i), xs (0 + i), (se (0 + i + 1)).st⟩ (List.mem_map.2 ⟨i, List.mem_range.2 hi, rfl⟩) (by rw [Nat.zero_add]; exact hc)
    simp only [Nat.zero_add] at this
    exact this
  have hS := stV_eq h0 hq'
  have hnt : ∀ i, i ≤ ops.size → (se i).nt = s.nt := fun i => by
    induction i with
    | zero => intro _; rw [h0]
    | succ i ih =>
      intro hi
      rw [(h1 i (Nat.zero_le _) (by omega)).2]
      have : (putS (se i) (dstOf ops i) (xs i) (se (i + 1)).st).nt = (se i).nt := by cases dstOf ops i <;> rfl
      rw [this]; exact ih (by omega)
  have hget : ∀ i t, i < ops.size → (se (i + 1)).get t = if dstOf ops i = some t then xs i else (se i).get t := fun i t hi => by
    rw [(h1 i (Nat.zero_le _) (by omega)).2]
    cases hdo : dstOf ops i with
    | none => simp [putS]; rfl
    | some d =>
      show look ((d, xs i) :: (se i).env) t = _
      by_cases e : d = t
      · subst e; rw [look_cons_eq]; simp
      · rw [look_cons_ne e]; simp [e]; rfl
  have D2 : ∀ i t, i ≤ ops.size → (∀ j, j < i → dstOf ops j ≠ some t) → (se i).get t = s.get t := fun i => by
    induction i with
    | zero => intro t _ _; rw [h0]
    | succ i ih =>
      intro t hi hn
      rw [hget i t (by omega), if_neg (hn i (Nat.lt_succ_self i))]
      exact ih t (by omega) fun j hj => hn j (by omega)
  have D1 : ∀ i j t, i ≤ ops.size → j < i → dstOf ops j = some t → (se i).get t = xs j := fun i => by
    induction i with
    | zero => intro j t _ hj _; omega
    | succ i ih =>
      intro j t hi hj hjt
      rw [hget i t (by omega)]
      by_cases e : j = i
      · subst e; rw [if_pos hjt]
      · rw [if_neg fun h => e (hT.d i t (by omega) h j (by omega) hjt)]
        exact ih j t (by omega) (by omega) hjt
  have hlk : ∀ i m, i ≤ ops.size → lookS ops i ⟨s.nt, (se i).env, m⟩ = lookS ops i ⟨(se i).nt, (se i).env, m⟩ := fun i m hi => by rw [hnt i hi]
  have hM : (chs ops).length = cnt (chAt ops) ops.size := rfl
  have hv : ∀ m, m ≤ cnt (chAt ops) ops.size → (vers ops s.st ((List.range ops.size).map fun j => ⟨0 + j, se (0 + j), xs (0 + j), (se (0 + j + 1)).st⟩))[m]? = some (stV ops s.st se m) := fun m hm => by
    have := vers_get (xs := xs) hS ops.size 0 (by omega) m (by simpa [cnt] using hm)
    simpa [cnt, stV] using this
  have ev0 : Evo s.st g w s.st g { w with drawn := w.drawn + 1 } := .below ⟨rfl, rfl, rfl, Nat.le_refl _, fun _ _ => rfl⟩
  have sr0 : SR G s.st g { w with drawn := w.drawn + 1 } := hr.sr.below (w := w) (w' := { w with drawn := w.drawn + 1 }) ⟨rfl, rfl, rfl, Nat.le_refl _, fun _ _ => rfl⟩
  refine wpIn_region_any hm ?_
  refine drawV_any (G := G) hT (s0 := s) (se := se) (xs := xs) (S := stV ops s.st se) (g0 := g) (w0 := w) (a0 := a) (Q := Q .normal) hS D1 D2 (fun i hi => ?_) (fun i m hi hc hmM hok => ?_) ?_ (fun s' g' w' a' qs hr' he' hd' => k _ s' g' w' a' qs hr' he' (by rw [hd']; exact hd.evo hr.sr he')) ops.size _ a g _ 0 (by simp) ?_ ?_ ?_ (Nat.zero_le _) hr.size sr0 ?_ ?_ ev0 rfl
  · have := (h1 i (Nat.zero_le _) (by omega)).1
    rw [← hS i (by omega), ← hS (i + 1) (by omega), hlk i _ (by omega)]
    exact this
  · by_cases e : m = cnt (chAt ops) i
    · subst e
      have := (h1 i (Nat.zero_le _) (by omega)).1
      rw [hq' i hi hc] at this
      rw [← hS i (by omega), hlk i _ (by omega)]
      exact this
    · have hmem := obl_mem (ops := ops) (ms := masks ops.toList []) (cs := chs ops) (S := vers ops s.st ((List.range ops.size).map fun j => ⟨0 + j, se (0 + j), xs (0 + j), (se (0 + j + 1)).st⟩)) (t := ⟨0 + i, se (0 + i), xs (0 + i), (se (0 + i + 1)).st⟩) (by rw [Nat.zero_add]; exact hc) (m := m) hmM
        (by simp only [Nat.zero_add]; exact hok) (by simp only [Nat.zero_add]; unfold chs; rw [cnt_below _ (by omega)]; exact e) (hv m hmM) (List.mem_map.2 (⟨i, List.mem_range.2 hi, rfl⟩ : ∃ a, a ∈ List.range ops.size ∧ (fun j => (⟨0 + j, se (0 + j), xs (0 + j), (se (0 + j + 1)).st⟩ : TRec)) a = ⟨0 + i, se (0 + i), xs (0 + i), (se (0 + i + 1)).st⟩))
      have := AllO_mem ho _ hmem
      simp only [Nat.zero_add] at this
      rw [lookS_st] at this
      rw [hlk i _ (by omega)]
      exact this
  · have e : (⟨s.nt, (se ops.size).env, stV ops s.st se (cnt (chAt ops) ops.size)⟩ : St) = se ops.size := by
      rw [← hS _ (Nat.le_refl _), ← hnt _ (Nat.le_refl _)]
    rw [e]; exact hQ
  · unfold left
    have : (List.range ops.size).filter (fun j => !(Array.replicate ops.size false).getD j true) = List.range ops.size := by
      rw [List.filter_eq_self]
      intro j hj
      have := List.mem_range.1 hj
      simp [this]
    rw [this, List.length_range]
  · intro i o hi ho e hem hbe
    exfalso
    have := (Array.getElem?_eq_some_iff.1 ho).1
    simp [this] at hi
  · intro j hj _
    simp [hj]
  · intro j t hj _ hl
    simp [hj] at hl
  · intro t _
    exact (hr.slots t).evo ev0
def advT (A : Ar) (tab : List TI) (ops : Array Oper) (D G : List Nat) : List Nat → St → List TRec → List Nat × St × List TRec
  | [], s, rc => ([], s, rc)
  | i :: rest, s, rc => match ops[i]? with
    | some o => match hint ops G (lookS ops i s) o && !stops D o with
      | true => match gd ops (lookS ops i s) o.guard with
        | some true => match ev1 A tab (lookS ops i s) o.op with
          | some (x, st') => match dstOk (lookS ops i s) o.dst with
            | true => advT A tab ops D G rest (putS s o.dst x st') (rc ++ [⟨i, s, x, st'⟩])
            | false => (i :: rest, s, rc)
          | none => (i :: rest, s, rc)
        | some false => match dstOk (lookS ops i s) o.dst with
          | true => advT A tab ops D G rest (putS s o.dst (.tup []) s.st) (rc ++ [⟨i, s, .tup [], s.st⟩])
          | false => (i :: rest, s, rc)
        | none => (i :: rest, s, rc)
      | false => (i :: rest, s, rc)
    | none => (i :: rest, s, rc)
theorem TR.adv {A : Ar} {tab : List TI} (hA : A = real) (hT : TabOk P tab) {D Gh : List Nat} {Q : St → List TRec → Prop} : ∀ (l : List Nat) (s : St) (rc : List TRec), TR r P ops (advT A tab ops D Gh l s rc).1 (advT A tab ops D Gh l s rc).2.1 (advT A tab ops D Gh l s rc).2.2 Q → TR r P ops l s rc Q
  | [], s, rc, h => h
  | i :: rest, s, rc, h => by
    simp only [advT] at h
    cases ho : ops[i]? with
    | none => simp only [ho] at h; exact h
    | some o =>
      simp only [ho] at h
      have hdo : dstOf ops i = o.dst := by simp [dstOf, ho]
      cases hh : (hint ops Gh (lookS ops i s) o && !stops D o) with
      | false => simp only [hh] at h; exact h
      | true =>
        simp only [hh] at h
        cases hg : gd ops (lookS ops i s) o.guard with
        | none => simp only [hg] at h; exact h
        | some b =>
          cases b with
          | true =>
            simp only [hg] at h
            cases he : ev1 A tab (lookS ops i s) o.op with
            | none => simp only [he] at h; exact h
            | some p =>
              obtain ⟨x, st'⟩ := p
              simp only [he] at h
              cases hd : dstOk (lookS ops i s) o.dst with
              | false => simp only [hd] at h; exact h
              | true =>
                simp only [hd] at h
                refine ⟨x, st', fun rest' Q' k => ?_, by rw [hdo]; exact TR.adv hA hT rest _ _ h⟩
                rw [hdo] at k
                exact AOL.step ho hg hd (ev1_nd he) (ev1_mem hA hT he) k
          | false =>
            simp only [hg] at h
            cases hd : dstOk (lookS ops i s) o.dst with
            | false => simp only [hd] at h; exact h
            | true =>
              simp only [hd] at h
              refine ⟨.tup [], s.st, fun rest' Q' k => ?_, by rw [hdo]; exact TR.adv hA hT rest _ _ h⟩
              refine AOL.skip ho hg hd ?_
              rw [hdo] at k
              rw [lookS_st]
              exact k
def tnxt (A : Ar) (tab : List TI) (ops : Array Oper) (D G : List Nat) (l : List Nat) (s : St) (rc : List TRec) : List Nat × St × List TRec × Ev := match advT A tab ops D G l s rc with
  | (l', s', rc') => (l', s', rc', qevOf D G ops l' s')
def TRg (D G : List Nat) (r : Option Nat) (P : Program) (ops : Array Oper) (l : List Nat) (s : St) (rc : List TRec) (Q : St → List TRec → Prop) : Prop := TR r P ops l s rc Q
def TX (D G : List Nat) (r : Option Nat) (P : Program) (ops : Array Oper) (l : List Nat) (s : St) (rc : List TRec) (Q : St → List TRec → Prop) (ev : Ev) : Prop := qevOf D G ops l s = ev → TR r P ops l s rc Q
variable {D Gh : List Nat} {Q : St → List TRec → Prop}
theorem TRg.nx {A : Ar} {tab : List TI} (hA : A = real) (hT : TabOk P tab) {l l' : List Nat} {s s' : St} {rc rc' : List TRec} {ev : Ev} (h : tnxt A tab ops D Gh l s rc = (l', s', rc', ev)) (k : TX D Gh r P ops l' s' rc' Q ev) : TRg D Gh r P ops l s rc Q := by
  simp only [tnxt, Prod.mk.injEq] at h
  obtain ⟨h1, h2, h3, h4⟩ := h
  refine TR.adv hA hT (D := D) (Gh := Gh) l s rc ?_
  rw [h1, h2, h3]
  rw [h1, h2] at h4
  exact k h4
theorem TRg.pass {l : List Nat} {s : St} {rc : List TRec} (k : TRg D Gh r P ops l s rc Q) : TRg D Gh r P ops l s rc Q := k
theorem TX.done {s : St} {rc : List TRec} (h : Q s rc) : TX D Gh r P ops [] s rc Q .done := fun _ => h
theorem TX.gt {j : Nat} {l : List Nat} {s : St} {rc : List TRec} (k : TRg D (j :: Gh) r P ops l s rc Q) : TX D Gh r P ops l s rc Q (.guard j true) := fun _ => k
theorem TX.gf {j : Nat} {l : List Nat} {s : St} {rc : List TRec} (k : TRg D (j :: Gh) r P ops l s rc Q) : TX D Gh r P ops l s rc Q (.guard j false) := fun _ => k
theorem TX.gs {j : Nat} {b : Bool} {l : List Nat} {s : St} {rc : List TRec} (h1 : b = true → TRg D (j :: Gh) r P ops l s rc Q) (h2 : b = false → TRg D (j :: Gh) r P ops l s rc Q) : TX D Gh r P ops l s rc Q (.guard j b) := fun _ => by
  cases b with
  | true => exact h1 rfl
  | false => exact h2 rfl
theorem TX.one {ev : Ev} {i : Nat} {rest : List Nat} {s : St} {rc : List TRec} {x : AV} {st' : List AObj} (h : One r P ops i (lookS ops i s) x st') (k : TRg D Gh r P ops rest (putS s (dstOf ops i) x st') (rc ++ [⟨i, s, x, st'⟩]) Q) : TX D Gh r P ops (i :: rest) s rc Q ev := fun _ => ⟨x, st', h, k⟩
theorem TX.call {i : Nat} {rest : List Nat} {s : St} {rc : List TRec} {f : FuncId} {p : List PV} {y : PV} (hc : PureCalls P f p y) (k : TRg D Gh r P ops rest (putS s (dstOf ops i) y.av s.st) (rc ++ [⟨i, s, y.av, s.st⟩]) Q) : TX D Gh r P ops (i :: rest) s rc Q (.call f p) := fun h => by
  obtain ⟨op, h1, h2⟩ := evOf_op (l := rest) (i := i) h (by simp) (by simp) (by simp)
  obtain ⟨x, args, ts, first, cap, rfl, h3, h4⟩ := opEv_call h2
  have := One.call (r := r) false h1 h3 h4 hc rfl
  rw [lookS_st] at this
  exact ⟨_, _, this, k⟩
theorem TX.callO {i : Nat} {rest : List Nat} {s : St} {rc : List TRec} {own : Bool} {f : FuncId} {p : List PV} {q : List (Nat × Nat)} {y : PV} (hc : PureCalls P f p y) (hq : allEq q) (hn : (!own || noSl y) = true) (k : TRg D Gh r P ops rest (putS s (dstOf ops i) y.av s.st) (rc ++ [⟨i, s, y.av, s.st⟩]) Q) : TX D Gh r P ops (i :: rest) s rc Q (.callO own f p q) := fun h => by
  obtain ⟨op, h1, h2⟩ := evOf_op (l := rest) (i := i) h (by simp) (by simp) (by simp)
  obtain ⟨x, args, ts, first, cap, rfl, h3, h4⟩ := opEv_callO h2
  have := One.callO (r := r) own h1 h3 h4 hc hn hq
  rw [lookS_st] at this
  exact ⟨_, _, this, k⟩
theorem TX.raw {ev : Ev} {l : List Nat} {s : St} {rc : List TRec} (h : TR r P ops l s rc Q) : TX D Gh r P ops l s rc Q ev := fun _ => h
theorem TX.k (n : Nat) {l : List Nat} {s : St} {rc : List TRec} (h : TX D Gh r P ops l s rc Q (.one n)) : TX D Gh r P ops l s rc Q (.one n) := h
theorem TX.kC {f : FuncId} {p : List PV} {l : List Nat} {s : St} {rc : List TRec} (h : TX D Gh r P ops l s rc Q (.call f p)) : TX D Gh r P ops l s rc Q (.call f p) := h
theorem TX.kO {own : Bool} {f : FuncId} {p : List PV} {q : List (Nat × Nat)} {l : List Nat} {s : St} {rc : List TRec} (h : TX D Gh r P ops l s rc Q (.callO own f p q)) : TX D Gh r P ops l s rc Q (.callO own f p q) := h
def Fin3 (r : Option Nat) (P : Program) (ops : Array Oper) (l : List (Nat × St × AV)) (sq : Prop) (K : Prop) : Prop := sq ∧ AllO r P ops l ∧ K
theorem AWp.drawVG (D : List Nat) {id : Nat} {s : St} {Q : Exit → St → Prop} {l : List Nat} (hm : P.follows .mixedOrders = true) (hb : drawVB ops = true) (hl : List.range ops.size = l)
    (h : TRg D [] r P ops l s [] fun T rc => Fin3 r P ops (obl ops (masks ops.toList []) (chs ops) (vers ops s.st rc) rc) (SameQ ops rc) (Q .normal T)) : AWp r P (.region id ops true) s Q := AWp.drawV hm hb hl h
theorem Fin3.of {l l' : List (Nat × St × AV)} {sq K : Prop} (e : l = l') (h1 : sq) (h2 : AllO r P ops l') (h3 : K) : Fin3 r P ops l sq K := ⟨h1, e ▸ h2, h3⟩
theorem AllO.nil : AllO r P ops [] := trivial
theorem AllO.cons {i : Nat} {s : St} {x : AV} {l : List (Nat × St × AV)} (h : One r P ops i s x s.st) (k : AllO r P ops l) : AllO r P ops ((i, s, x) :: l) := ⟨h, k⟩
theorem AllO.consX {i : Nat} {s : St} {x x' : AV} {st' : List AObj} {l : List (Nat × St × AV)} (h : One r P ops i s x' st') (e : x' = x) (e2 : st' = s.st) (k : AllO r P ops l) : AllO r P ops ((i, s, x) :: l) := by
  subst e e2
  exact ⟨h, k⟩
theorem AllO.pass {l : List (Nat × St × AV)} (k : AllO r P ops l) : AllO r P ops l := k
theorem AllO.call {i : Nat} {s : St} {x : AV} {l : List (Nat × St × AV)} {f : FuncId} {p : List PV} {y : PV} (h : callAt ops i s = some (f, p)) (hc : PureCalls P f p y) (e : y.av = x) (k : AllO r P ops l) : AllO r P ops ((i, s, x) :: l) := by
  subst e
  exact ⟨One.callF h hc, k⟩
def skipAt (ops : Array Oper) (i : Nat) (s : St) : Bool := match ops[i]? with
  | some o => match gd ops s o.guard with
    | some false => dstOk s o.dst
    | _ => false
  | none => false
theorem One.skipB {i : Nat} {s : St} (h : skipAt ops i s = true) : One r P ops i s (.tup []) s.st := fun rest Q k => by
  unfold skipAt at h
  split at h
  · rename_i o ho
    split at h
    · rename_i hg
      have hdo : dstOf ops i = o.dst := by simp [dstOf, ho]
      rw [hdo] at k
      exact AOL.skip ho hg h k
    · simp at h
  · simp at h
end fin
end Go.Proofs.Ytkkjlmcnfoncdaa.Aw.W

namespace Go.Proofs.Ytkkjlmcnfoncdaa.Aw
open Go Go.RowKit
set_option maxRecDepth 10000
attribute [local irreducible] AWp AOL QS One AOLg QSg NX QX TRg TX AllO Fin3
abbrev grP (A : Ar) (R V : List Int) (N : List (Int × Int)) (M : List Int) (P Q : List (List Int)) : PV := .agg [.sl 1 false (hid A (List.map encI R)), .sl 1 false (hid A (List.map encI V)), .sl 2 false (hid A (List.map encN N)), .sl 1 false (hid A (List.map encI M)), .sl 1 false (hid A (List.map (encK A) P)), .sl 1 false (hid A (List.map (encK A) Q))]
def symM (K : List (List Int)) (id : Int) : Int := if 0 ≤ id ∧ id < K.length then (K.getD id.toNat default).getD 1 default else 0
def kindM (K : List (List Int)) (id : Int) : Int := if 0 ≤ id ∧ id < K.length then (K.getD id.toNat default).getD 0 default else -1
theorem key_at {K : List (List Int)} (hK : OkK K) (hl : ∀ x ∈ K, x.length ≤ 1000000) {i : Nat} (hi : i < K.length) : ∃ k s p l, K.getD i default = keyT k s p l ∧ l.length ≤ 1000000 := by
  obtain ⟨k, s, p, l, h⟩ := key_ex (hK.long i hi)
  refine ⟨k, s, p, l, h, ?_⟩
  have hm : K.getD i default ∈ K := by rw [List.getD_eq_getElem?_getD, List.getElem?_eq_getElem hi]; exact List.getElem_mem hi
  have := hl _ hm
  rw [h] at this
  simp [keyT] at this
  omega
theorem num_out {K : List (List Int)} {n : Nat} {id : Int} (h : id < 0 ∨ (K.length : Int) ≤ id) : numM K n id = -1 := by
  unfold numM; rw [if_neg (by omega)]
theorem num_key {K : List (List Int)} {n : Nat} {i : Nat} (hi : i < K.length) {k s p : Int} {l : List Int} (h : K.getD i default = keyT k s p l) : numM K n (i : Int) = if k = 2 ∧ s < n then s else -1 := by
  unfold numM
  rw [Int.toNat_natCast, h]
  simp only [keyT, List.getD_cons_zero, List.getD_cons_succ]
  by_cases hc : k = 2 ∧ s < n
  · rw [if_pos hc, if_pos ⟨⟨by omega, by omega⟩, hc⟩]
  · rw [if_neg hc, if_neg (fun hh => hc hh.2)]
theorem sym_out {K : List (List Int)} {id : Int} (h : id < 0 ∨ (K.length : Int) ≤ id) : symM K id = 0 ∧ kindM K id = -1 := by
  unfold symM kindM; rw [if_neg (by omega), if_neg (by omega)]; exact ⟨rfl, rfl⟩
theorem sym_key {K : List (List Int)} {i : Nat} (hi : i < K.length) {k s p : Int} {l : List Int} (h : K.getD i default = keyT k s p l) : symM K (i : Int) = s ∧ kindM K (i : Int) = k := by
  unfold symM kindM
  rw [Int.toNat_natCast, h, if_pos ⟨by omega, by omega⟩, if_pos ⟨by omega, by omega⟩]
  exact ⟨rfl, rfl⟩
theorem num_sym {K : List (List Int)} {n : Nat} {id : Int} (h : 0 ≤ numM K n id) : symM K id = numM K n id := by
  unfold numM at h ⊢
  split at h
  · rename_i hc
    rw [if_pos hc]
    unfold symM
    rw [if_pos hc.1]
  · omega
variable {A : Ar} (hA : A = real)
include hA
theorem refFind_c (V : List Int) (N : List (Int × Int)) (M ranks : List Int) (hR : RightU V ranks) (z : Int) (h0 : 0 ≤ z) (h1 : z < V.length) (hV : V.length ≤ 1000000) : PureCalls Try.prog 15 [clP A V N M, IP z] (IP (hid A (findU V z))) := by
  refine PureCalls.of Try.func15 rfl (by kernel_rfl) rfl ?_
  try first | refine AOLg.of [] ?_ | refine QSg.of [] ?_
  repeat' (first | (refine AWp.pass ?_; first | refine AWp.seq ?_ | refine AWp.block ?_ | refine AWp.skip ?_ | refine AWp.regG [] Zc ?_ | refine AWp.cond_t rfl ?_ | refine AWp.cond_f rfl ?_ | (refine AWp.cond rfl ?_ ?_ <;> intro hc <;> (try rw [hc]) <;> ((try simp only [zn] at hc) <;> (try simp (disch := omega) only [zz hA, zb, zy, reduceCtorEq, Bool.false_eq_true, Int.reduceLT, Int.reduceLE, Int.reduceNeg] at hc) <;> (try simp only [zw] at hc)) <;> (try (exfalso; omega))) | refine AWp.exit ?_ | refine AWp.ret ⟨.inr rfl, _, RetOk.ev tabOk Zc, ?_⟩) | (refine AOLg.pass ?_; refine AOLg.nx hA tabOk Zc ?_; first | refine NX.done ?_ | refine NX.gt ?_ | refine NX.gf ?_ | (refine NX.gs ?_ ?_ <;> intro hc <;> rw [hc] <;> ((try simp only [zn] at hc) <;> (try simp (disch := omega) only [zz hA, zb, zy, reduceCtorEq, Bool.false_eq_true, Int.reduceLT, Int.reduceLE, Int.reduceNeg] at hc) <;> (try simp only [zw] at hc)) <;> (try (exfalso; omega))) | refine NX.k 1 (NX.one Z1 ?_) | refine NX.k 7 (NX.one Z7 ?_) | refine NX.k 10 (NX.one Z10 ?_) | refine NX.k 14 (NX.one Z14 ?_) | refine NX.k 18 (NX.one Z18 ?_) | refine NX.raw ?_) | refine Thn.exit ?_ | refine Blk.here ?_ | refine Blk.other (by decide) ?_ | refine ⟨.inl rfl, _, RetOk.ev tabOk Zc, ?_⟩ | fail)
  refine AWp.loopU (fun k : Nat => [(1, .ic (.lit (.int .i64 (hid A (iterF V k z))))), (5, .ic (.lit (.int .i64 (hid A (cN k)))))]) (fun _ => _) (fun k => V.length - k) (fun k => k ≤ V.length) 0 (by conv => lhs; cbv) (Nat.zero_le _) (by ((repeat' (first | exact subE.nil | refine subE.cons rfl ?_ | refine subE.int rfl ?_ ?_ | refine subE.bool rfl ?_ ?_ | refine subE.str rfl ?_ ?_ | refine subE.sl rfl ?_ ?_))) <;> simp [hA, real, hid, cN, iterF]) rfl ?_
  intro k hk
  have hr := iter_range hR h0 h1 k
  have hs := iterF_succ V k z
  by_cases hlt : k < V.length
  · generalize hy2 : iterF V (k + 1) z = y2 at *
    generalize iterF V k z = y at *
    try first | refine AOLg.of [] ?_ | refine QSg.of [] ?_
    repeat' (first | (refine AWp.pass ?_; first | refine AWp.seq ?_ | refine AWp.block ?_ | refine AWp.skip ?_ | refine AWp.regG [] Zc ?_ | refine AWp.cond_t rfl ?_ | refine AWp.cond_f rfl ?_ | (refine AWp.cond rfl ?_ ?_ <;> intro hc <;> (try rw [hc]) <;> ((try simp only [zn] at hc) <;> (try simp (disch := omega) only [zz hA, zb, zy, reduceCtorEq, Bool.false_eq_true, Int.reduceLT, Int.reduceLE, Int.reduceNeg] at hc) <;> (try simp only [zw] at hc)) <;> (try (exfalso; omega))) | refine AWp.exit ?_ | refine AWp.ret ⟨.inr rfl, _, RetOk.ev tabOk Zc, ?_⟩) | (refine AOLg.pass ?_; refine AOLg.nx hA tabOk Zc ?_; first | refine NX.done ?_ | refine NX.gt ?_ | refine NX.gf ?_ | (refine NX.gs ?_ ?_ <;> intro hc <;> rw [hc] <;> ((try simp only [zn] at hc) <;> (try simp (disch := omega) only [zz hA, zb, zy, reduceCtorEq, Bool.false_eq_true, Int.reduceLT, Int.reduceLE, Int.reduceNeg] at hc) <;> (try simp only [zw] at hc)) <;> (try (exfalso; omega))) | refine NX.k 1 (NX.one Z1 ?_) | refine NX.k 7 (NX.one Z7 ?_) | refine NX.k 10 (NX.one Z10 ?_) | refine NX.k 14 (NX.one Z14 ?_) | refine NX.k 18 (NX.one Z18 ?_) | refine NX.raw ?_) | refine Thn.exit ?_ | refine Blk.here ?_ | refine Blk.other (by decide) ?_ | refine ⟨.inl rfl, _, RetOk.ev tabOk Zc, ?_⟩ | fail)
    refine ⟨k + 1, ?_, ?_, rfl, rfl, ?_, Zk⟩ <;> (try omega)
    repeat' (first | exact subE.nil | refine subE.cons rfl ?_ | refine subE.int rfl ?_ ?_ | refine subE.bool rfl ?_ ?_ | refine subE.str rfl ?_ ?_ | refine subE.sl rfl ?_ ?_)
    all_goals first | omega | (exact Zd) | (rw [hy2, hs]; simp only [hid_eq hA])
  · have hf : findU V z = iterF V k z := by unfold findU; rw [show V.length = k by omega]
    generalize iterF V k z = y at *
    try first | refine AOLg.of [] ?_ | refine QSg.of [] ?_
    repeat' (first | (refine AWp.pass ?_; first | refine AWp.seq ?_ | refine AWp.block ?_ | refine AWp.skip ?_ | refine AWp.regG [] Zc ?_ | refine AWp.cond_t rfl ?_ | refine AWp.cond_f rfl ?_ | (refine AWp.cond rfl ?_ ?_ <;> intro hc <;> (try rw [hc]) <;> ((try simp only [zn] at hc) <;> (try simp (disch := omega) only [zz hA, zb, zy, reduceCtorEq, Bool.false_eq_true, Int.reduceLT, Int.reduceLE, Int.reduceNeg] at hc) <;> (try simp only [zw] at hc)) <;> (try (exfalso; omega))) | refine AWp.exit ?_ | refine AWp.ret ⟨.inr rfl, _, RetOk.ev tabOk Zc, ?_⟩) | (refine AOLg.pass ?_; refine AOLg.nx hA tabOk Zc ?_; first | refine NX.done ?_ | refine NX.gt ?_ | refine NX.gf ?_ | (refine NX.gs ?_ ?_ <;> intro hc <;> rw [hc] <;> ((try simp only [zn] at hc) <;> (try simp (disch := omega) only [zz hA, zb, zy, reduceCtorEq, Bool.false_eq_true, Int.reduceLT, Int.reduceLE, Int.reduceNeg] at hc) <;> (try simp only [zw] at hc)) <;> (try (exfalso; omega))) | refine NX.k 1 (NX.one Z1 ?_) | refine NX.k 7 (NX.one Z7 ?_) | refine NX.k 10 (NX.one Z10 ?_) | refine NX.k 14 (NX.one Z14 ?_) | refine NX.k 18 (NX.one Z18 ?_) | refine NX.raw ?_) | refine Thn.exit ?_ | refine Blk.here ?_ | refine Blk.other (by decide) ?_ | refine ⟨.inl rfl, _, RetOk.ev tabOk Zc, ?_⟩ | fail)
    refine rPV_then (by conv => lhs; cbv) ?_
    rw [hf]
theorem refAtV_c (K : List (List Int)) (S : List Int) (v : Int) : PureCalls Try.prog 24 [keyedPV A K S, IP v] (IP (hid A (atV K v))) := by
  have h1 : ∀ q : List (List IC), q = hid A (List.map encI (keyV v)) → PureCalls Try.prog 56 [slP A 1 (encK A) K, .c (.sl 1 false q)] (IP (hid A (atV K v))) := by rintro q rfl; exact refAt_c hA K (keyV v)
  refine PureCalls.of Try.func24 rfl (by kernel_rfl) rfl ?_
  try first | refine AOLg.of [] ?_ | refine QSg.of [] ?_
  repeat' (first | (refine AWp.pass ?_; first | refine AWp.seq ?_ | refine AWp.block ?_ | refine AWp.skip ?_ | refine AWp.regG [] Zc ?_ | refine AWp.cond_t rfl ?_ | refine AWp.cond_f rfl ?_ | (refine AWp.cond rfl ?_ ?_ <;> intro hc <;> (try rw [hc]) <;> ((try simp only [zn] at hc) <;> (try simp (disch := omega) only [zz hA, zb, zy, reduceCtorEq, Bool.false_eq_true, Int.reduceLT, Int.reduceLE, Int.reduceNeg] at hc) <;> (try simp only [zw] at hc)) <;> (try (exfalso; omega))) | refine AWp.exit ?_ | refine AWp.ret ⟨.inr rfl, _, RetOk.ev tabOk Zc, ?_⟩) | (refine AOLg.pass ?_; refine AOLg.nx hA tabOk Zc ?_; first | refine NX.done ?_ | refine NX.gt ?_ | refine NX.gf ?_ | (refine NX.gs ?_ ?_ <;> intro hc <;> rw [hc] <;> ((try simp only [zn] at hc) <;> (try simp (disch := omega) only [zz hA, zb, zy, reduceCtorEq, Bool.false_eq_true, Int.reduceLT, Int.reduceLE, Int.reduceNeg] at hc) <;> (try simp only [zw] at hc)) <;> (try (exfalso; omega))) | (refine NX.kC ?_; first | (with_reducible refine NX.call (h1 _ (by simp only [hid_eq hA]; rfl)) ?_) | ((first | refine NX.call (h1 _ (by simp only [hid_eq hA]; rfl)) ?_)) | fail) | (refine NX.kO ?_; (first | refine NX.callO (h1 _ (by simp only [hid_eq hA]; rfl)) (by simp [allEq]) rfl ?_)) | refine NX.k 14 (NX.one Z14 ?_) | refine NX.k 17 (NX.one Z17 ?_) | refine NX.k 18 (NX.one Z18 ?_) | refine NX.raw ?_) | refine Thn.exit ?_ | refine Blk.here ?_ | refine Blk.other (by decide) ?_ | refine ⟨.inl rfl, _, RetOk.ev tabOk Zc, ?_⟩ | fail)
  refine rPV_then (by conv => lhs; cbv) ?_
  rfl
theorem refNumber_c (K : List (List Int)) (S : List Int) (hK : OkK K) (hl : ∀ x ∈ K, x.length ≤ 1000000) (R V : List Int) (N : List (Int × Int)) (M : List Int) (P Q : List (List Int)) (id : Int) :
    PureCalls Try.prog 14 [keyedPV A K S, grP A R V N M P Q, IP id] (IP (hid A (numM K V.length id))) := by
  refine PureCalls.of Try.func14 rfl (by kernel_rfl) rfl ?_
  by_cases hi : id < 0 ∨ (K.length : Int) ≤ id
  · have hof := refOf_c0 hA K S id hi
    have hn := num_out (n := V.length) hi
    generalize numM K V.length id = m at *
    try first | refine AOLg.of [] ?_ | refine QSg.of [] ?_
    repeat' (first | (refine AWp.pass ?_; first | refine AWp.seq ?_ | refine AWp.block ?_ | refine AWp.skip ?_ | refine AWp.regG [] Zc ?_ | refine AWp.cond_t rfl ?_ | refine AWp.cond_f rfl ?_ | (refine AWp.cond rfl ?_ ?_ <;> intro hc <;> (try rw [hc]) <;> ((try simp only [zn] at hc) <;> (try simp (disch := omega) only [zz hA, zb, zy, reduceCtorEq, Bool.false_eq_true, Int.reduceLT, Int.reduceLE, Int.reduceNeg] at hc) <;> (try simp only [zw] at hc)) <;> (try (exfalso; omega))) | refine AWp.exit ?_ | refine AWp.ret ⟨.inr rfl, _, RetOk.ev tabOk Zc, ?_⟩) | (refine AOLg.pass ?_; refine AOLg.nx hA tabOk Zc ?_; first | refine NX.done ?_ | refine NX.gt ?_ | refine NX.gf ?_ | (refine NX.gs ?_ ?_ <;> intro hc <;> rw [hc] <;> ((try simp only [zn] at hc) <;> (try simp (disch := omega) only [zz hA, zb, zy, reduceCtorEq, Bool.false_eq_true, Int.reduceLT, Int.reduceLE, Int.reduceNeg] at hc) <;> (try simp only [zw] at hc)) <;> (try (exfalso; omega))) | (refine NX.kC ?_; first | (with_reducible refine NX.call (hof) ?_) | ((first | refine NX.call (hof) ?_)) | fail) | (refine NX.kO ?_; (first | refine NX.callO (hof) (by simp [allEq]) rfl ?_)) | refine NX.k 9 (NX.one Z9 ?_) | refine NX.k 10 (NX.one Z10 ?_) | refine NX.k 14 (NX.one Z14 ?_) | refine NX.k 15 (NX.one Z15 ?_) | refine NX.k 18 (NX.one Z18 ?_) | refine NX.raw ?_) | refine Thn.exit ?_ | refine Blk.here ?_ | refine Blk.other (by decide) ?_ | refine ⟨.inl rfl, _, RetOk.ev tabOk Zc, ?_⟩ | fail)
    all_goals first | (exfalso; omega) | (refine rPV_then (by conv => lhs; cbv) ?_; rw [hn, hid_eq hA]) | (refine rPV_then (by conv => lhs; cbv) ?_; rw [hn, hid_eq hA]; rfl)
  · obtain ⟨i, rfl⟩ : ∃ i : Nat, id = i := ⟨id.toNat, by omega⟩
    have hil : i < K.length := by omega
    obtain ⟨k, s, p, l, hk, hll⟩ := key_at hK hl hil
    have hof := refOf_c1 hA K S i k s p l hil hk hll
    have hn := num_key (n := V.length) hil hk
    generalize numM K V.length (i : Int) = m at *
    obtain ⟨z, hz⟩ : ∃ z : Int, z = (i : Int) := ⟨_, rfl⟩
    rw [← hz]
    have hof := hof z hz
    clear hk
    by_cases hc2 : k = 2 ∧ s < V.length
    · rw [if_pos hc2] at hn
      try first | refine AOLg.of [] ?_ | refine QSg.of [] ?_
      repeat' (first | (refine AWp.pass ?_; first | refine AWp.seq ?_ | refine AWp.block ?_ | refine AWp.skip ?_ | refine AWp.regG [] Zc ?_ | refine AWp.cond_t rfl ?_ | refine AWp.cond_f rfl ?_ | (refine AWp.cond rfl ?_ ?_ <;> intro hc <;> (try rw [hc]) <;> ((try simp only [zn] at hc) <;> (try simp (disch := omega) only [zz hA, zb, zy, reduceCtorEq, Bool.false_eq_true, Int.reduceLT, Int.reduceLE, Int.reduceNeg] at hc) <;> (try simp only [zw] at hc)) <;> (try (exfalso; omega))) | refine AWp.exit ?_ | refine AWp.ret ⟨.inr rfl, _, RetOk.ev tabOk Zc, ?_⟩) | (refine AOLg.pass ?_; refine AOLg.nx hA tabOk Zc ?_; first | refine NX.done ?_ | refine NX.gt ?_ | refine NX.gf ?_ | (refine NX.gs ?_ ?_ <;> intro hc <;> rw [hc] <;> ((try simp only [zn] at hc) <;> (try simp (disch := omega) only [zz hA, zb, zy, reduceCtorEq, Bool.false_eq_true, Int.reduceLT, Int.reduceLE, Int.reduceNeg] at hc) <;> (try simp only [zw] at hc)) <;> (try (exfalso; omega))) | (refine NX.kC ?_; first | (with_reducible refine NX.call (hof) ?_) | ((first | refine NX.call (hof) ?_)) | fail) | (refine NX.kO ?_; (first | refine NX.callO (hof) (by simp [allEq]) rfl ?_)) | refine NX.k 9 (NX.one Z9 ?_) | refine NX.k 10 (NX.one Z10 ?_) | refine NX.k 14 (NX.one Z14 ?_) | refine NX.k 15 (NX.one Z15 ?_) | refine NX.k 18 (NX.one Z18 ?_) | refine NX.raw ?_) | refine Thn.exit ?_ | refine Blk.here ?_ | refine Blk.other (by decide) ?_ | refine ⟨.inl rfl, _, RetOk.ev tabOk Zc, ?_⟩ | fail)
      all_goals first | (exfalso; omega) | (refine rPV_then (by conv => lhs; cbv) ?_; rw [hn, hid_eq hA]) | (refine rPV_then (by conv => lhs; cbv) ?_; rw [hn, hid_eq hA]; rfl)
    · rw [if_neg hc2] at hn
      try first | refine AOLg.of [] ?_ | refine QSg.of [] ?_
      repeat' (first | (refine AWp.pass ?_; first | refine AWp.seq ?_ | refine AWp.block ?_ | refine AWp.skip ?_ | refine AWp.regG [] Zc ?_ | refine AWp.cond_t rfl ?_ | refine AWp.cond_f rfl ?_ | (refine AWp.cond rfl ?_ ?_ <;> intro hc <;> (try rw [hc]) <;> ((try simp only [zn] at hc) <;> (try simp (disch := omega) only [zz hA, zb, zy, reduceCtorEq, Bool.false_eq_true, Int.reduceLT, Int.reduceLE, Int.reduceNeg] at hc) <;> (try simp only [zw] at hc)) <;> (try (exfalso; omega))) | refine AWp.exit ?_ | refine AWp.ret ⟨.inr rfl, _, RetOk.ev tabOk Zc, ?_⟩) | (refine AOLg.pass ?_; refine AOLg.nx hA tabOk Zc ?_; first | refine NX.done ?_ | refine NX.gt ?_ | refine NX.gf ?_ | (refine NX.gs ?_ ?_ <;> intro hc <;> rw [hc] <;> ((try simp only [zn] at hc) <;> (try simp (disch := omega) only [zz hA, zb, zy, reduceCtorEq, Bool.false_eq_true, Int.reduceLT, Int.reduceLE, Int.reduceNeg] at hc) <;> (try simp only [zw] at hc)) <;> (try (exfalso; omega))) | (refine NX.kC ?_; first | (with_reducible refine NX.call (hof) ?_) | ((first | refine NX.call (hof) ?_)) | fail) | (refine NX.kO ?_; (first | refine NX.callO (hof) (by simp [allEq]) rfl ?_)) | refine NX.k 9 (NX.one Z9 ?_) | refine NX.k 10 (NX.one Z10 ?_) | refine NX.k 14 (NX.one Z14 ?_) | refine NX.k 15 (NX.one Z15 ?_) | refine NX.k 18 (NX.one Z18 ?_) | refine NX.raw ?_) | refine Thn.exit ?_ | refine Blk.here ?_ | refine Blk.other (by decide) ?_ | refine ⟨.inl rfl, _, RetOk.ev tabOk Zc, ?_⟩ | fail)
      all_goals first | (exfalso; omega) | (refine rPV_then (by conv => lhs; cbv) ?_; rw [hn, hid_eq hA]) | (refine rPV_then (by conv => lhs; cbv) ?_; rw [hn, hid_eq hA]; rfl)
end Go.Proofs.Ytkkjlmcnfoncdaa.Aw

namespace Go.Proofs.Ytkkjlmcnfoncdaa.Aw
open Go Go.RowKit
theorem SR.newRowV (v0 : Nat) {G : Nat → Prop} {s : St} {g : Ghost} {w w' : World} {a : Act} (hr : Rel G s g w a) (e sz : Nat) (xs : List (List IC)) (v : Value) (cells : List Value) (hg : w.grownBy w' none) (hv : ∀ b, gb v = some b → w.heap.size ≤ b) (ho : w'.ownsRow 0 e sz v xs.length cells)
    (hf : ∀ ok, Flat w' ok sz xs cells) :
    ∃ g', Evo s.st g w (s.st ++ [.row true v0 e sz xs]) g' w' ∧ SR G (s.st ++ [.row true v0 e sz xs]) g' w' ∧ AR G (s.st ++ [.row true v0 e sz xs]) g' w' (.own s.st.length v0) v := by
  have h5 : ∀ b, b < w.heap.size → w'.heap[b]? = w.heap[b]? := fun b hb => hg.block b hb (by simp)
  have k : Evo s.st g w (s.st ++ [.row true v0 e sz xs]) (gput g s.st.length v) w' := .push _ _ hg.os hg.tape hg.output hg.size h5 hv
  have h1 : v.oneCell' = true := by
    rcases ho.2 with ⟨e1, _⟩ | ⟨g0, cap, cur, e1, _⟩ <;> rw [e1] <;> rfl
  refine ⟨_, k, hr.sr.push _ _ k h5 hv ⟨cells, ?_, fun b hb => ?_, hf _⟩, .own _ _ _ (by simp) (fun m v' e' sz' xs' hs => ?_) h1⟩
  · rw [gput_new]; exact ho
  · rw [gput_new] at hb; exact hr.sr.new b (hv b hb)
  · rw [List.getElem?_append_right (Nat.le_refl _)] at hs
    simp only [Nat.sub_self, List.getElem?_cons_zero, Option.some.injEq, AObj.row.injEq] at hs
    obtain ⟨_, rfl, _⟩ := hs
    exact ⟨Nat.le_refl _, fun _ => (gput_new _ _ _).symm⟩
theorem One.nilOwn1 {r : Option Nat} {P : Program} {ops : Array Oper} {i : Nat} {s : St} {tab : List TI} (hT : TabOk P tab) (d : Nat) (t : TypeId) {e : TypeId} {j : TI} (h : opAt ops i s = some (.assign (.const (.slice none 0 0)))) (hd : dstOf ops i = some d) (ht : slT tab t = some (e, j)) :
    One r P ops i s (.own s.st.length 1) (s.st ++ [.row true 1 e j.size []]) := by
  refine One.does h rfl fun o hop => ?_
  intro G g w a hr
  obtain ⟨g', h1, h2, h3⟩ := SR.newRowV 1 (w' := w) hr e j.size [] (.slice none 0 0) [] ⟨rfl, rfl, rfl, Nat.le_refl _, fun _ _ _ => rfl⟩ (by simp [gb]) ⟨by simp, .inl ⟨rfl, rfl⟩⟩ (fun ok => .nil _ _ _)
  exact ⟨.value (.slice none 0 0), .slice none 0 0, g', w, by simp [execOp, hop]; rfl, .inl rfl, h1, h2, h3⟩
inductive ILx : IC → IC → Prop
  | le {x y : IC} (h : ILe x y) : ILx x y
  | ex (sz : Nat) (b : Bool) (xs : List (List IC)) : ILx (.sl sz b xs) (.sl sz false xs)
theorem IR.lx {w : World} {ok : Nat → Prop} {x y : IC} {v : Value} (h : IR w ok x v) (k : ILx x y) : IR w ok y v := by
  cases k with
  | le k => exact h.le k
  | ex sz b xs =>
    cases h with
    | nil _ _ A c hx hc => exact .nil _ _ _ _ (by simp) hc
    | sl _ _ _ b' o c val hb hlc hc hx hok hsz hcell hin => exact .sl _ _ _ b' o c val hb hlc hc (by simp) hok hsz hcell hin
inductive ILxs : List IC → List IC → Prop
  | nil : ILxs [] []
  | cons {x y : IC} {r r' : List IC} (h : ILx x y) (k : ILxs r r') : ILxs (x :: r) (y :: r')
inductive ILxr : List (List IC) → List (List IC) → Prop
  | nil : ILxr [] []
  | cons {x y : List IC} {r r' : List (List IC)} (h : ILxs x y) (k : ILxr r r') : ILxr (x :: r) (y :: r')
theorem ILxs.get {xs ys : List IC} (h : ILxs xs ys) : xs.length = ys.length ∧ ∀ (k : Nat) (y : IC), ys[k]? = some y → ∃ x, xs[k]? = some x ∧ ILx x y := by
  induction h with
  | nil => simp
  | cons h k ih =>
    refine ⟨by simp [ih.1], fun j y hj => ?_⟩
    cases j with
    | zero => simp at hj; subst hj; exact ⟨_, rfl, h⟩
    | succ j => simpa using ih.2 j y (by simpa using hj)
theorem ILxr.get {xs ys : List (List IC)} (h : ILxr xs ys) : xs.length = ys.length ∧ ∀ (k : Nat) (y : List IC), ys[k]? = some y → ∃ x, xs[k]? = some x ∧ ILxs x y := by
  induction h with
  | nil => simp
  | cons h k ih =>
    refine ⟨by simp [ih.1], fun j y hj => ?_⟩
    cases j with
    | zero => simp at hj; subst hj; exact ⟨_, rfl, h⟩
    | succ j => simpa using ih.2 j y (by simpa using hj)
theorem IR.rowsX {w : World} {ok : Nat → Prop} {sz : Nat} {ex : Bool} {xs ys : List (List IC)} {v : Value} (h : IR w ok (.sl sz ex xs) v) (k : ILxr xs ys) : IR w ok (.sl sz ex ys) v := by
  obtain ⟨hl, hg⟩ := k.get
  cases h with
  | nil _ _ A c hx hc =>
    cases k
    exact .nil _ _ _ _ hx hc
  | sl _ _ _ b o c val hb hlc hc hx hok hsz hcell hin =>
    rw [hl]
    refine .sl _ _ _ b o c val hb (by omega) hc (by rw [← hl]; exact hx) hok (fun j r hj => ?_) (fun j r i y hj hi => ?_) (fun j r i y hj hi => ?_)
    · obtain ⟨x, h1, h2⟩ := hg j r hj
      rw [← h2.get.1]; exact hsz j x h1
    · obtain ⟨x, h1, h2⟩ := hg j r hj
      obtain ⟨u, h3, h4⟩ := h2.get.2 i y hi
      exact hcell j x i u h1 h3
    · obtain ⟨x, h1, h2⟩ := hg j r hj
      obtain ⟨u, h3, h4⟩ := h2.get.2 i y hi
      exact (hin j x i u h1 h3).lx h4
theorem One.weakX {r : Option Nat} {P : Program} {ops : Array Oper} {i : Nat} {s : St} {sz : Nat} {ex : Bool} {xs ys : List (List IC)} {st : List AObj} (h : One r P ops i s (.ic (.sl sz ex xs)) st) (k : ILxr xs ys) : One r P ops i s (.ic (.sl sz ex ys)) st := by
  intro rest Q hq
  refine h rest Q ?_
  generalize dstOf ops i = d at hq
  cases d with
  | none => exact hq
  | some d =>
    intro G g w a QQ hr kk
    refine hq G g w a QQ ⟨fun t => ?_, hr.size, hr.sr⟩ kk
    have ht := hr.slots t
    simp only [putS, St.get, look] at ht ⊢
    cases hb : Nat.beq d t with
    | true =>
      simp only [hb, cond_true] at ht ⊢
      exact .ic _ _ (ht.ic_inv.rowsX k)
    | false =>
      simp only [hb, cond_false] at ht ⊢
      exact ht
end Go.Proofs.Ytkkjlmcnfoncdaa.Aw

namespace Go.Proofs.Ytkkjlmcnfoncdaa.Aw
open Go Go.RowKit
set_option maxRecDepth 10000
attribute [local irreducible] AWp AOL QS One AOLg QSg NX QX TRg TX AllO Fin3
variable {A : Ar} (hA : A = real)
include hA
theorem cloneK_3 (p0 p1 p2 : AObj) (P : List (List Int)) (hl : P.length ≤ 1000000) : ACalls Try.prog 43 [.ic (.sl 1 false (hid A (List.map (encK A) P)))] [p0, p1, p2] (fun x st' => x = .own 3 1 ∧ st' = [p0, p1, p2, .row true 1 24 1 (hid A (List.map (encK A) P))]) := by
  refine ACalls.of Try.func43 rfl (by kernel_rfl) rfl ?_
  try first | refine AOLg.of [] ?_ | refine QSg.of [] ?_
  repeat' (first | (refine AWp.pass ?_; first | refine AWp.seq ?_ | refine AWp.block ?_ | refine AWp.skip ?_ | refine AWp.regG [] Zc ?_ | refine AWp.cond_t rfl ?_ | refine AWp.cond_f rfl ?_ | (refine AWp.cond rfl ?_ ?_ <;> intro hc <;> (try rw [hc]) <;> ((try simp only [zn] at hc) <;> (try simp (disch := omega) only [zz hA, zb, zy, reduceCtorEq, Bool.false_eq_true, Int.reduceLT, Int.reduceLE, Int.reduceNeg] at hc) <;> (try simp only [zw] at hc)) <;> (try (exfalso; omega))) | refine AWp.exit ?_ | refine AWp.ret ⟨.inr rfl, _, RetOk.ev tabOk Zc, ?_⟩) | (refine AOLg.pass ?_; refine AOLg.nx hA tabOk Zc ?_; first | refine NX.done ?_ | refine NX.gt ?_ | refine NX.gf ?_ | (refine NX.gs ?_ ?_ <;> intro hc <;> rw [hc] <;> ((try simp only [zn] at hc) <;> (try simp (disch := omega) only [zz hA, zb, zy, reduceCtorEq, Bool.false_eq_true, Int.reduceLT, Int.reduceLE, Int.reduceNeg] at hc) <;> (try simp only [zw] at hc)) <;> (try (exfalso; omega))) | refine NX.k 8 (NX.one Z8 ?_) | refine NX.k 11 (NX.one Z11 ?_) | refine NX.k 17 (NX.one Z17 ?_) | refine NX.raw ?_) | refine Thn.exit ?_ | refine Blk.here ?_ | refine Blk.other (by decide) ?_ | refine ⟨.inl rfl, _, RetOk.ev tabOk Zc, ?_⟩ | fail)
  refine AOL.eqNil tabOk rfl rfl rfl ?_
  intro b hb
  cases b with
  | true =>
    have hP : P = [] := by have := hb rfl; simpa [hid_eq hA] using this
    subst hP
    try first | refine AOLg.of [2] ?_ | refine QSg.of [2] ?_
    repeat' (first | (refine AWp.pass ?_; first | refine AWp.seq ?_ | refine AWp.block ?_ | refine AWp.skip ?_ | refine AWp.regG [2] Zc ?_ | refine AWp.cond_t rfl ?_ | refine AWp.cond_f rfl ?_ | (refine AWp.cond rfl ?_ ?_ <;> intro hc <;> (try rw [hc]) <;> ((try simp only [zn] at hc) <;> (try simp (disch := omega) only [zz hA, zb, zy, reduceCtorEq, Bool.false_eq_true, Int.reduceLT, Int.reduceLE, Int.reduceNeg] at hc) <;> (try simp only [zw] at hc)) <;> (try (exfalso; omega))) | refine AWp.exit ?_ | refine AWp.ret ⟨.inr rfl, _, RetOk.ev tabOk Zc, ?_⟩) | (refine AOLg.pass ?_; refine AOLg.nx hA tabOk Zc ?_; first | refine NX.done ?_ | refine NX.gt ?_ | refine NX.gf ?_ | (refine NX.gs ?_ ?_ <;> intro hc <;> rw [hc] <;> ((try simp only [zn] at hc) <;> (try simp (disch := omega) only [zz hA, zb, zy, reduceCtorEq, Bool.false_eq_true, Int.reduceLT, Int.reduceLE, Int.reduceNeg] at hc) <;> (try simp only [zw] at hc)) <;> (try (exfalso; omega))) | refine NX.k 8 (NX.one Z8 ?_) | refine NX.k 11 (NX.one Z11 ?_) | refine NX.k 17 (NX.one Z17 ?_) | (refine NX.one (One.nilOwn1 tabOk 2 23 rfl rfl rfl) ?_) | refine NX.raw ?_) | refine Thn.exit ?_ | refine Blk.here ?_ | refine Blk.other (by decide) ?_ | refine ⟨.inl rfl, _, RetOk.ev tabOk Zc, ?_⟩ | fail)
    exact ⟨rfl, by simp [hid_eq hA]⟩
  | false =>
    try first | refine AOLg.of [] ?_ | refine QSg.of [] ?_
    repeat' (first | (refine AWp.pass ?_; first | refine AWp.seq ?_ | refine AWp.block ?_ | refine AWp.skip ?_ | refine AWp.regG [] Zc ?_ | refine AWp.cond_t rfl ?_ | refine AWp.cond_f rfl ?_ | (refine AWp.cond rfl ?_ ?_ <;> intro hc <;> (try rw [hc]) <;> ((try simp only [zn] at hc) <;> (try simp (disch := omega) only [zz hA, zb, zy, reduceCtorEq, Bool.false_eq_true, Int.reduceLT, Int.reduceLE, Int.reduceNeg] at hc) <;> (try simp only [zw] at hc)) <;> (try (exfalso; omega))) | refine AWp.exit ?_ | refine AWp.ret ⟨.inr rfl, _, RetOk.ev tabOk Zc, ?_⟩) | (refine AOLg.pass ?_; refine AOLg.nx hA tabOk Zc ?_; first | refine NX.done ?_ | refine NX.gt ?_ | refine NX.gf ?_ | (refine NX.gs ?_ ?_ <;> intro hc <;> rw [hc] <;> ((try simp only [zn] at hc) <;> (try simp (disch := omega) only [zz hA, zb, zy, reduceCtorEq, Bool.false_eq_true, Int.reduceLT, Int.reduceLE, Int.reduceNeg] at hc) <;> (try simp only [zw] at hc)) <;> (try (exfalso; omega))) | refine NX.k 8 (NX.one Z8 ?_) | refine NX.k 11 (NX.one Z11 ?_) | refine NX.k 17 (NX.one Z17 ?_) | (refine NX.one (One.build0 tabOk rfl rfl) ?_) | (refine NX.one (One.appendOwn0 hA tabOk rfl rfl rfl rfl rfl rfl Zd Zd) ?_) | refine NX.raw ?_) | refine Thn.exit ?_ | refine Blk.here ?_ | refine Blk.other (by decide) ?_ | refine ⟨.inl rfl, _, RetOk.ev tabOk Zc, ?_⟩ | fail)
    exact ⟨rfl, rfl⟩
end Go.Proofs.Ytkkjlmcnfoncdaa.Aw

namespace Go.Proofs.Ytkkjlmcnfoncdaa.Aw
open Go Go.RowKit
set_option maxRecDepth 10000
attribute [local irreducible] AWp AOL QS One AOLg QSg NX QX TRg TX AllO Fin3
attribute [local irreducible] W.TRg W.TX W.AllO W.Fin3
def moreV (V : List Int) : Nat → List Int
  | 0 => V
  | k + 1 => moreV V k ++ [((moreV V k).length : Int)]
def moreN (N : List (Int × Int)) : Nat → List (Int × Int)
  | 0 => N
  | k + 1 => moreN N k ++ [(-1, 0)]
def moreP (P : List (List Int)) : Nat → List (List Int)
  | 0 => P
  | k + 1 => moreP P k ++ [[]]
theorem moreV_len (V : List Int) : ∀ k, (moreV V k).length = V.length + k
  | 0 => rfl
  | k + 1 => by rw [moreV, List.length_append, moreV_len V k]; rfl
theorem moreN_len (N : List (Int × Int)) : ∀ k, (moreN N k).length = N.length + k
  | 0 => rfl
  | k + 1 => by rw [moreN, List.length_append, moreN_len N k]; rfl
theorem moreP_len (P : List (List Int)) : ∀ k, (moreP P k).length = P.length + k
  | 0 => rfl
  | k + 1 => by rw [moreP, List.length_append, moreP_len P k]; rfl
theorem rPV_gr {st : List AObj} {i j v u e e' sz sz' : Nat} {m m' : Bool} {xs ys : List (List IC)} {a b c d : IC} (h2 : st[i]? = some (.row m v e sz xs)) (h3 : st[j]? = some (.row m' u e' sz' ys)) :
    rPV st (.agg [.ic a, .ic b, .ic c, .ic d, .own i v, .own j u]) = some (.agg [a, b, c, d, .sl sz false xs, .sl sz' false ys]) := by
  have g2 := rPV_own (ver := v) h2
  have g3 := rPV_own (ver := u) h3
  simp [rPV, rICs, rIC, toIC, h2, h3] at *
variable {A : Ar} (hA : A = real)
include hA
end Go.Proofs.Ytkkjlmcnfoncdaa.Aw

namespace Go.Proofs.Ytkkjlmcnfoncdaa.Aw
open Go Go.RowKit
set_option maxRecDepth 10000
attribute [local irreducible] AWp AOL QS One AOLg QSg NX QX TRg TX AllO Fin3
structure StK (K : List (List Int)) (S : List Int) : Prop where
  ok : OkK K
  lay : S = layM K
  len : K.length ≤ 900000
  keys : ∀ x ∈ K, x.length ≤ 1000000
variable {A : Ar} (hA : A = real)
include hA
theorem variable_c (K : List (List Int)) (S : List Int) (h : StK K S) (R V : List Int) (N : List (Int × Int)) (M : List Int) (P Q : List (List Int)) (id : Int) :
    PureCalls Try.prog 39 [keyedPV A K S, grP A R V N M P Q, IP id] (.tup [IP (hid A (symM K id)), BP (hid A (decide (0 ≤ numM K V.length id)))]) := by
  refine PureCalls.of Try.func39 rfl (by kernel_rfl) rfl ?_
  by_cases hi : id < 0 ∨ (K.length : Int) ≤ id
  · have hof := tOf_c0 hA K S id hi
    have hn := num_out (n := V.length) hi
    have hs := (sym_out hi).1
    have hd : decide (0 ≤ numM K V.length id) = false := by rw [decide_eq_false_iff_not]; omega
    rw [hd, hs]
    try first | refine AOLg.of [] ?_ | refine QSg.of [] ?_
    repeat' (first | (refine AWp.pass ?_; first | refine AWp.seq ?_ | refine AWp.block ?_ | refine AWp.skip ?_ | refine AWp.regG [] Zc ?_ | refine AWp.cond_t rfl ?_ | refine AWp.cond_f rfl ?_ | (refine AWp.cond rfl ?_ ?_ <;> intro hc <;> (try rw [hc]) <;> ((try simp only [zn] at hc) <;> (try simp (disch := omega) only [zz hA, zb, zy, reduceCtorEq, Bool.false_eq_true, Int.reduceLT, Int.reduceLE, Int.reduceNeg] at hc) <;> (try simp only [zw] at hc)) <;> (try (exfalso; omega))) | refine AWp.exit ?_ | refine AWp.ret ⟨.inr rfl, _, RetOk.ev tabOk Zc, ?_⟩ | refine AWp.drawVG [] rfl (by decide +kernel) Zc ?_) | (refine AOLg.pass ?_; refine AOLg.nx hA tabOk Zc ?_; first | refine NX.done ?_ | refine NX.gt ?_ | refine NX.gf ?_ | (refine NX.gs ?_ ?_ <;> intro hc <;> rw [hc] <;> ((try simp only [zn] at hc) <;> (try simp (disch := omega) only [zz hA, zb, zy, reduceCtorEq, Bool.false_eq_true, Int.reduceLT, Int.reduceLE, Int.reduceNeg] at hc) <;> (try simp only [zw] at hc)) <;> (try (exfalso; omega))) | (refine NX.kC ?_; first | (with_reducible refine NX.call (hof) ?_) | ((first | refine NX.call (hof) ?_)) | fail) | (refine NX.kO ?_; (first | refine NX.callO (hof) (by simp [allEq]) rfl ?_)) | refine NX.k 8 (NX.one Z8 ?_) | refine NX.k 10 (NX.one Z10 ?_) | refine NX.k 14 (NX.one Z14 ?_) | refine NX.k 15 (NX.one Z15 ?_) | refine NX.k 18 (NX.one Z18 ?_) | refine NX.raw ?_) | (refine TRg.pass ?_; refine TRg.nx hA tabOk Zc ?_; first | refine TX.done ?_ | refine TX.gt ?_ | refine TX.gf ?_ | (refine TX.gs ?_ ?_ <;> intro hc <;> rw [hc] <;> ((try simp only [zn] at hc) <;> (try simp (disch := omega) only [zz hA, zb, zy, reduceCtorEq, Bool.false_eq_true, Int.reduceLT, Int.reduceLE, Int.reduceNeg] at hc) <;> (try simp only [zw] at hc)) <;> (try (exfalso; omega))) | (refine TX.kC ?_; first | (with_reducible refine TX.call (hof) ?_) | ((first | refine TX.call (hof) ?_)) | fail) | (refine TX.kO ?_; (first | refine TX.callO (hof) (by simp [allEq]) rfl ?_)) | refine TX.k 8 (TX.one Z8 ?_) | refine TX.k 10 (TX.one Z10 ?_) | refine TX.k 14 (TX.one Z14 ?_) | refine TX.k 15 (TX.one Z15 ?_) | refine TX.k 18 (TX.one Z18 ?_) | refine TX.raw ?_) | refine Fin3.of Zc (by repeat' (first | exact True.intro | exact rfl | refine And.intro ?_ ?_)) ?_ ?_ | (refine AllO.pass ?_; first | exact AllO.nil | (refine AllO.cons (One.ev hA tabOk ?_) ?_ <;> (first | refine AllO.pass ?_ | ((conv => lhs; cbv); done))) | (refine AllO.cons (One.skipB ?_) ?_ <;> (first | refine AllO.pass ?_ | ((conv => lhs; cbv); done))) | ((with_reducible refine AllO.call Zc (hof) ?_ ?_) <;> (first | refine AllO.pass ?_ | exact rfl | exact Zd)) | refine AllO.consX ZX rfl rfl ?_) | refine Thn.exit ?_ | refine Blk.here ?_ | refine Blk.other (by decide) ?_ | refine ⟨.inl rfl, _, RetOk.ev tabOk Zc, ?_⟩ | fail)
    all_goals first | (exfalso; omega) | (refine rPV_then (by conv => lhs; cbv) ?_; simp only [hid_eq hA]; done) | (refine rPV_then (by conv => lhs; cbv) ?_; simp only [hid_eq hA]; rfl) | (refine rPV_then (by conv => lhs; cbv) ?_; simp only [hid_eq hA]; simp [hA, real]; omega)
  · obtain ⟨i, rfl⟩ : ∃ i : Nat, id = i := ⟨id.toNat, by omega⟩
    have hil : i < K.length := by omega
    obtain ⟨k, s, p, l, hk, hll⟩ := key_at h.ok h.keys hil
    have hof := tOf_c1 hA K S i k s p l hil hk hll
    have hn := num_key (n := V.length) hil hk
    have hs := (sym_key hil hk).1
    have hs0 : k = 2 → 0 ≤ s := fun hk2 => by
      have := h.ok.sym i hil (by rw [hk, hk2]; rfl)
      rw [hk] at this; exact this
    have hd : decide (0 ≤ numM K V.length (i : Int)) = decide (k = 2 ∧ s < V.length) := by
      rw [hn]
      by_cases hc : k = 2 ∧ s < V.length
      · rw [if_pos hc, decide_eq_true hc, decide_eq_true (hs0 hc.1)]
      · rw [if_neg hc, decide_eq_false hc]; rfl
    rw [hd, hs]
    obtain ⟨z, hz⟩ : ∃ z : Int, z = (i : Int) := ⟨_, rfl⟩
    rw [← hz]
    have hof := hof z hz
    clear hk hn hs hd hs0
    by_cases hc2 : k = 2 ∧ s < V.length
    · rw [decide_eq_true hc2]
      try first | refine AOLg.of [] ?_ | refine QSg.of [] ?_
      repeat' (first | (refine AWp.pass ?_; first | refine AWp.seq ?_ | refine AWp.block ?_ | refine AWp.skip ?_ | refine AWp.regG [] Zc ?_ | refine AWp.cond_t rfl ?_ | refine AWp.cond_f rfl ?_ | (refine AWp.cond rfl ?_ ?_ <;> intro hc <;> (try rw [hc]) <;> ((try simp only [zn] at hc) <;> (try simp (disch := omega) only [zz hA, zb, zy, reduceCtorEq, Bool.false_eq_true, Int.reduceLT, Int.reduceLE, Int.reduceNeg] at hc) <;> (try simp only [zw] at hc)) <;> (try (exfalso; omega))) | refine AWp.exit ?_ | refine AWp.ret ⟨.inr rfl, _, RetOk.ev tabOk Zc, ?_⟩ | refine AWp.drawVG [] rfl (by decide +kernel) Zc ?_) | (refine AOLg.pass ?_; refine AOLg.nx hA tabOk Zc ?_; first | refine NX.done ?_ | refine NX.gt ?_ | refine NX.gf ?_ | (refine NX.gs ?_ ?_ <;> intro hc <;> rw [hc] <;> ((try simp only [zn] at hc) <;> (try simp (disch := omega) only [zz hA, zb, zy, reduceCtorEq, Bool.false_eq_true, Int.reduceLT, Int.reduceLE, Int.reduceNeg] at hc) <;> (try simp only [zw] at hc)) <;> (try (exfalso; omega))) | (refine NX.kC ?_; first | (with_reducible refine NX.call (hof) ?_) | ((first | refine NX.call (hof) ?_)) | fail) | (refine NX.kO ?_; (first | refine NX.callO (hof) (by simp [allEq]) rfl ?_)) | refine NX.k 8 (NX.one Z8 ?_) | refine NX.k 10 (NX.one Z10 ?_) | refine NX.k 14 (NX.one Z14 ?_) | refine NX.k 15 (NX.one Z15 ?_) | refine NX.k 18 (NX.one Z18 ?_) | refine NX.raw ?_) | (refine TRg.pass ?_; refine TRg.nx hA tabOk Zc ?_; first | refine TX.done ?_ | refine TX.gt ?_ | refine TX.gf ?_ | (refine TX.gs ?_ ?_ <;> intro hc <;> rw [hc] <;> ((try simp only [zn] at hc) <;> (try simp (disch := omega) only [zz hA, zb, zy, reduceCtorEq, Bool.false_eq_true, Int.reduceLT, Int.reduceLE, Int.reduceNeg] at hc) <;> (try simp only [zw] at hc)) <;> (try (exfalso; omega))) | (refine TX.kC ?_; first | (with_reducible refine TX.call (hof) ?_) | ((first | refine TX.call (hof) ?_)) | fail) | (refine TX.kO ?_; (first | refine TX.callO (hof) (by simp [allEq]) rfl ?_)) | refine TX.k 8 (TX.one Z8 ?_) | refine TX.k 10 (TX.one Z10 ?_) | refine TX.k 14 (TX.one Z14 ?_) | refine TX.k 15 (TX.one Z15 ?_) | refine TX.k 18 (TX.one Z18 ?_) | refine TX.raw ?_) | refine Fin3.of Zc (by repeat' (first | exact True.intro | exact rfl | refine And.intro ?_ ?_)) ?_ ?_ | (refine AllO.pass ?_; first | exact AllO.nil | (refine AllO.cons (One.ev hA tabOk ?_) ?_ <;> (first | refine AllO.pass ?_ | ((conv => lhs; cbv); done))) | (refine AllO.cons (One.skipB ?_) ?_ <;> (first | refine AllO.pass ?_ | ((conv => lhs; cbv); done))) | ((with_reducible refine AllO.call Zc (hof) ?_ ?_) <;> (first | refine AllO.pass ?_ | exact rfl | exact Zd)) | refine AllO.consX ZX rfl rfl ?_) | refine Thn.exit ?_ | refine Blk.here ?_ | refine Blk.other (by decide) ?_ | refine ⟨.inl rfl, _, RetOk.ev tabOk Zc, ?_⟩ | fail)
      all_goals first | (exfalso; omega) | (refine rPV_then (by conv => lhs; cbv) ?_; simp only [hid_eq hA]; done) | (refine rPV_then (by conv => lhs; cbv) ?_; simp only [hid_eq hA]; rfl) | (refine rPV_then (by conv => lhs; cbv) ?_; simp only [hid_eq hA]; simp [hA, real]; omega)
    · rw [decide_eq_false hc2]
      try first | refine AOLg.of [] ?_ | refine QSg.of [] ?_
      repeat' (first | (refine AWp.pass ?_; first | refine AWp.seq ?_ | refine AWp.block ?_ | refine AWp.skip ?_ | refine AWp.regG [] Zc ?_ | refine AWp.cond_t rfl ?_ | refine AWp.cond_f rfl ?_ | (refine AWp.cond rfl ?_ ?_ <;> intro hc <;> (try rw [hc]) <;> ((try simp only [zn] at hc) <;> (try simp (disch := omega) only [zz hA, zb, zy, reduceCtorEq, Bool.false_eq_true, Int.reduceLT, Int.reduceLE, Int.reduceNeg] at hc) <;> (try simp only [zw] at hc)) <;> (try (exfalso; omega))) | refine AWp.exit ?_ | refine AWp.ret ⟨.inr rfl, _, RetOk.ev tabOk Zc, ?_⟩ | refine AWp.drawVG [] rfl (by decide +kernel) Zc ?_) | (refine AOLg.pass ?_; refine AOLg.nx hA tabOk Zc ?_; first | refine NX.done ?_ | refine NX.gt ?_ | refine NX.gf ?_ | (refine NX.gs ?_ ?_ <;> intro hc <;> rw [hc] <;> ((try simp only [zn] at hc) <;> (try simp (disch := omega) only [zz hA, zb, zy, reduceCtorEq, Bool.false_eq_true, Int.reduceLT, Int.reduceLE, Int.reduceNeg] at hc) <;> (try simp only [zw] at hc)) <;> (try (exfalso; omega))) | (refine NX.kC ?_; first | (with_reducible refine NX.call (hof) ?_) | ((first | refine NX.call (hof) ?_)) | fail) | (refine NX.kO ?_; (first | refine NX.callO (hof) (by simp [allEq]) rfl ?_)) | refine NX.k 8 (NX.one Z8 ?_) | refine NX.k 10 (NX.one Z10 ?_) | refine NX.k 14 (NX.one Z14 ?_) | refine NX.k 15 (NX.one Z15 ?_) | refine NX.k 18 (NX.one Z18 ?_) | refine NX.raw ?_) | (refine TRg.pass ?_; refine TRg.nx hA tabOk Zc ?_; first | refine TX.done ?_ | refine TX.gt ?_ | refine TX.gf ?_ | (refine TX.gs ?_ ?_ <;> intro hc <;> rw [hc] <;> ((try simp only [zn] at hc) <;> (try simp (disch := omega) only [zz hA, zb, zy, reduceCtorEq, Bool.false_eq_true, Int.reduceLT, Int.reduceLE, Int.reduceNeg] at hc) <;> (try simp only [zw] at hc)) <;> (try (exfalso; omega))) | (refine TX.kC ?_; first | (with_reducible refine TX.call (hof) ?_) | ((first | refine TX.call (hof) ?_)) | fail) | (refine TX.kO ?_; (first | refine TX.callO (hof) (by simp [allEq]) rfl ?_)) | refine TX.k 8 (TX.one Z8 ?_) | refine TX.k 10 (TX.one Z10 ?_) | refine TX.k 14 (TX.one Z14 ?_) | refine TX.k 15 (TX.one Z15 ?_) | refine TX.k 18 (TX.one Z18 ?_) | refine TX.raw ?_) | refine Fin3.of Zc (by repeat' (first | exact True.intro | exact rfl | refine And.intro ?_ ?_)) ?_ ?_ | (refine AllO.pass ?_; first | exact AllO.nil | (refine AllO.cons (One.ev hA tabOk ?_) ?_ <;> (first | refine AllO.pass ?_ | ((conv => lhs; cbv); done))) | (refine AllO.cons (One.skipB ?_) ?_ <;> (first | refine AllO.pass ?_ | ((conv => lhs; cbv); done))) | ((with_reducible refine AllO.call Zc (hof) ?_ ?_) <;> (first | refine AllO.pass ?_ | exact rfl | exact Zd)) | refine AllO.consX ZX rfl rfl ?_) | refine Thn.exit ?_ | refine Blk.here ?_ | refine Blk.other (by decide) ?_ | refine ⟨.inl rfl, _, RetOk.ev tabOk Zc, ?_⟩ | fail)
      all_goals first | (exfalso; omega) | (refine rPV_then (by conv => lhs; cbv) ?_; simp only [hid_eq hA]; done) | (refine rPV_then (by conv => lhs; cbv) ?_; simp only [hid_eq hA]; rfl) | (refine rPV_then (by conv => lhs; cbv) ?_; simp only [hid_eq hA]; simp [hA, real]; omega)
theorem at_c (K : List (List Int)) (S : List Int) (h : StK K S) (v : Int) : PureCalls Try.prog 40 [keyedPV A K S, IP v] (IP (hid A (atV K v))) := by
  have hb := sizeM_bound K.length
  have hl := layM_len K
  have hlen := h.len
  have hf := find_c hA K S (keyV v) (by omega) (by rw [h.lay]; exact layM_vals K) (by rw [h.lay]; omega) (by simp [keyV])
  rw [h.lay, find_at K h.ok.nodup, ← h.lay] at hf
  have hk : ∀ q : List (List IC), q = hid A (List.map encI []) → PureCalls Try.prog 81 [.agg [.lit (.int .i64 2), .lit (.int .i64 v), .lit (.int .i64 0), .sl 1 false q]] (intsP A (keyV v)) := by rintro q rfl; exact key_c hA 2 v 0 [] (by simp)
  refine PureCalls.of Try.func40 rfl (by kernel_rfl) rfl ?_
  try first | refine AOLg.of [] ?_ | refine QSg.of [] ?_
  repeat' (first | (refine AWp.pass ?_; first | refine AWp.seq ?_ | refine AWp.block ?_ | refine AWp.skip ?_ | refine AWp.regG [] Zc ?_ | refine AWp.cond_t rfl ?_ | refine AWp.cond_f rfl ?_ | (refine AWp.cond rfl ?_ ?_ <;> intro hc <;> (try rw [hc]) <;> ((try simp only [zn] at hc) <;> (try simp (disch := omega) only [zz hA, zb, zy, reduceCtorEq, Bool.false_eq_true, Int.reduceLT, Int.reduceLE, Int.reduceNeg] at hc) <;> (try simp only [zw] at hc)) <;> (try (exfalso; omega))) | refine AWp.exit ?_ | refine AWp.ret ⟨.inr rfl, _, RetOk.ev tabOk Zc, ?_⟩ | refine AWp.drawVG [] rfl (by decide +kernel) Zc ?_) | (refine AOLg.pass ?_; refine AOLg.nx hA tabOk Zc ?_; first | refine NX.done ?_ | refine NX.gt ?_ | refine NX.gf ?_ | (refine NX.gs ?_ ?_ <;> intro hc <;> rw [hc] <;> ((try simp only [zn] at hc) <;> (try simp (disch := omega) only [zz hA, zb, zy, reduceCtorEq, Bool.false_eq_true, Int.reduceLT, Int.reduceLE, Int.reduceNeg] at hc) <;> (try simp only [zw] at hc)) <;> (try (exfalso; omega))) | (refine NX.kC ?_; first | (with_reducible refine NX.call (key_c hA 2 v 0 [] (by simp)) ?_) | (with_reducible refine NX.call (hf) ?_) | (refine NX.call (PureCalls.weaken (key_c hA 2 v 0 [] (by simp)) ?_) ?_ <;> (first | refine AOLg.pass ?_ | ((with_reducible repeat' (first | exact PLes.nil | exact ILes.nil | refine PLes.cons (PLe.refl _) ?_ | refine PLes.cons (PLe.c (ILe.nilM hA _ _ _ _)) ?_ | refine PLes.cons (PLe.agg ?_) ?_ | refine ILes.cons (ILe.refl _) ?_ | refine ILes.cons (ILe.nilM hA _ _ _ _) ?_)); done) | exact Zd)) | ((first | refine NX.call (key_c hA 2 v 0 [] (by simp)) ?_ | refine NX.call (hf) ?_)) | fail) | (refine NX.kO ?_; (first | refine NX.callO (key_c hA 2 v 0 [] (by simp)) (by simp [allEq]) rfl ?_ | refine NX.callO (hf) (by simp [allEq]) rfl ?_)) | refine NX.k 14 (NX.one Z14 ?_) | refine NX.raw ?_) | (refine TRg.pass ?_; refine TRg.nx hA tabOk Zc ?_; first | refine TX.done ?_ | refine TX.gt ?_ | refine TX.gf ?_ | (refine TX.gs ?_ ?_ <;> intro hc <;> rw [hc] <;> ((try simp only [zn] at hc) <;> (try simp (disch := omega) only [zz hA, zb, zy, reduceCtorEq, Bool.false_eq_true, Int.reduceLT, Int.reduceLE, Int.reduceNeg] at hc) <;> (try simp only [zw] at hc)) <;> (try (exfalso; omega))) | (refine TX.kC ?_; first | (with_reducible refine TX.call (key_c hA 2 v 0 [] (by simp)) ?_) | (with_reducible refine TX.call (hf) ?_) | (refine TX.call (PureCalls.weaken (key_c hA 2 v 0 [] (by simp)) ?_) ?_ <;> (first | refine TRg.pass ?_ | ((with_reducible repeat' (first | exact PLes.nil | exact ILes.nil | refine PLes.cons (PLe.refl _) ?_ | refine PLes.cons (PLe.c (ILe.nilM hA _ _ _ _)) ?_ | refine PLes.cons (PLe.agg ?_) ?_ | refine ILes.cons (ILe.refl _) ?_ | refine ILes.cons (ILe.nilM hA _ _ _ _) ?_)); done) | exact Zd)) | ((first | refine TX.call (key_c hA 2 v 0 [] (by simp)) ?_ | refine TX.call (hf) ?_)) | fail) | (refine TX.kO ?_; (first | refine TX.callO (key_c hA 2 v 0 [] (by simp)) (by simp [allEq]) rfl ?_ | refine TX.callO (hf) (by simp [allEq]) rfl ?_)) | refine TX.k 14 (TX.one Z14 ?_) | refine TX.raw ?_) | refine Fin3.of Zc (by repeat' (first | exact True.intro | exact rfl | refine And.intro ?_ ?_)) ?_ ?_ | (refine AllO.pass ?_; first | exact AllO.nil | (refine AllO.cons (One.ev hA tabOk ?_) ?_ <;> (first | refine AllO.pass ?_ | ((conv => lhs; cbv); done))) | (refine AllO.cons (One.skipB ?_) ?_ <;> (first | refine AllO.pass ?_ | ((conv => lhs; cbv); done))) | ((with_reducible refine AllO.call Zc (key_c hA 2 v 0 [] (by simp)) ?_ ?_) <;> (first | refine AllO.pass ?_ | exact rfl | exact Zd)) | ((with_reducible refine AllO.call Zc (hf) ?_ ?_) <;> (first | refine AllO.pass ?_ | exact rfl | exact Zd)) | refine AllO.consX ZX rfl rfl ?_) | refine Thn.exit ?_ | refine Blk.here ?_ | refine Blk.other (by decide) ?_ | refine ⟨.inl rfl, _, RetOk.ev tabOk Zc, ?_⟩ | fail)
  all_goals (refine rPV_then (by conv => lhs; cbv) ?_; rfl)
theorem rep_c (K : List (List Int)) (S : List Int) (h : StK K S) (R V : List Int) (N : List (Int × Int)) (M : List Int) (P Q : List (List Int)) (hR : RightU V R) (id : Int) :
    PureCalls Try.prog 13 [keyedPV A K S, grP A R V N M P Q, IP id] (IP (hid A (repM K V id))) := by
  have hv := variable_c hA K S h R V N M P Q id
  have hcs := num_cases K V.length id h.ok
  refine PureCalls.of Try.func13 rfl (by kernel_rfl) rfl ?_
  by_cases hn : 0 ≤ numM K V.length id
  · rw [decide_eq_true hn, hid_eq hA (α := Bool), num_sym hn] at hv
    have hf := ufind_c hA V N M R hR (numM K V.length id) hn (by omega)
    have ha := at_c hA K S h (findU V (numM K V.length id))
    have hr : repM K V id = atV K (findU V (numM K V.length id)) := by unfold repM; rw [if_neg (by omega)]
    rw [hr]
    generalize findU V (numM K V.length id) = y at *
    generalize numM K V.length id = x at *
    rw [← hid_eq hA x] at hf
    rw [← hid_eq hA y] at ha
    try first | refine AOLg.of [] ?_ | refine QSg.of [] ?_
    repeat' (first | (refine AWp.pass ?_; first | refine AWp.seq ?_ | refine AWp.block ?_ | refine AWp.skip ?_ | refine AWp.regG [] Zc ?_ | refine AWp.cond_t rfl ?_ | refine AWp.cond_f rfl ?_ | (refine AWp.cond rfl ?_ ?_ <;> intro hc <;> (try rw [hc]) <;> ((try simp only [zn] at hc) <;> (try simp (disch := omega) only [zz hA, zb, zy, reduceCtorEq, Bool.false_eq_true, Int.reduceLT, Int.reduceLE, Int.reduceNeg] at hc) <;> (try simp only [zw] at hc)) <;> (try (exfalso; omega))) | refine AWp.exit ?_ | refine AWp.ret ⟨.inr rfl, _, RetOk.ev tabOk Zc, ?_⟩ | refine AWp.drawVG [] rfl (by decide +kernel) Zc ?_) | (refine AOLg.pass ?_; refine AOLg.nx hA tabOk Zc ?_; first | refine NX.done ?_ | refine NX.gt ?_ | refine NX.gf ?_ | (refine NX.gs ?_ ?_ <;> intro hc <;> rw [hc] <;> ((try simp only [zn] at hc) <;> (try simp (disch := omega) only [zz hA, zb, zy, reduceCtorEq, Bool.false_eq_true, Int.reduceLT, Int.reduceLE, Int.reduceNeg] at hc) <;> (try simp only [zw] at hc)) <;> (try (exfalso; omega))) | (refine NX.kC ?_; first | (with_reducible refine NX.call (hv) ?_) | (with_reducible refine NX.call (hf) ?_) | (with_reducible refine NX.call (ha) ?_) | ((first | refine NX.call (hv) ?_ | refine NX.call (hf) ?_ | refine NX.call (ha) ?_)) | fail) | (refine NX.kO ?_; (first | refine NX.callO (hv) (by simp [allEq]) rfl ?_ | refine NX.callO (hf) (by simp [allEq]) rfl ?_ | refine NX.callO (ha) (by simp [allEq]) rfl ?_)) | refine NX.k 14 (NX.one Z14 ?_) | refine NX.k 18 (NX.one Z18 ?_) | refine NX.raw ?_) | (refine TRg.pass ?_; refine TRg.nx hA tabOk Zc ?_; first | refine TX.done ?_ | refine TX.gt ?_ | refine TX.gf ?_ | (refine TX.gs ?_ ?_ <;> intro hc <;> rw [hc] <;> ((try simp only [zn] at hc) <;> (try simp (disch := omega) only [zz hA, zb, zy, reduceCtorEq, Bool.false_eq_true, Int.reduceLT, Int.reduceLE, Int.reduceNeg] at hc) <;> (try simp only [zw] at hc)) <;> (try (exfalso; omega))) | (refine TX.kC ?_; first | (with_reducible refine TX.call (hv) ?_) | (with_reducible refine TX.call (hf) ?_) | (with_reducible refine TX.call (ha) ?_) | ((first | refine TX.call (hv) ?_ | refine TX.call (hf) ?_ | refine TX.call (ha) ?_)) | fail) | (refine TX.kO ?_; (first | refine TX.callO (hv) (by simp [allEq]) rfl ?_ | refine TX.callO (hf) (by simp [allEq]) rfl ?_ | refine TX.callO (ha) (by simp [allEq]) rfl ?_)) | refine TX.k 14 (TX.one Z14 ?_) | refine TX.k 18 (TX.one Z18 ?_) | refine TX.raw ?_) | refine Fin3.of Zc (by repeat' (first | exact True.intro | exact rfl | refine And.intro ?_ ?_)) ?_ ?_ | (refine AllO.pass ?_; first | exact AllO.nil | (refine AllO.cons (One.ev hA tabOk ?_) ?_ <;> (first | refine AllO.pass ?_ | ((conv => lhs; cbv); done))) | (refine AllO.cons (One.skipB ?_) ?_ <;> (first | refine AllO.pass ?_ | ((conv => lhs; cbv); done))) | ((with_reducible refine AllO.call Zc (hv) ?_ ?_) <;> (first | refine AllO.pass ?_ | exact rfl | exact Zd)) | ((with_reducible refine AllO.call Zc (hf) ?_ ?_) <;> (first | refine AllO.pass ?_ | exact rfl | exact Zd)) | ((with_reducible refine AllO.call Zc (ha) ?_ ?_) <;> (first | refine AllO.pass ?_ | exact rfl | exact Zd)) | refine AllO.consX ZX rfl rfl ?_) | refine Thn.exit ?_ | refine Blk.here ?_ | refine Blk.other (by decide) ?_ | refine ⟨.inl rfl, _, RetOk.ev tabOk Zc, ?_⟩ | fail)
    all_goals (refine rPV_then (by conv => lhs; cbv) ?_; simp only [hid_eq hA])
  · rw [decide_eq_false hn, hid_eq hA (α := Bool)] at hv
    have hr : repM K V id = id := by unfold repM; rw [if_pos (by omega)]
    rw [hr, hid_eq hA]
    try first | refine AOLg.of [] ?_ | refine QSg.of [] ?_
    repeat' (first | (refine AWp.pass ?_; first | refine AWp.seq ?_ | refine AWp.block ?_ | refine AWp.skip ?_ | refine AWp.regG [] Zc ?_ | refine AWp.cond_t rfl ?_ | refine AWp.cond_f rfl ?_ | (refine AWp.cond rfl ?_ ?_ <;> intro hc <;> (try rw [hc]) <;> ((try simp only [zn] at hc) <;> (try simp (disch := omega) only [zz hA, zb, zy, reduceCtorEq, Bool.false_eq_true, Int.reduceLT, Int.reduceLE, Int.reduceNeg] at hc) <;> (try simp only [zw] at hc)) <;> (try (exfalso; omega))) | refine AWp.exit ?_ | refine AWp.ret ⟨.inr rfl, _, RetOk.ev tabOk Zc, ?_⟩ | refine AWp.drawVG [] rfl (by decide +kernel) Zc ?_) | (refine AOLg.pass ?_; refine AOLg.nx hA tabOk Zc ?_; first | refine NX.done ?_ | refine NX.gt ?_ | refine NX.gf ?_ | (refine NX.gs ?_ ?_ <;> intro hc <;> rw [hc] <;> ((try simp only [zn] at hc) <;> (try simp (disch := omega) only [zz hA, zb, zy, reduceCtorEq, Bool.false_eq_true, Int.reduceLT, Int.reduceLE, Int.reduceNeg] at hc) <;> (try simp only [zw] at hc)) <;> (try (exfalso; omega))) | (refine NX.kC ?_; first | (with_reducible refine NX.call (hv) ?_) | ((first | refine NX.call (hv) ?_)) | fail) | (refine NX.kO ?_; (first | refine NX.callO (hv) (by simp [allEq]) rfl ?_)) | refine NX.k 14 (NX.one Z14 ?_) | refine NX.k 18 (NX.one Z18 ?_) | refine NX.raw ?_) | (refine TRg.pass ?_; refine TRg.nx hA tabOk Zc ?_; first | refine TX.done ?_ | refine TX.gt ?_ | refine TX.gf ?_ | (refine TX.gs ?_ ?_ <;> intro hc <;> rw [hc] <;> ((try simp only [zn] at hc) <;> (try simp (disch := omega) only [zz hA, zb, zy, reduceCtorEq, Bool.false_eq_true, Int.reduceLT, Int.reduceLE, Int.reduceNeg] at hc) <;> (try simp only [zw] at hc)) <;> (try (exfalso; omega))) | (refine TX.kC ?_; first | (with_reducible refine TX.call (hv) ?_) | ((first | refine TX.call (hv) ?_)) | fail) | (refine TX.kO ?_; (first | refine TX.callO (hv) (by simp [allEq]) rfl ?_)) | refine TX.k 14 (TX.one Z14 ?_) | refine TX.k 18 (TX.one Z18 ?_) | refine TX.raw ?_) | refine Fin3.of Zc (by repeat' (first | exact True.intro | exact rfl | refine And.intro ?_ ?_)) ?_ ?_ | (refine AllO.pass ?_; first | exact AllO.nil | (refine AllO.cons (One.ev hA tabOk ?_) ?_ <;> (first | refine AllO.pass ?_ | ((conv => lhs; cbv); done))) | (refine AllO.cons (One.skipB ?_) ?_ <;> (first | refine AllO.pass ?_ | ((conv => lhs; cbv); done))) | ((with_reducible refine AllO.call Zc (hv) ?_ ?_) <;> (first | refine AllO.pass ?_ | exact rfl | exact Zd)) | refine AllO.consX ZX rfl rfl ?_) | refine Thn.exit ?_ | refine Blk.here ?_ | refine Blk.other (by decide) ?_ | refine ⟨.inl rfl, _, RetOk.ev tabOk Zc, ?_⟩ | fail)
    all_goals (refine rPV_then (by conv => lhs; cbv) ?_; rfl)
theorem refAll_c (K : List (List Int)) (S : List Int) (R V : List Int) (N : List (Int × Int)) (M : List Int) (P Q : List (List Int)) (hV : V.length ≤ 1000000) :
    PureCalls Try.prog 38 [keyedPV A K S, grP A R V N M P Q] (BP (hid A (allV K V.length))) := by
  refine PureCalls.of Try.func38 rfl (by kernel_rfl) rfl ?_
  try first | refine AOLg.of [] ?_ | refine QSg.of [] ?_
  repeat' (first | (refine AWp.pass ?_; first | refine AWp.seq ?_ | refine AWp.block ?_ | refine AWp.skip ?_ | refine AWp.regG [] Zc ?_ | refine AWp.cond_t rfl ?_ | refine AWp.cond_f rfl ?_ | (refine AWp.cond rfl ?_ ?_ <;> intro hc <;> (try rw [hc]) <;> ((try simp only [zn] at hc) <;> (try simp (disch := omega) only [zz hA, zb, zy, reduceCtorEq, Bool.false_eq_true, Int.reduceLT, Int.reduceLE, Int.reduceNeg] at hc) <;> (try simp only [zw] at hc)) <;> (try (exfalso; omega))) | refine AWp.exit ?_ | refine AWp.ret ⟨.inr rfl, _, RetOk.ev tabOk Zc, ?_⟩) | (refine AOLg.pass ?_; refine AOLg.nx hA tabOk Zc ?_; first | refine NX.done ?_ | refine NX.gt ?_ | refine NX.gf ?_ | (refine NX.gs ?_ ?_ <;> intro hc <;> rw [hc] <;> ((try simp only [zn] at hc) <;> (try simp (disch := omega) only [zz hA, zb, zy, reduceCtorEq, Bool.false_eq_true, Int.reduceLT, Int.reduceLE, Int.reduceNeg] at hc) <;> (try simp only [zw] at hc)) <;> (try (exfalso; omega))) | refine NX.k 7 (NX.one Z7 ?_) | refine NX.k 10 (NX.one Z10 ?_) | refine NX.k 14 (NX.one Z14 ?_) | refine NX.k 18 (NX.one Z18 ?_) | refine NX.raw ?_) | refine Thn.exit ?_ | refine Blk.here ?_ | refine Blk.other (by decide) ?_ | refine ⟨.inl rfl, _, RetOk.ev tabOk Zc, ?_⟩ | fail)
  refine AWp.loopU (fun k : Nat => [(5, .ic (.lit (.int .i64 (hid A (cN k)))))]) (fun _ => _) (fun k => V.length - k) (fun k => k ≤ V.length ∧ ∀ i, i < k → decide (0 ≤ atV K (i : Int)) = true) 0 (by conv => lhs; cbv) ⟨Nat.zero_le _, by simp⟩ (by ((repeat' (first | exact subE.nil | refine subE.cons rfl ?_ | refine subE.int rfl ?_ ?_ | refine subE.bool rfl ?_ ?_ | refine subE.str rfl ?_ ?_ | refine subE.sl rfl ?_ ?_))) <;> simp [hA, real, hid, cN]) rfl ?_
  rintro k ⟨hk, hok⟩
  by_cases hlt : k < V.length
  · have ha := refAtV_c hA K S (hid A (cN k))
    rw [show atV K (hid A (cN k)) = atV K k by simp [hid_eq hA, cN]] at ha
    have hno : atV K k < 0 → allV K V.length = false := fun h => allB_f hlt (by rw [decide_eq_false_iff_not]; omega)
    have hyes : 0 ≤ atV K k → ∀ i, i < k + 1 → decide (0 ≤ atV K (i : Int)) = true := fun h i hi => by
      rcases Nat.lt_or_ge i k with h1 | h1
      · exact hok i h1
      · obtain rfl : i = k := by omega
        exact decide_eq_true h
    generalize atV K k = x at *
    try first | refine AOLg.of [] ?_ | refine QSg.of [] ?_
    repeat' (first | (refine AWp.pass ?_; first | refine AWp.seq ?_ | refine AWp.block ?_ | refine AWp.skip ?_ | refine AWp.regG [] Zc ?_ | refine AWp.cond_t rfl ?_ | refine AWp.cond_f rfl ?_ | (refine AWp.cond rfl ?_ ?_ <;> intro hc <;> (try rw [hc]) <;> ((try simp only [zn] at hc) <;> (try simp (disch := omega) only [zz hA, zb, zy, reduceCtorEq, Bool.false_eq_true, Int.reduceLT, Int.reduceLE, Int.reduceNeg] at hc) <;> (try simp only [zw] at hc)) <;> (try (exfalso; omega))) | refine AWp.exit ?_ | refine AWp.ret ⟨.inr rfl, _, RetOk.ev tabOk Zc, ?_⟩) | (refine AOLg.pass ?_; refine AOLg.nx hA tabOk Zc ?_; first | refine NX.done ?_ | refine NX.gt ?_ | refine NX.gf ?_ | (refine NX.gs ?_ ?_ <;> intro hc <;> rw [hc] <;> ((try simp only [zn] at hc) <;> (try simp (disch := omega) only [zz hA, zb, zy, reduceCtorEq, Bool.false_eq_true, Int.reduceLT, Int.reduceLE, Int.reduceNeg] at hc) <;> (try simp only [zw] at hc)) <;> (try (exfalso; omega))) | (refine NX.kC ?_; first | (with_reducible refine NX.call (ha) ?_) | ((first | refine NX.call (ha) ?_)) | fail) | (refine NX.kO ?_; (first | refine NX.callO (ha) (by simp [allEq]) rfl ?_)) | refine NX.k 7 (NX.one Z7 ?_) | refine NX.k 10 (NX.one Z10 ?_) | refine NX.k 14 (NX.one Z14 ?_) | refine NX.k 18 (NX.one Z18 ?_) | refine NX.raw ?_) | refine Thn.exit ?_ | refine Blk.here ?_ | refine Blk.other (by decide) ?_ | refine ⟨.inl rfl, _, RetOk.ev tabOk Zc, ?_⟩ | fail)
    · refine rPV_then (by conv => lhs; cbv) ?_
      rw [hno hc, hid_eq hA]
    · refine ⟨k + 1, ?_, ?_, rfl, rfl, ?_, Zk⟩ <;> (try omega)
      repeat' (first | exact subE.nil | refine subE.cons rfl ?_ | refine subE.int rfl ?_ ?_ | refine subE.bool rfl ?_ ?_ | refine subE.str rfl ?_ ?_ | refine subE.sl rfl ?_ ?_)
      · exact ⟨by omega, hyes (by omega)⟩
      · exact Zd
  · try first | refine AOLg.of [] ?_ | refine QSg.of [] ?_
    repeat' (first | (refine AWp.pass ?_; first | refine AWp.seq ?_ | refine AWp.block ?_ | refine AWp.skip ?_ | refine AWp.regG [] Zc ?_ | refine AWp.cond_t rfl ?_ | refine AWp.cond_f rfl ?_ | (refine AWp.cond rfl ?_ ?_ <;> intro hc <;> (try rw [hc]) <;> ((try simp only [zn] at hc) <;> (try simp (disch := omega) only [zz hA, zb, zy, reduceCtorEq, Bool.false_eq_true, Int.reduceLT, Int.reduceLE, Int.reduceNeg] at hc) <;> (try simp only [zw] at hc)) <;> (try (exfalso; omega))) | refine AWp.exit ?_ | refine AWp.ret ⟨.inr rfl, _, RetOk.ev tabOk Zc, ?_⟩) | (refine AOLg.pass ?_; refine AOLg.nx hA tabOk Zc ?_; first | refine NX.done ?_ | refine NX.gt ?_ | refine NX.gf ?_ | (refine NX.gs ?_ ?_ <;> intro hc <;> rw [hc] <;> ((try simp only [zn] at hc) <;> (try simp (disch := omega) only [zz hA, zb, zy, reduceCtorEq, Bool.false_eq_true, Int.reduceLT, Int.reduceLE, Int.reduceNeg] at hc) <;> (try simp only [zw] at hc)) <;> (try (exfalso; omega))) | refine NX.k 7 (NX.one Z7 ?_) | refine NX.k 10 (NX.one Z10 ?_) | refine NX.k 14 (NX.one Z14 ?_) | refine NX.k 18 (NX.one Z18 ?_) | refine NX.raw ?_) | refine Thn.exit ?_ | refine Blk.here ?_ | refine Blk.other (by decide) ?_ | refine ⟨.inl rfl, _, RetOk.ev tabOk Zc, ?_⟩ | fail)
    refine rPV_then (by conv => lhs; cbv) ?_
    rw [show allV K V.length = true from allB_t fun i hi => hok i (by omega), hid_eq hA]
end Go.Proofs.Ytkkjlmcnfoncdaa.Aw

namespace Go.Proofs.Ytkkjlmcnfoncdaa.Aw
open Go Go.RowKit
theorem One.weakE {r : Option Nat} {P : Program} {ops : Array Oper} {i : Nat} {s : St} {sz : Nat} {ex : Bool} {xs : List (List IC)} {st : List AObj} (h : One r P ops i s (.ic (.sl sz ex xs)) st) : One r P ops i s (.ic (.sl sz false xs)) st := by
  intro rest Q hq
  refine h rest Q ?_
  generalize dstOf ops i = d at hq
  cases d with
  | none => exact hq
  | some d =>
    intro G g w a QQ hr kk
    refine hq G g w a QQ ⟨fun t => ?_, hr.size, hr.sr⟩ kk
    have ht := hr.slots t
    simp only [putS, St.get, look] at ht ⊢
    cases hb : Nat.beq d t with
    | true =>
      simp only [hb, cond_true] at ht ⊢
      exact .ic _ _ (ht.ic_inv.lx (.ex _ _ _))
    | false =>
      simp only [hb, cond_false] at ht ⊢
      exact ht
end Go.Proofs.Ytkkjlmcnfoncdaa.Aw

namespace Go.Proofs.Ytkkjlmcnfoncdaa.Aw
open Go Go.RowKit
theorem Flat.lx {w : World} {ok : Nat → Prop} {sz : Nat} {xs ys : List (List IC)} {cells : List Value} (h : Flat w ok sz xs cells) (k : ILxr xs ys) : Flat w ok sz ys cells := by
  obtain ⟨hl, hg⟩ := k.get
  refine ⟨by rw [← hl]; exact h.len, fun j r hj => ?_, fun j r i y hj hi => ?_, h.one⟩
  · obtain ⟨x, h1, h2⟩ := hg j r hj
    rw [← h2.get.1]; exact h.rows j x h1
  · obtain ⟨x, h1, h2⟩ := hg j r hj
    obtain ⟨u, h3, h4⟩ := h2.get.2 i y hi
    obtain ⟨v, h5, h6⟩ := h.rel j x i u h1 h3
    exact ⟨v, h5, h6.lx h4⟩
theorem SR.rerow {G : Nat → Prop} {s : List AObj} {g : Ghost} {w : World} (hr : SR G s g w) (i : Nat) {m : Bool} {v e sz : Nat} {xs ys : List (List IC)} (hi : s[i]? = some (.row m v e sz xs)) (hk : ILxr xs ys) :
    Evo s g w (s.set i (.row m v e sz ys)) g w ∧ SR G (s.set i (.row m v e sz ys)) g w := by
  have hil := (List.getElem?_eq_some_iff.1 hi).1
  have get : ∀ j o, (s.set i (.row m v e sz ys))[j]? = some o → (j = i ∧ o = .row m v e sz ys) ∨ (j ≠ i ∧ s[j]? = some o) := fun j o hj => by
    by_cases e : i = j
    · subst e
      rw [List.getElem?_set_self hil] at hj
      exact .inl ⟨rfl, (Option.some.inj hj).symm⟩
    · rw [List.getElem?_set_ne e] at hj
      exact .inr ⟨fun h => e h.symm, hj⟩
  have hev : Evo s g w (s.set i (.row m v e sz ys)) g w := by
    refine ⟨rfl, rfl, rfl, Nat.le_refl _, fun _ _ _ => rfl, fun b _ ⟨j, o, hj, hm, hg⟩ => ?_, by simp, fun j m1 t1 c1 _ hj => ?_, fun j m1 v1 e1 z1 x1 _ hj => ?_, fun j c1 _ hj => ?_, fun j c1 _ hj => ?_⟩
    · rcases get j o hj with ⟨rfl, rfl⟩ | ⟨_, h⟩
      · exact ⟨j, _, hi, hm, hg⟩
      · exact ⟨j, o, h, hm, hg⟩
    · rcases get j _ hj with ⟨rfl, e⟩ | ⟨_, h⟩
      · cases e
      · exact ⟨⟨_, _, h⟩, rfl⟩
    · rcases get j _ hj with ⟨rfl, e⟩ | ⟨_, h⟩
      · simp only [AObj.row.injEq] at e
        obtain ⟨rfl, rfl, rfl, rfl, rfl⟩ := e
        exact ⟨_, _, _, hi, Nat.le_refl _, fun _ => rfl⟩
      · exact ⟨_, _, _, h, Nat.le_refl _, fun _ => rfl⟩
    · rcases get j _ hj with ⟨rfl, e⟩ | ⟨_, h⟩
      · cases e
      · exact ⟨⟨_, h⟩, rfl⟩
    · rcases get j _ hj with ⟨rfl, e⟩ | ⟨_, h⟩
      · cases e
      · exact ⟨⟨_, h⟩, rfl⟩
  refine ⟨hev, ⟨fun j o hj => ?_, fun j k o o' b hj hk' l1 l2 b1 b2 => ?_, hr.new⟩⟩
  · rcases get j o hj with ⟨rfl, rfl⟩ | ⟨_, h⟩
    · obtain ⟨cells, h1, h2, h3⟩ := hr.obj j _ hi
      have : OR G s g w j (.row m v e sz ys) := ⟨cells, by rw [← hk.get.1]; exact h1, h2, h3.lx hk⟩
      exact this.evo hev rfl fun _ _ => rfl
    · exact (hr.obj j o h).evo hev rfl fun _ _ => rfl
  · have f : ∀ (j : Nat) (o : AObj), (s.set i (.row m v e sz ys))[j]? = some o → o.live = true → ∃ o2 : AObj, s[j]? = some o2 ∧ o2.live = true := fun j o hj hl => by
      rcases get j o hj with ⟨rfl, rfl⟩ | ⟨_, h⟩
      · exact ⟨_, hi, hl⟩
      · exact ⟨o, h, hl⟩
    obtain ⟨o2, h2, l2'⟩ := f j o hj l1
    obtain ⟨o3, h3, l3'⟩ := f k o' hk' l2
    exact hr.inj j k o2 o3 b h2 h3 l2' l3' b1 b2
theorem AOL.rerow {r : Option Nat} {P : Program} {ops : Array Oper} {l : List Nat} {s : St} {Q : St → Prop} (i : Nat) {m : Bool} {v e sz : Nat} {xs : List (List IC)} (ys : List (List IC)) (hi : s.st[i]? = some (.row m v e sz xs)) (hc : ILxr xs ys) (h : AOL r P ops l ⟨s.nt, s.env, s.st.set i (.row m v e sz ys)⟩ Q) : AOL r P ops l s Q := fun G g w a QQ hr k => by
  obtain ⟨hev, hsr⟩ := hr.sr.rerow i hi hc
  exact h G g w a QQ ⟨fun t => (hr.slots t).evo hev, hr.size, hsr⟩ fun s' g' w' a' q hr' he hd hf => k s' g' w' a' q hr' (hev.trans he) hd hf
theorem One.rerow {r : Option Nat} {P : Program} {ops : Array Oper} {i : Nat} {s : St} {x : AV} {st st2 : List AObj} (h : One r P ops i s x st) (q : Nat) {m : Bool} {v e sz : Nat} {xs ys : List (List IC)} (hq : st[q]? = some (.row m v e sz xs)) (hk : ILxr xs ys) (e2 : st2 = st.set q (.row m v e sz ys)) : One r P ops i s x st2 := by
  subst e2
  intro rest Q k
  refine h rest Q ?_
  generalize dstOf ops i = d at k ⊢
  cases d with
  | none => exact AOL.rerow q ys hq hk k
  | some d => exact AOL.rerow q ys hq hk k
theorem ILxs.refl : ∀ l : List IC, ILxs l l
  | [] => .nil
  | x :: r => .cons (.le (.refl x)) (ILxs.refl r)
theorem ILxr.refl : ∀ l : List (List IC), ILxr l l
  | [] => .nil
  | x :: r => .cons (ILxs.refl x) (ILxr.refl r)
theorem ILxr.set {x y : List IC} (h : ILxs x y) : ∀ (l : List (List IC)) (n : Nat), ILxr (l.set n x) (l.set n y)
  | [], _ => .nil
  | a :: r, 0 => .cons h (ILxr.refl r)
  | a :: r, n + 1 => .cons (ILxs.refl a) (ILxr.set h r n)
theorem One.storeNilM {r : Option Nat} {P : Program} {ops : Array Oper} {i : Nat} {s : St} {tab : List TI} {A : Ar} (hA : A = real) (hT : TabOk P tab) {l : List (List Int)} {t : TypeId} {j : TI} {x y : Operand} {q ver n e a : Nat} (h : opAt ops i s = some (.store t x y)) (ht : tiAt tab t = some j) (hx : s.ev x = .rat q ver n 0)
    (hs : s.st[q]? = some (.row true ver e 1 (A (.hid _) fun _ => List.map (encK A) l))) (hy : s.ev y = .ic (.sl a true [])) (hj : j.size = 1) (hn : n < l.length) :
    One r P ops i s .any (s.st.set q (.row true ver e 1 (A (.hid _) fun _ => List.map (encK A) (l.set n [])))) := by
  have hl : ∀ z : List Int, (encK A z).length = 1 := fun z => rfl
  have h1 := One.storeRat (r := r) (row := encK A l[n]) (yc := [.sl a true []]) hT h ht hx hs (by rw [rhid hA]; simp [hn]) (by rw [hy]; rfl) rfl (by rw [hj]; rfl) (Nat.le_refl 1)
  have hq : q < s.st.length := (List.getElem?_eq_some_iff.1 hs).1
  have hk : ILxs [.sl a true []] (encK A []) := by
    unfold encK
    exact .cons (.le (ILe.nilM hA _ _ _ _)) .nil
  rw [rhid hA] at h1
  have e : (encK A l[n]).take 0 ++ [IC.sl a true []] ++ (encK A l[n]).drop (0 + [IC.sl a true []].length) = [IC.sl a true []] := rfl
  rw [e] at h1
  refine One.rerow h1 q (List.getElem?_set_self hq) (ys := List.map (encK A) (l.set n [])) ?_ ?_
  · rw [List.map_set]
    exact ILxr.set hk _ _
  · rw [List.set_set, rhid hA]
end Go.Proofs.Ytkkjlmcnfoncdaa.Aw

namespace Go.Proofs.Ytkkjlmcnfoncdaa.Aw
open Go Go.RowKit
theorem does_allocNil {P : Program} {s : St} (t e : TypeId) (sz : Nat) (hz : (tyi P t).zero = some [.slice none 0 0]) :
    Does P s (fun ρ => do pure (.value (← Instr.alloc t true (.tuple #[])))) (.ptr (s.st.length + 1) 0) (s.st ++ [.row true 0 e sz []] ++ [.var true t [.own s.st.length 0]]) := fun G g w a hr => by
  obtain ⟨v, hv, hvl⟩ := run_zero hz w
  obtain ⟨g1, k1, s1, x1⟩ := SR.newRow (w' := w) hr e sz [] (.slice none 0 0) [] ⟨rfl, rfl, rfl, Nat.le_refl _, fun _ _ _ => rfl⟩ (by simp [gb]) ⟨by simp, .inl ⟨rfl, rfl⟩⟩ (fun ok => .nil _ _ _)
  have hr1 : Rel G { s with st := s.st ++ [.row true 0 e sz []] } g1 w a := hr.nop k1 s1
  have hvc : v.cells = #[.slice none 0 0] := by
    apply Array.toList_inj.1
    rw [← hvl]
  obtain ⟨g', k, hs, hx⟩ := SR.newVar hr1 t [.own s.st.length 0] v.cells (by rw [hvc]; rfl) (by rw [hvc]; simp [Value.oneCell']) (fun j x hj => by
    match j, hj with
    | 0, hj =>
      obtain rfl := Option.some.inj hj
      rw [hvc]
      exact x1)
  have hx' : AR G (s.st ++ [.row true 0 e sz []] ++ [.var true t [.own s.st.length 0]]) g' (w.alloc (.cells v.cells t)) (.ptr (s.st.length + 1) 0) (.pointer (some ⟨w.heap.size, 0, none⟩)) := by
    have := hx
    simp only [List.length_append, List.length_cons, List.length_nil] at this
    exact this
  exact ⟨_, _, g', _, by simp [Instr.alloc, newVar, newRow, hv], .inl rfl, k1.trans k, hs, hx'⟩
theorem One.allocNil {r : Option Nat} {P : Program} {ops : Array Oper} {i : Nat} {s : St} {tab : List TI} (hT : TabOk P tab) {t e : TypeId} {j j2 : TI} (h : opAt ops i s = some (.alloc t)) (ht : slT tab t = some (e, j)) (h2 : tiAt tab t = some j2) (hz : j2.zero = some [.slice none 0 0]) :
    One r P ops i s (.ptr (s.st.length + 1) 0) (s.st ++ [.row true 0 e j.size []] ++ [.var true t [.own s.st.length 0]]) := by
  obtain ⟨rfl, _⟩ := tiAt_ok hT h2
  exact .does h rfl fun o hop => (does_allocNil t e j.size hz).congr fun ρ => by simp only [execOp, hop]
end Go.Proofs.Ytkkjlmcnfoncdaa.Aw

namespace Go.Proofs.Ytkkjlmcnfoncdaa.Aw
open Go Go.RowKit
set_option maxRecDepth 10000
attribute [local irreducible] AWp AOL QS One AOLg QSg NX QX TRg TX AllO Fin3
attribute [local irreducible] W.TRg W.TX W.AllO W.Fin3
def fstM (K : List (List Int)) (V : List Int) (id : Int) : Int := if numM K V.length id < 0 then 0 else findU V (numM K V.length id)
def sucE (K : List (List Int)) (V : List Int) (v : Int) (l : List Int) : List (Int × Int) := (l.filter fun id => decide (0 ≤ numM K V.length id)).map fun id => (v, fstM K V id)
def preE (K : List (List Int)) (V : List Int) (v : Int) (l : List Int) : List (Int × Int) := (l.filter fun id => decide (0 ≤ numM K V.length id)).map fun id => (fstM K V id, v)
def edgesM (K : List (List Int)) (V : List Int) (P Q : List (List Int)) : Nat → List (Int × Int)
  | 0 => []
  | v + 1 => edgesM K V P Q v ++ sucE K V v (Q.getD v default) ++ preE K V v (P.getD v default)
theorem sucE_succ (K : List (List Int)) (V : List Int) (v : Int) (l : List Int) (j : Nat) (h : j < l.length) : sucE K V v (l.take (j + 1)) = sucE K V v (l.take j) ++ if 0 ≤ numM K V.length (l.getD j default) then [(v, fstM K V (l.getD j default))] else [] := by
  unfold sucE
  rw [List.take_add_one, List.filter_append, List.map_append, List.getD_eq_getElem?_getD, List.getElem?_eq_getElem h]
  simp only [Option.toList_some, Option.getD_some]
  split <;> simp_all
theorem preE_succ (K : List (List Int)) (V : List Int) (v : Int) (l : List Int) (j : Nat) (h : j < l.length) : preE K V v (l.take (j + 1)) = preE K V v (l.take j) ++ if 0 ≤ numM K V.length (l.getD j default) then [(fstM K V (l.getD j default), v)] else [] := by
  unfold preE
  rw [List.take_add_one, List.filter_append, List.map_append, List.getD_eq_getElem?_getD, List.getElem?_eq_getElem h]
  simp only [Option.toList_some, Option.getD_some]
  split <;> simp_all
variable {A : Ar} (hA : A = real)
include hA
theorem first_c (K : List (List Int)) (S : List Int) (h : StK K S) (R V : List Int) (N : List (Int × Int)) (M : List Int) (P Q : List (List Int)) (hR : RightU V R) (id : Int) :
    PureCalls Try.prog 89 [keyedPV A K S, grP A R V N M P Q, IP id] (.tup [IP (hid A (fstM K V id)), BP (hid A (decide (0 ≤ numM K V.length id)))]) := by
  have hcs := num_cases K V.length id h.ok
  refine PureCalls.of Try.func89 rfl (by kernel_rfl) rfl ?_
  by_cases hi : id < 0 ∨ (K.length : Int) ≤ id
  · have hof := tOf_c0 hA K S id hi
    have hn := num_out (n := V.length) hi
    have hd : decide (0 ≤ numM K V.length id) = false := by rw [decide_eq_false_iff_not]; omega
    have hf : fstM K V id = 0 := by unfold fstM; rw [if_pos (by omega)]
    rw [hd, hf]
    try first | refine AOLg.of [] ?_ | refine QSg.of [] ?_
    repeat' (first | (refine AWp.pass ?_; first | refine AWp.seq ?_ | refine AWp.block ?_ | refine AWp.skip ?_ | refine AWp.regG [] Zc ?_ | refine AWp.cond_t rfl ?_ | refine AWp.cond_f rfl ?_ | (refine AWp.cond rfl ?_ ?_ <;> intro hc <;> (try rw [hc]) <;> ((try simp only [zn] at hc) <;> (try simp (disch := omega) only [zz hA, zb, zy, reduceCtorEq, Bool.false_eq_true, Int.reduceLT, Int.reduceLE, Int.reduceNeg] at hc) <;> (try simp only [zw] at hc)) <;> (try (exfalso; omega))) | refine AWp.exit ?_ | refine AWp.ret ⟨.inr rfl, _, RetOk.ev tabOk Zc, ?_⟩) | (refine AOLg.pass ?_; refine AOLg.nx hA tabOk Zc ?_; first | refine NX.done ?_ | refine NX.gt ?_ | refine NX.gf ?_ | (refine NX.gs ?_ ?_ <;> intro hc <;> rw [hc] <;> ((try simp only [zn] at hc) <;> (try simp (disch := omega) only [zz hA, zb, zy, reduceCtorEq, Bool.false_eq_true, Int.reduceLT, Int.reduceLE, Int.reduceNeg] at hc) <;> (try simp only [zw] at hc)) <;> (try (exfalso; omega))) | (refine NX.kC ?_; first | (with_reducible refine NX.call (hof) ?_) | ((first | refine NX.call (hof) ?_)) | fail) | (refine NX.kO ?_; (first | refine NX.callO (hof) (by simp [allEq]) rfl ?_)) | refine NX.k 9 (NX.one Z9 ?_) | refine NX.k 10 (NX.one Z10 ?_) | refine NX.k 14 (NX.one Z14 ?_) | refine NX.k 15 (NX.one Z15 ?_) | refine NX.k 18 (NX.one Z18 ?_) | refine NX.raw ?_) | refine Thn.exit ?_ | refine Blk.here ?_ | refine Blk.other (by decide) ?_ | refine ⟨.inl rfl, _, RetOk.ev tabOk Zc, ?_⟩ | fail)
    all_goals first | (exfalso; omega) | (refine rPV_then (by conv => lhs; cbv) ?_; simp only [hid_eq hA]; done) | (refine rPV_then (by conv => lhs; cbv) ?_; simp only [hid_eq hA]; rfl)
  · obtain ⟨i, rfl⟩ : ∃ i : Nat, id = i := ⟨id.toNat, by omega⟩
    have hil : i < K.length := by omega
    obtain ⟨k, s, p, l, hk, hll⟩ := key_at h.ok h.keys hil
    have hof := tOf_c1 hA K S i k s p l hil hk hll
    have hn := num_key (n := V.length) hil hk
    have hs0 : k = 2 → 0 ≤ s := fun hk2 => by
      have := h.ok.sym i hil (by rw [hk, hk2]; rfl)
      rw [hk] at this; exact this
    obtain ⟨z, hz⟩ : ∃ z : Int, z = (i : Int) := ⟨_, rfl⟩
    rw [← hz] at hn hcs ⊢
    have hof := hof z hz
    by_cases hc2 : k = 2 ∧ s < V.length
    · rw [if_pos hc2] at hn
      have hf : fstM K V z = findU V s := by unfold fstM; rw [hn, if_neg (by have := hs0 hc2.1; omega)]
      have hd : decide (0 ≤ numM K V.length z) = true := by rw [decide_eq_true_eq, hn]; exact hs0 hc2.1
      rw [hd, hf]
      have hfi := ufind_c hA V N M R hR s (hs0 hc2.1) hc2.2
      clear hk hn hcs
      try first | refine AOLg.of [] ?_ | refine QSg.of [] ?_
      repeat' (first | (refine AWp.pass ?_; first | refine AWp.seq ?_ | refine AWp.block ?_ | refine AWp.skip ?_ | refine AWp.regG [] Zc ?_ | refine AWp.cond_t rfl ?_ | refine AWp.cond_f rfl ?_ | (refine AWp.cond rfl ?_ ?_ <;> intro hc <;> (try rw [hc]) <;> ((try simp only [zn] at hc) <;> (try simp (disch := omega) only [zz hA, zb, zy, reduceCtorEq, Bool.false_eq_true, Int.reduceLT, Int.reduceLE, Int.reduceNeg] at hc) <;> (try simp only [zw] at hc)) <;> (try (exfalso; omega))) | refine AWp.exit ?_ | refine AWp.ret ⟨.inr rfl, _, RetOk.ev tabOk Zc, ?_⟩) | (refine AOLg.pass ?_; refine AOLg.nx hA tabOk Zc ?_; first | refine NX.done ?_ | refine NX.gt ?_ | refine NX.gf ?_ | (refine NX.gs ?_ ?_ <;> intro hc <;> rw [hc] <;> ((try simp only [zn] at hc) <;> (try simp (disch := omega) only [zz hA, zb, zy, reduceCtorEq, Bool.false_eq_true, Int.reduceLT, Int.reduceLE, Int.reduceNeg] at hc) <;> (try simp only [zw] at hc)) <;> (try (exfalso; omega))) | (refine NX.kC ?_; first | (with_reducible refine NX.call (hof) ?_) | (with_reducible refine NX.call (hfi) ?_) | ((first | refine NX.call (hof) ?_ | refine NX.call (hfi) ?_)) | fail) | (refine NX.kO ?_; (first | refine NX.callO (hof) (by simp [allEq]) rfl ?_ | refine NX.callO (hfi) (by simp [allEq]) rfl ?_)) | refine NX.k 9 (NX.one Z9 ?_) | refine NX.k 10 (NX.one Z10 ?_) | refine NX.k 14 (NX.one Z14 ?_) | refine NX.k 15 (NX.one Z15 ?_) | refine NX.k 18 (NX.one Z18 ?_) | refine NX.raw ?_) | refine Thn.exit ?_ | refine Blk.here ?_ | refine Blk.other (by decide) ?_ | refine ⟨.inl rfl, _, RetOk.ev tabOk Zc, ?_⟩ | fail)
      all_goals first | (exfalso; omega) | (refine rPV_then (by conv => lhs; cbv) ?_; simp only [hid_eq hA]; done) | (refine rPV_then (by conv => lhs; cbv) ?_; simp only [hid_eq hA]; rfl)
    · rw [if_neg hc2] at hn
      have hf : fstM K V z = 0 := by unfold fstM; rw [if_pos (by omega)]
      have hd : decide (0 ≤ numM K V.length z) = false := by rw [decide_eq_false_iff_not]; omega
      rw [hd, hf]
      clear hk hn hcs hs0
      try first | refine AOLg.of [] ?_ | refine QSg.of [] ?_
      repeat' (first | (refine AWp.pass ?_; first | refine AWp.seq ?_ | refine AWp.block ?_ | refine AWp.skip ?_ | refine AWp.regG [] Zc ?_ | refine AWp.cond_t rfl ?_ | refine AWp.cond_f rfl ?_ | (refine AWp.cond rfl ?_ ?_ <;> intro hc <;> (try rw [hc]) <;> ((try simp only [zn] at hc) <;> (try simp (disch := omega) only [zz hA, zb, zy, reduceCtorEq, Bool.false_eq_true, Int.reduceLT, Int.reduceLE, Int.reduceNeg] at hc) <;> (try simp only [zw] at hc)) <;> (try (exfalso; omega))) | refine AWp.exit ?_ | refine AWp.ret ⟨.inr rfl, _, RetOk.ev tabOk Zc, ?_⟩) | (refine AOLg.pass ?_; refine AOLg.nx hA tabOk Zc ?_; first | refine NX.done ?_ | refine NX.gt ?_ | refine NX.gf ?_ | (refine NX.gs ?_ ?_ <;> intro hc <;> rw [hc] <;> ((try simp only [zn] at hc) <;> (try simp (disch := omega) only [zz hA, zb, zy, reduceCtorEq, Bool.false_eq_true, Int.reduceLT, Int.reduceLE, Int.reduceNeg] at hc) <;> (try simp only [zw] at hc)) <;> (try (exfalso; omega))) | (refine NX.kC ?_; first | (with_reducible refine NX.call (hof) ?_) | ((first | refine NX.call (hof) ?_)) | fail) | (refine NX.kO ?_; (first | refine NX.callO (hof) (by simp [allEq]) rfl ?_)) | refine NX.k 9 (NX.one Z9 ?_) | refine NX.k 10 (NX.one Z10 ?_) | refine NX.k 14 (NX.one Z14 ?_) | refine NX.k 15 (NX.one Z15 ?_) | refine NX.k 18 (NX.one Z18 ?_) | refine NX.raw ?_) | refine Thn.exit ?_ | refine Blk.here ?_ | refine Blk.other (by decide) ?_ | refine ⟨.inl rfl, _, RetOk.ev tabOk Zc, ?_⟩ | fail)
      all_goals first | (exfalso; omega) | (refine rPV_then (by conv => lhs; cbv) ?_; simp only [hid_eq hA]; done) | (refine rPV_then (by conv => lhs; cbv) ?_; simp only [hid_eq hA]; rfl)
theorem edges_5 (p0 p1 p2 p3 p4 : AObj) (K : List (List Int)) (S : List Int) (R V : List Int) (N : List (Int × Int)) (M : List Int) (P Q : List (List Int)) :
    ACalls Try.prog 49 [.agg [.ic (.sl 1 false (hid A (List.map (encK A) K))), .ic (.sl 1 false (hid A (List.map encI S)))], .agg [.ic (.sl 1 false (hid A (List.map encI R))), .ic (.sl 1 false (hid A (List.map encI V))), .ic (.sl 2 false (hid A (List.map encN N))), .ic (.sl 1 false (hid A (List.map encI M))), .ic (.sl 1 false (hid A (List.map (encK A) P))), .ic (.sl 1 false (hid A (List.map (encK A) Q)))]] [p0, p1, p2, p3, p4]
      (fun x st' => x = .fn (.func 88) [] [.ptr 6 0, .ptr 5 0] ∧ st' = [p0, p1, p2, p3, p4, .var true 26 [.ic (.sl 1 false (hid A (List.map (encK A) K))), .ic (.sl 1 false (hid A (List.map encI S)))], .var true 31 [.ic (.sl 1 false (hid A (List.map encI R))), .ic (.sl 1 false (hid A (List.map encI V))), .ic (.sl 2 false (hid A (List.map encN N))), .ic (.sl 1 false (hid A (List.map encI M))), .ic (.sl 1 false (hid A (List.map (encK A) P))), .ic (.sl 1 false (hid A (List.map (encK A) Q)))]]) := by
  refine ACalls.of Try.func49 rfl (by kernel_rfl) rfl ?_
  try first | refine AOLg.of [] ?_ | refine QSg.of [] ?_
  repeat' (first | (refine AWp.pass ?_; first | refine AWp.seq ?_ | refine AWp.block ?_ | refine AWp.skip ?_ | refine AWp.regG [] Zc ?_ | refine AWp.cond_t rfl ?_ | refine AWp.cond_f rfl ?_ | (refine AWp.cond rfl ?_ ?_ <;> intro hc <;> (try rw [hc]) <;> ((try simp only [zn] at hc) <;> (try simp (disch := omega) only [zz hA, zb, zy, reduceCtorEq, Bool.false_eq_true, Int.reduceLT, Int.reduceLE, Int.reduceNeg] at hc) <;> (try simp only [zw] at hc)) <;> (try (exfalso; omega))) | refine AWp.exit ?_ | refine AWp.ret ⟨.inr rfl, _, RetOk.ev tabOk Zc, ?_⟩) | (refine AOLg.pass ?_; refine AOLg.nx hA tabOk Zc ?_; first | refine NX.done ?_ | refine NX.gt ?_ | refine NX.gf ?_ | (refine NX.gs ?_ ?_ <;> intro hc <;> rw [hc] <;> ((try simp only [zn] at hc) <;> (try simp (disch := omega) only [zz hA, zb, zy, reduceCtorEq, Bool.false_eq_true, Int.reduceLT, Int.reduceLE, Int.reduceNeg] at hc) <;> (try simp only [zw] at hc)) <;> (try (exfalso; omega))) | refine NX.raw ?_) | refine Thn.exit ?_ | refine Blk.here ?_ | refine Blk.other (by decide) ?_ | refine ⟨.inl rfl, _, RetOk.ev tabOk Zc, ?_⟩ | fail)
  exact ⟨rfl, rfl⟩
end Go.Proofs.Ytkkjlmcnfoncdaa.Aw

namespace Go.Proofs.Ytkkjlmcnfoncdaa.Aw
open Go Go.RowKit
set_option maxRecDepth 10000
attribute [local irreducible] AWp AOL QS One AOLg QSg NX QX TRg TX AllO Fin3
theorem sucE_len (K : List (List Int)) (V : List Int) (v : Int) (l : List Int) : (sucE K V v l).length ≤ l.length := by
  unfold sucE; rw [List.length_map]; exact List.length_filter_le _ _
theorem preE_len (K : List (List Int)) (V : List Int) (v : Int) (l : List Int) : (preE K V v l).length ≤ l.length := by
  unfold preE; rw [List.length_map]; exact List.length_filter_le _ _
theorem edges_len (K : List (List Int)) (V : List Int) (P Q : List (List Int)) (n : Nat) (hp : ∀ v : Nat, v < n → (P.getD v default).length ≤ 1000000) (hq : ∀ v : Nat, v < n → (Q.getD v default).length ≤ 1000000) : ∀ k, k ≤ n → (edgesM K V P Q k).length ≤ k * 2000000
  | 0, _ => Nat.le_refl _
  | k + 1, h => by
    have ih := edges_len K V P Q n hp hq k (by omega)
    have h1 := sucE_len K V k (Q.getD k default)
    have h2 := preE_len K V k (P.getD k default)
    have h3 := hp k (by omega)
    have h4 := hq k (by omega)
    simp only [edgesM, List.length_append]
    omega
variable {A : Ar} (hA : A = real)
include hA
theorem edgeIter (K : List (List Int)) (S : List Int) (hst : StK K S) (R V : List Int) (N : List (Int × Int)) (M : List Int) (P Q : List (List Int)) (hR : RightU V R) (hV : V.length ≤ 1000000) (hP : P.length = V.length) (hQ : Q.length = V.length) (hPl : ∀ x ∈ P, x.length ≤ 1000000) (hQl : ∀ x ∈ Q, x.length ≤ 1000000) (J : List (Int × Int) → List AObj → Prop)
    (hJ : ∀ E st, J E st → ∃ p0 p1 p2 p3 p4 c, st = [p0, p1, p2, p3, p4, .var true 26 [.ic (.sl 1 false (hid A (List.map (encK A) K))), .ic (.sl 1 false (hid A (List.map encI S)))], .var true 31 [.ic (.sl 1 false (hid A (List.map encI R))), .ic (.sl 1 false (hid A (List.map encI V))), .ic (.sl 2 false (hid A (List.map encN N))), .ic (.sl 1 false (hid A (List.map encI M))), .ic (.sl 1 false (hid A (List.map (encK A) P))), .ic (.sl 1 false (hid A (List.map (encK A) Q)))], c])
    (hy : ∀ E st x y, J E st → E.length ≤ 2000000000000 → AYield Try.prog 7 [.ic (.lit (.int .i64 x)), .ic (.lit (.int .i64 y))] st (fun r st' => r = .ic (Bo true) ∧ J (E ++ [(x, y)]) st'))
    (st : List AObj) (h0 : J [] st) : ACalls Try.prog 88 [.yl 7, .ptr 6 0, .ptr 5 0] st (fun x st' => x = .tup [] ∧ J (edgesM K V P Q V.length) st') := by
  obtain ⟨p0, p1, p2, p3, p4, c, rfl⟩ := hJ _ _ h0
  refine ACalls.of Try.func88 rfl (by kernel_rfl) rfl ?_
  have hpl : ∀ v : Nat, v < V.length → (P.getD v default).length ≤ 1000000 := fun v hv => hPl _ (by rw [List.getD_eq_getElem?_getD, List.getElem?_eq_getElem (by omega)]; exact List.getElem_mem _)
  have hql : ∀ v : Nat, v < V.length → (Q.getD v default).length ≤ 1000000 := fun v hv => hQl _ (by rw [List.getD_eq_getElem?_getD, List.getElem?_eq_getElem (by omega)]; exact List.getElem_mem _)
  clear hPl hQl
  have hf := first_c hA K S hst R V N M P Q hR
  try first | refine AOLg.of [] ?_ | refine QSg.of [] ?_
  repeat' (first | (refine AWp.pass ?_; first | refine AWp.seq ?_ | refine AWp.block ?_ | refine AWp.skip ?_ | refine AWp.regG [] Zc ?_ | refine AWp.cond_t rfl ?_ | refine AWp.cond_f rfl ?_ | (refine AWp.cond rfl ?_ ?_ <;> intro hc <;> (try rw [hc]) <;> ((try simp only [zn] at hc) <;> (try simp (disch := omega) only [zz hA, zb, zy, reduceCtorEq, Bool.false_eq_true, Int.reduceLT, Int.reduceLE, Int.reduceNeg] at hc) <;> (try simp only [zw] at hc)) <;> (try (exfalso; omega))) | refine AWp.exit ?_ | refine AWp.ret ⟨.inr rfl, _, RetOk.ev tabOk Zc, ?_⟩) | (refine AOLg.pass ?_; refine AOLg.nx hA tabOk Zc ?_; first | refine NX.done ?_ | refine NX.gt ?_ | refine NX.gf ?_ | (refine NX.gs ?_ ?_ <;> intro hc <;> rw [hc] <;> ((try simp only [zn] at hc) <;> (try simp (disch := omega) only [zz hA, zb, zy, reduceCtorEq, Bool.false_eq_true, Int.reduceLT, Int.reduceLE, Int.reduceNeg] at hc) <;> (try simp only [zw] at hc)) <;> (try (exfalso; omega))) | refine NX.k 1 (NX.one Z1 ?_) | refine NX.k 7 (NX.one Z7 ?_) | refine NX.k 10 (NX.one Z10 ?_) | refine NX.k 14 (NX.one Z14 ?_) | refine NX.k 18 (NX.one Z18 ?_) | refine NX.raw ?_) | refine Thn.exit ?_ | refine Blk.here ?_ | refine Blk.other (by decide) ?_ | refine ⟨.inl rfl, _, RetOk.ev tabOk Zc, ?_⟩ | fail)
  refine AWp.loopU (fun x : Nat × List AObj => [(17, .ic (.lit (.int .i64 (hid A (cN x.1)))))]) (fun x => x.2) (fun x => V.length - x.1) (fun x => x.1 ≤ V.length ∧ J (edgesM K V P Q x.1) x.2) (0, _) (by conv => lhs; cbv) ⟨by simp, h0⟩ (by (repeat' (first | exact subE.nil | refine subE.cons rfl ?_ | refine subE.int rfl ?_ ?_ | refine subE.bool rfl ?_ ?_ | refine subE.str rfl ?_ ?_ | refine subE.sl rfl ?_ ?_)) <;> simp [hA, real, hid, cN]) rfl ?_
  rintro ⟨k, st⟩ ⟨hk, hj⟩
  simp only [] at hk hj ⊢
  obtain ⟨p0, p1, p2, p3, p4, c, rfl⟩ := hJ _ _ hj
  by_cases hlt : k < V.length
  · have hq1 := hql k hlt
    have hp1 := hpl k hlt
    obtain ⟨z, hz⟩ : ∃ z : Int, z = (k : Int) := ⟨_, rfl⟩
    have hzk : z.toNat = k := by omega
    have e1 : (A (.hid Int) fun _ => cN k) = z := by rw [hz]; exact rhid hA _
    try first | refine AOLg.of [] ?_ | refine QSg.of [] ?_
    repeat' (first | (refine AWp.pass ?_; first | refine AWp.seq ?_ | refine AWp.block ?_ | refine AWp.skip ?_ | refine AWp.regG [] Zc ?_ | refine AWp.cond_t rfl ?_ | refine AWp.cond_f rfl ?_ | (refine AWp.cond rfl ?_ ?_ <;> intro hc <;> (try rw [hc]) <;> ((try simp only [zn] at hc) <;> (try simp (disch := omega) only [zz hA, zb, zy, reduceCtorEq, Bool.false_eq_true, Int.reduceLT, Int.reduceLE, Int.reduceNeg] at hc) <;> (try simp only [zw] at hc)) <;> (try (exfalso; omega))) | refine AWp.exit ?_ | refine AWp.ret ⟨.inr rfl, _, RetOk.ev tabOk Zc, ?_⟩) | (refine AOLg.pass ?_; refine AOLg.nx hA tabOk Zc ?_; first | refine NX.done ?_ | refine NX.gt ?_ | refine NX.gf ?_ | (refine NX.gs ?_ ?_ <;> intro hc <;> rw [hc] <;> ((try simp only [zn] at hc) <;> (try simp (disch := omega) only [zz hA, zb, zy, reduceCtorEq, Bool.false_eq_true, Int.reduceLT, Int.reduceLE, Int.reduceNeg] at hc) <;> (try simp only [zw] at hc)) <;> (try (exfalso; omega))) | refine NX.k 1 (NX.one Z1 ?_) | refine NX.k 7 (NX.one Z7 ?_) | refine NX.k 10 (NX.one Z10 ?_) | refine NX.k 14 (NX.one Z14 ?_) | refine NX.k 18 (NX.one Z18 ?_) | refine NX.raw ?_) | refine Thn.exit ?_ | refine Blk.here ?_ | refine Blk.other (by decide) ?_ | refine ⟨.inl rfl, _, RetOk.ev tabOk Zc, ?_⟩ | fail)
    all_goals try (exfalso; omega)
    rw [e1]
    have hql2 : (Q.getD z.toNat default).length ≤ 1000000 := by rw [hzk]; exact hq1
    have hpl2 : (P.getD z.toNat default).length ≤ 1000000 := by rw [hzk]; exact hp1
    have hes : edgesM K V P Q (k + 1) = edgesM K V P Q k ++ sucE K V z (Q.getD z.toNat default) ++ preE K V z (P.getD z.toNat default) := by rw [hzk, hz]; rfl
    generalize hl : Q.getD z.toNat default = l at *
    generalize hm : P.getD z.toNat default = m at *
    have hE0 := edges_len K V P Q V.length hpl hql k hk
    generalize edgesM K V P Q k = E0 at *
    refine AWp.loopU (fun x : Nat × List AObj => [(26, .ic (.lit (.int .i64 (hid A (cN x.1)))))]) (fun x => x.2) (fun x => l.length - x.1) (fun x => x.1 ≤ l.length ∧ J (E0 ++ sucE K V z (l.take x.1)) x.2) (0, _) (by conv => lhs; cbv) ⟨by simp, by simpa [sucE] using hj⟩ (by (repeat' (first | exact subE.nil | refine subE.cons rfl ?_ | refine subE.int rfl ?_ ?_ | refine subE.bool rfl ?_ ?_ | refine subE.str rfl ?_ ?_ | refine subE.sl rfl ?_ ?_)) <;> simp [hA, real, hid, cN]) rfl ?_
    clear hj
    rintro ⟨j, st⟩ ⟨hj1, hj⟩
    simp only [] at hj1 hj ⊢
    obtain ⟨p0, p1, p2, p3, p4, c, rfl⟩ := hJ _ _ hj
    by_cases hlt2 : j < l.length
    · have hs := sucE_succ K V z l j hlt2
      have e3 : ∀ y : Int, y = l.getD j default → 0 ≤ numM K V.length y → J (E0 ++ sucE K V z (l.take j) ++ [(z, fstM K V y)]) = J (E0 ++ sucE K V z (l.take (j + 1))) := by
        rintro y rfl h
        rw [hs, if_pos h, List.append_assoc]
      have e4 : ∀ y : Int, y = l.getD j default → ¬ 0 ≤ numM K V.length y → sucE K V z (l.take j) = sucE K V z (l.take (j + 1)) := by
        rintro y rfl h
        rw [hs, if_neg h, List.append_nil]
      clear hs
      have hlen : (E0 ++ sucE K V z (l.take j)).length ≤ 2000000000000 := by
        have := sucE_len K V z (l.take j)
        rw [List.length_take] at this
        rw [List.length_append]
        omega
      try first | refine AOLg.of [] ?_ | refine QSg.of [] ?_
      repeat' (first | (refine AWp.pass ?_; first | refine AWp.seq ?_ | refine AWp.block ?_ | refine AWp.skip ?_ | refine AWp.regG [] Zc ?_ | refine AWp.cond_t rfl ?_ | refine AWp.cond_f rfl ?_ | (refine AWp.cond rfl ?_ ?_ <;> intro hc <;> (try rw [hc]) <;> ((try simp only [zn] at hc) <;> (try simp (disch := omega) only [zz hA, zb, zy, reduceCtorEq, Bool.false_eq_true, Int.reduceLT, Int.reduceLE, Int.reduceNeg] at hc) <;> (try simp only [zw] at hc)) <;> (try (exfalso; omega))) | refine AWp.exit ?_ | refine AWp.ret ⟨.inr rfl, _, RetOk.ev tabOk Zc, ?_⟩) | (refine AOLg.pass ?_; refine AOLg.nx hA tabOk Zc ?_; first | refine NX.done ?_ | refine NX.gt ?_ | refine NX.gf ?_ | (refine NX.gs ?_ ?_ <;> intro hc <;> rw [hc] <;> ((try simp only [zn] at hc) <;> (try simp (disch := omega) only [zz hA, zb, zy, reduceCtorEq, Bool.false_eq_true, Int.reduceLT, Int.reduceLE, Int.reduceNeg] at hc) <;> (try simp only [zw] at hc)) <;> (try (exfalso; omega))) | (refine NX.kC ?_; first | (with_reducible refine NX.call (hf _) ?_) | ((first | refine NX.call (hf _) ?_)) | fail) | (refine NX.kO ?_; (first | refine NX.callO (hf _) (by simp [allEq]) rfl ?_)) | refine NX.k 1 (NX.one Z1 ?_) | refine NX.k 7 (NX.one Z7 ?_) | refine NX.k 10 (NX.one Z10 ?_) | refine NX.k 14 (NX.one Z14 ?_) | refine NX.k 18 (NX.one Z18 ?_) | refine NX.raw ?_) | refine Thn.exit ?_ | refine Blk.here ?_ | refine Blk.other (by decide) ?_ | refine ⟨.inl rfl, _, RetOk.ev tabOk Zc, ?_⟩ | fail)
      · refine AOL.ycall rfl rfl (hy _ _ _ _ hj hlen) ?_
        rintro y st' ⟨rfl, hj2⟩
        simp only [rhid hA, hid_eq hA, cN, Int.toNat_natCast] at hj2
        rw [e3 _ rfl (by assumption)] at hj2
        obtain ⟨p0, p1, p2, p3, p4, c, rfl⟩ := hJ _ _ hj2
        try first | refine AOLg.of [] ?_ | refine QSg.of [] ?_
        repeat' (first | (refine AWp.pass ?_; first | refine AWp.seq ?_ | refine AWp.block ?_ | refine AWp.skip ?_ | refine AWp.regG [] Zc ?_ | refine AWp.cond_t rfl ?_ | refine AWp.cond_f rfl ?_ | (refine AWp.cond rfl ?_ ?_ <;> intro hc <;> (try rw [hc]) <;> ((try simp only [zn] at hc) <;> (try simp (disch := omega) only [zz hA, zb, zy, reduceCtorEq, Bool.false_eq_true, Int.reduceLT, Int.reduceLE, Int.reduceNeg] at hc) <;> (try simp only [zw] at hc)) <;> (try (exfalso; omega))) | refine AWp.exit ?_ | refine AWp.ret ⟨.inr rfl, _, RetOk.ev tabOk Zc, ?_⟩) | (refine AOLg.pass ?_; refine AOLg.nx hA tabOk Zc ?_; first | refine NX.done ?_ | refine NX.gt ?_ | refine NX.gf ?_ | (refine NX.gs ?_ ?_ <;> intro hc <;> rw [hc] <;> ((try simp only [zn] at hc) <;> (try simp (disch := omega) only [zz hA, zb, zy, reduceCtorEq, Bool.false_eq_true, Int.reduceLT, Int.reduceLE, Int.reduceNeg] at hc) <;> (try simp only [zw] at hc)) <;> (try (exfalso; omega))) | refine NX.k 1 (NX.one Z1 ?_) | refine NX.k 7 (NX.one Z7 ?_) | refine NX.k 10 (NX.one Z10 ?_) | refine NX.k 14 (NX.one Z14 ?_) | refine NX.k 18 (NX.one Z18 ?_) | refine NX.raw ?_) | refine Thn.exit ?_ | refine Blk.here ?_ | refine Blk.other (by decide) ?_ | refine ⟨.inl rfl, _, RetOk.ev tabOk Zc, ?_⟩ | fail)
        refine ⟨(j + 1, _), ⟨?_, hj2⟩, ?_, rfl, rfl, ?_, Zk⟩
        · simp only []; omega
        · simp only []; omega
        · exact .int rfl (by exact Zd) .nil
      · refine ⟨(j + 1, _), ⟨?_, ?_⟩, ?_, rfl, rfl, ?_, Zk⟩
        · simp only []; omega
        · rw [← e4 _ rfl (by assumption)]; exact hj
        · simp only []; omega
        · exact .int rfl (by exact Zd) .nil
    · rw [show l.take j = l from List.take_of_length_le (by omega)] at hj
      try first | refine AOLg.of [] ?_ | refine QSg.of [] ?_
      repeat' (first | (refine AWp.pass ?_; first | refine AWp.seq ?_ | refine AWp.block ?_ | refine AWp.skip ?_ | refine AWp.regG [] Zc ?_ | refine AWp.cond_t rfl ?_ | refine AWp.cond_f rfl ?_ | (refine AWp.cond rfl ?_ ?_ <;> intro hc <;> (try rw [hc]) <;> ((try simp only [zn] at hc) <;> (try simp (disch := omega) only [zz hA, zb, zy, reduceCtorEq, Bool.false_eq_true, Int.reduceLT, Int.reduceLE, Int.reduceNeg] at hc) <;> (try simp only [zw] at hc)) <;> (try (exfalso; omega))) | refine AWp.exit ?_ | refine AWp.ret ⟨.inr rfl, _, RetOk.ev tabOk Zc, ?_⟩) | (refine AOLg.pass ?_; refine AOLg.nx hA tabOk Zc ?_; first | refine NX.done ?_ | refine NX.gt ?_ | refine NX.gf ?_ | (refine NX.gs ?_ ?_ <;> intro hc <;> rw [hc] <;> ((try simp only [zn] at hc) <;> (try simp (disch := omega) only [zz hA, zb, zy, reduceCtorEq, Bool.false_eq_true, Int.reduceLT, Int.reduceLE, Int.reduceNeg] at hc) <;> (try simp only [zw] at hc)) <;> (try (exfalso; omega))) | refine NX.k 1 (NX.one Z1 ?_) | refine NX.k 7 (NX.one Z7 ?_) | refine NX.k 10 (NX.one Z10 ?_) | refine NX.k 14 (NX.one Z14 ?_) | refine NX.k 18 (NX.one Z18 ?_) | refine NX.raw ?_) | refine Thn.exit ?_ | refine Blk.here ?_ | refine Blk.other (by decide) ?_ | refine ⟨.inl rfl, _, RetOk.ev tabOk Zc, ?_⟩ | fail)
      all_goals try (exfalso; omega)
      rw [show (P.getD z.toNat default) = m from hm]
      have hE1 : (E0 ++ sucE K V z l).length ≤ k * 2000000 + 1000000 := by
        have := sucE_len K V z l
        rw [List.length_append]
        omega
      generalize E0 ++ sucE K V z l = E1 at *
      refine AWp.loopU (fun x : Nat × List AObj => [(52, .ic (.lit (.int .i64 (hid A (cN x.1)))))]) (fun x => x.2) (fun x => m.length - x.1) (fun x => x.1 ≤ m.length ∧ J (E1 ++ preE K V z (m.take x.1)) x.2) (0, _) (by conv => lhs; cbv) ⟨by simp, by simpa [preE] using hj⟩ (by (repeat' (first | exact subE.nil | refine subE.cons rfl ?_ | refine subE.int rfl ?_ ?_ | refine subE.bool rfl ?_ ?_ | refine subE.str rfl ?_ ?_ | refine subE.sl rfl ?_ ?_)) <;> simp [hA, real, hid, cN]) rfl ?_
      clear hj
      rintro ⟨j, st⟩ ⟨hj1, hj⟩
      simp only [] at hj1 hj ⊢
      obtain ⟨p0, p1, p2, p3, p4, c, rfl⟩ := hJ _ _ hj
      by_cases hlt3 : j < m.length
      · have hs := preE_succ K V z m j hlt3
        have e3 : ∀ y : Int, y = m.getD j default → 0 ≤ numM K V.length y → J (E1 ++ preE K V z (m.take j) ++ [(fstM K V y, z)]) = J (E1 ++ preE K V z (m.take (j + 1))) := by
          rintro y rfl h
          rw [hs, if_pos h, List.append_assoc]
        have e4 : ∀ y : Int, y = m.getD j default → ¬ 0 ≤ numM K V.length y → preE K V z (m.take j) = preE K V z (m.take (j + 1)) := by
          rintro y rfl h
          rw [hs, if_neg h, List.append_nil]
        clear hs
        have hlen : (E1 ++ preE K V z (m.take j)).length ≤ 2000000000000 := by
          have := preE_len K V z (m.take j)
          rw [List.length_take] at this
          rw [List.length_append]
          omega
        try first | refine AOLg.of [] ?_ | refine QSg.of [] ?_
        repeat' (first | (refine AWp.pass ?_; first | refine AWp.seq ?_ | refine AWp.block ?_ | refine AWp.skip ?_ | refine AWp.regG [] Zc ?_ | refine AWp.cond_t rfl ?_ | refine AWp.cond_f rfl ?_ | (refine AWp.cond rfl ?_ ?_ <;> intro hc <;> (try rw [hc]) <;> ((try simp only [zn] at hc) <;> (try simp (disch := omega) only [zz hA, zb, zy, reduceCtorEq, Bool.false_eq_true, Int.reduceLT, Int.reduceLE, Int.reduceNeg] at hc) <;> (try simp only [zw] at hc)) <;> (try (exfalso; omega))) | refine AWp.exit ?_ | refine AWp.ret ⟨.inr rfl, _, RetOk.ev tabOk Zc, ?_⟩) | (refine AOLg.pass ?_; refine AOLg.nx hA tabOk Zc ?_; first | refine NX.done ?_ | refine NX.gt ?_ | refine NX.gf ?_ | (refine NX.gs ?_ ?_ <;> intro hc <;> rw [hc] <;> ((try simp only [zn] at hc) <;> (try simp (disch := omega) only [zz hA, zb, zy, reduceCtorEq, Bool.false_eq_true, Int.reduceLT, Int.reduceLE, Int.reduceNeg] at hc) <;> (try simp only [zw] at hc)) <;> (try (exfalso; omega))) | (refine NX.kC ?_; first | (with_reducible refine NX.call (hf _) ?_) | ((first | refine NX.call (hf _) ?_)) | fail) | (refine NX.kO ?_; (first | refine NX.callO (hf _) (by simp [allEq]) rfl ?_)) | refine NX.k 1 (NX.one Z1 ?_) | refine NX.k 7 (NX.one Z7 ?_) | refine NX.k 10 (NX.one Z10 ?_) | refine NX.k 14 (NX.one Z14 ?_) | refine NX.k 18 (NX.one Z18 ?_) | refine NX.raw ?_) | refine Thn.exit ?_ | refine Blk.here ?_ | refine Blk.other (by decide) ?_ | refine ⟨.inl rfl, _, RetOk.ev tabOk Zc, ?_⟩ | fail)
        · refine AOL.ycall rfl rfl (hy _ _ _ _ hj hlen) ?_
          rintro y st' ⟨rfl, hj2⟩
          simp only [rhid hA, hid_eq hA, cN, Int.toNat_natCast] at hj2
          rw [e3 _ rfl (by assumption)] at hj2
          obtain ⟨p0, p1, p2, p3, p4, c, rfl⟩ := hJ _ _ hj2
          try first | refine AOLg.of [] ?_ | refine QSg.of [] ?_
          repeat' (first | (refine AWp.pass ?_; first | refine AWp.seq ?_ | refine AWp.block ?_ | refine AWp.skip ?_ | refine AWp.regG [] Zc ?_ | refine AWp.cond_t rfl ?_ | refine AWp.cond_f rfl ?_ | (refine AWp.cond rfl ?_ ?_ <;> intro hc <;> (try rw [hc]) <;> ((try simp only [zn] at hc) <;> (try simp (disch := omega) only [zz hA, zb, zy, reduceCtorEq, Bool.false_eq_true, Int.reduceLT, Int.reduceLE, Int.reduceNeg] at hc) <;> (try simp only [zw] at hc)) <;> (try (exfalso; omega))) | refine AWp.exit ?_ | refine AWp.ret ⟨.inr rfl, _, RetOk.ev tabOk Zc, ?_⟩) | (refine AOLg.pass ?_; refine AOLg.nx hA tabOk Zc ?_; first | refine NX.done ?_ | refine NX.gt ?_ | refine NX.gf ?_ | (refine NX.gs ?_ ?_ <;> intro hc <;> rw [hc] <;> ((try simp only [zn] at hc) <;> (try simp (disch := omega) only [zz hA, zb, zy, reduceCtorEq, Bool.false_eq_true, Int.reduceLT, Int.reduceLE, Int.reduceNeg] at hc) <;> (try simp only [zw] at hc)) <;> (try (exfalso; omega))) | refine NX.k 1 (NX.one Z1 ?_) | refine NX.k 7 (NX.one Z7 ?_) | refine NX.k 10 (NX.one Z10 ?_) | refine NX.k 14 (NX.one Z14 ?_) | refine NX.k 18 (NX.one Z18 ?_) | refine NX.raw ?_) | refine Thn.exit ?_ | refine Blk.here ?_ | refine Blk.other (by decide) ?_ | refine ⟨.inl rfl, _, RetOk.ev tabOk Zc, ?_⟩ | fail)
          refine ⟨(j + 1, _), ⟨?_, hj2⟩, ?_, rfl, rfl, ?_, Zk⟩
          · simp only []; omega
          · simp only []; omega
          · exact .int rfl (by exact Zd) .nil
        · refine ⟨(j + 1, _), ⟨?_, ?_⟩, ?_, rfl, rfl, ?_, Zk⟩
          · simp only []; omega
          · rw [← e4 _ rfl (by assumption)]; exact hj
          · simp only []; omega
          · exact .int rfl (by exact Zd) .nil
      · rw [show m.take j = m from List.take_of_length_le (by omega)] at hj
        try first | refine AOLg.of [] ?_ | refine QSg.of [] ?_
        repeat' (first | (refine AWp.pass ?_; first | refine AWp.seq ?_ | refine AWp.block ?_ | refine AWp.skip ?_ | refine AWp.regG [] Zc ?_ | refine AWp.cond_t rfl ?_ | refine AWp.cond_f rfl ?_ | (refine AWp.cond rfl ?_ ?_ <;> intro hc <;> (try rw [hc]) <;> ((try simp only [zn] at hc) <;> (try simp (disch := omega) only [zz hA, zb, zy, reduceCtorEq, Bool.false_eq_true, Int.reduceLT, Int.reduceLE, Int.reduceNeg] at hc) <;> (try simp only [zw] at hc)) <;> (try (exfalso; omega))) | refine AWp.exit ?_ | refine AWp.ret ⟨.inr rfl, _, RetOk.ev tabOk Zc, ?_⟩) | (refine AOLg.pass ?_; refine AOLg.nx hA tabOk Zc ?_; first | refine NX.done ?_ | refine NX.gt ?_ | refine NX.gf ?_ | (refine NX.gs ?_ ?_ <;> intro hc <;> rw [hc] <;> ((try simp only [zn] at hc) <;> (try simp (disch := omega) only [zz hA, zb, zy, reduceCtorEq, Bool.false_eq_true, Int.reduceLT, Int.reduceLE, Int.reduceNeg] at hc) <;> (try simp only [zw] at hc)) <;> (try (exfalso; omega))) | refine NX.k 1 (NX.one Z1 ?_) | refine NX.k 7 (NX.one Z7 ?_) | refine NX.k 10 (NX.one Z10 ?_) | refine NX.k 14 (NX.one Z14 ?_) | refine NX.k 18 (NX.one Z18 ?_) | refine NX.raw ?_) | refine Thn.exit ?_ | refine Blk.here ?_ | refine Blk.other (by decide) ?_ | refine ⟨.inl rfl, _, RetOk.ev tabOk Zc, ?_⟩ | fail)
        all_goals try (exfalso; omega)
        rw [← hes] at hj
        refine ⟨(k + 1, _), ⟨?_, hj⟩, ?_, rfl, rfl, ?_, Zk⟩
        · simp only []; omega
        · simp only []; omega
        · exact .int rfl (by exact Zd) .nil
  · obtain rfl : k = V.length := by omega
    try first | refine AOLg.of [] ?_ | refine QSg.of [] ?_
    repeat' (first | (refine AWp.pass ?_; first | refine AWp.seq ?_ | refine AWp.block ?_ | refine AWp.skip ?_ | refine AWp.regG [] Zc ?_ | refine AWp.cond_t rfl ?_ | refine AWp.cond_f rfl ?_ | (refine AWp.cond rfl ?_ ?_ <;> intro hc <;> (try rw [hc]) <;> ((try simp only [zn] at hc) <;> (try simp (disch := omega) only [zz hA, zb, zy, reduceCtorEq, Bool.false_eq_true, Int.reduceLT, Int.reduceLE, Int.reduceNeg] at hc) <;> (try simp only [zw] at hc)) <;> (try (exfalso; omega))) | refine AWp.exit ?_ | refine AWp.ret ⟨.inr rfl, _, RetOk.ev tabOk Zc, ?_⟩) | (refine AOLg.pass ?_; refine AOLg.nx hA tabOk Zc ?_; first | refine NX.done ?_ | refine NX.gt ?_ | refine NX.gf ?_ | (refine NX.gs ?_ ?_ <;> intro hc <;> rw [hc] <;> ((try simp only [zn] at hc) <;> (try simp (disch := omega) only [zz hA, zb, zy, reduceCtorEq, Bool.false_eq_true, Int.reduceLT, Int.reduceLE, Int.reduceNeg] at hc) <;> (try simp only [zw] at hc)) <;> (try (exfalso; omega))) | refine NX.k 1 (NX.one Z1 ?_) | refine NX.k 7 (NX.one Z7 ?_) | refine NX.k 10 (NX.one Z10 ?_) | refine NX.k 14 (NX.one Z14 ?_) | refine NX.k 18 (NX.one Z18 ?_) | refine NX.raw ?_) | refine Thn.exit ?_ | refine Blk.here ?_ | refine Blk.other (by decide) ?_ | refine ⟨.inl rfl, _, RetOk.ev tabOk Zc, ?_⟩ | fail)
    exact ⟨rfl, hj⟩
end Go.Proofs.Ytkkjlmcnfoncdaa.Aw
