/- Texts of the proof, put together: the abstract walk, contracts of the functions that the statement reaches, plain laws, part 5 of 5. -/
import Derived.Test.YtkkjlmcnfoncdaaCCd
import Derived.Test.YtkkjlmcnfoncdaaCCc
set_option linter.unusedVariables false
set_option linter.unusedSimpArgs false
set_option linter.unusedSectionVars false
namespace Go.Proofs.Ytkkjlmcnfoncdaa.Aw
open Go Go.RowKit
set_option maxRecDepth 10000
attribute [local irreducible] AWp AOL QS One AOLg QSg NX QX TRg TX AllO Fin3
attribute [local irreducible] W.TRg W.TX W.AllO W.Fin3
def kM (l : List Int) (id : Int) : Nat := (l.takeWhile fun z => decide (z < id)).length
theorem kM_of : ∀ (l : List Int) (id : Int) (k : Nat), k ≤ l.length → (∀ j, j < k → l.getD j default < id) → (k = l.length ∨ ¬ l.getD k default < id) → kM l id = k
  | [], id, k, h, _, _ => by simp [kM] at *; omega
  | a :: r, id, 0, _, _, h => by
    have : ¬ a < id := by
      rcases h with h | h
      · simp at h
      · simpa using h
    simp [kM, List.takeWhile_cons, this]
  | a :: r, id, k + 1, h1, h2, h3 => by
    have h0 := h2 0 (by omega)
    simp only [List.getD_cons_zero] at h0
    have ih := kM_of r id k (by simpa using h1) (fun j hj => by simpa using h2 (j + 1) (by omega)) (by simpa using h3)
    unfold kM at ih ⊢
    simp [List.takeWhile_cons, h0, ih]
def layI (l : List Int) (id : Int) : List Int := if kM l id < l.length ∧ l.getD (kM l id) default = id then l else l.take (kM l id) ++ [id] ++ l.drop (kM l id)
def layB (l : List Int) (id : Int) : Bool := !decide (kM l id < l.length ∧ l.getD (kM l id) default = id)
theorem takeS (l : List Int) (k : Nat) (h : k < l.length) : l.take (k + 1) = l.take k ++ [l.getD k default] := by
  rw [List.take_add_one, List.getD_eq_getElem?_getD, List.getElem?_eq_getElem h]
  rfl
theorem rPV_cells {st : List AObj} {i j v u e e' sz sz' : Nat} {m m' : Bool} {xs ys : List (List IC)} {c : IC} (h2 : st[i]? = some (.row m v e sz xs)) (h3 : st[j]? = some (.row m' u e' sz' ys)) :
    rPV st (.agg [.own i v, .own j u, .ic c]) = some (.agg [.sl sz false xs, .sl sz' false ys, c]) := by
  simp [rPV, rPVs, rICs, rIC, toIC, h2, h3]
variable {A : Ar} (hA : A = real)
include hA
theorem refLay12_c (l : List Int) (id : Int) (hl : l.length ≤ 1000000) : PureCalls Try.prog 54 [intsP A l, IP id] (.tup [intsP A (layI l id), BP (hid A (layB l id))]) := by
  refine PureCalls.of Try.func54 rfl (by kernel_rfl) rfl ?_
  try first | refine AOLg.of [6] ?_ | refine QSg.of [6] ?_
  repeat' (first | (refine AWp.pass ?_; first | refine AWp.seq ?_ | refine AWp.block ?_ | refine AWp.skip ?_ | refine AWp.regG [6] Zc ?_ | refine AWp.cond_t rfl ?_ | refine AWp.cond_f rfl ?_ | (refine AWp.cond rfl ?_ ?_ <;> intro hc <;> (try rw [hc]) <;> ((try simp only [zn] at hc) <;> (try simp (disch := omega) only [zz hA, zb, zy, reduceCtorEq, Bool.false_eq_true, Int.reduceLT, Int.reduceLE, Int.reduceNeg] at hc) <;> (try simp only [zw] at hc)) <;> (try (exfalso; omega))) | refine AWp.exit ?_ | refine AWp.ret ⟨.inr rfl, _, RetOk.ev tabOk Zc, ?_⟩) | (refine AOLg.pass ?_; refine AOLg.nx hA tabOk Zc ?_; first | refine NX.done ?_ | refine NX.gt ?_ | refine NX.gf ?_ | (refine NX.gs ?_ ?_ <;> intro hc <;> rw [hc] <;> ((try simp only [zn] at hc) <;> (try simp (disch := omega) only [zz hA, zb, zy, reduceCtorEq, Bool.false_eq_true, Int.reduceLT, Int.reduceLE, Int.reduceNeg] at hc) <;> (try simp only [zw] at hc)) <;> (try (exfalso; omega))) | refine NX.k 1 (NX.one Z1 ?_) | refine NX.k 2 (NX.one Z2 ?_) | refine NX.k 7 (NX.one Z7 ?_) | refine NX.k 8 (NX.one Z8 ?_) | refine NX.k 10 (NX.one Z10 ?_) | refine NX.k 11 (NX.one Z11 ?_) | refine NX.k 14 (NX.one Z14 ?_) | refine NX.k 17 (NX.one Z17 ?_) | (refine NX.one (One.nilOwn tabOk 6 24 rfl rfl rfl) ?_) | refine NX.raw ?_) | refine Thn.exit ?_ | refine Blk.here ?_ | refine Blk.other (by decide) ?_ | refine ⟨.inl rfl, _, RetOk.ev tabOk Zc, ?_⟩ | fail)
  refine AWp.loopU (fun x : Nat × Nat => [(7, .ic (.lit (.int .i64 (hid A (cN x.1))))), (6, .own 0 x.2)]) (fun x => [.row true x.2 3 1 (hid A (List.map encI (l.take x.1)))]) (fun x => l.length - x.1) (fun x => x.1 ≤ l.length ∧ ∀ j, j < x.1 → l.getD j default < id) (0, 0) (by conv => lhs; cbv) ⟨Nat.zero_le _, by simp⟩ (by ((repeat' (first | exact subE.nil | refine subE.cons rfl ?_ | refine subE.int rfl ?_ ?_ | refine subE.bool rfl ?_ ?_ | refine subE.str rfl ?_ ?_ | refine subE.sl rfl ?_ ?_))) <;> first | rfl | simp [hA, real, hid, cN]) (by simp [hA, real, hid]) ?_
  rintro ⟨k, u⟩ ⟨hk, hless⟩
  simp only at hk hless ⊢
  by_cases hg : k < l.length ∧ l.getD k default < id
  · have ht := takeS l k hg.1
    have hkl : (l.take k).length = k := by rw [List.length_take]; omega
    generalize hT2 : l.take (k + 1) = T2 at *
    generalize l.take k = T at *
    try first | refine AOLg.of [] ?_ | refine QSg.of [] ?_
    repeat' (first | (refine AWp.pass ?_; first | refine AWp.seq ?_ | refine AWp.block ?_ | refine AWp.skip ?_ | refine AWp.regG [] Zc ?_ | refine AWp.cond_t rfl ?_ | refine AWp.cond_f rfl ?_ | (refine AWp.cond rfl ?_ ?_ <;> intro hc <;> (try rw [hc]) <;> ((try simp only [zn] at hc) <;> (try simp (disch := omega) only [zz hA, zb, zy, reduceCtorEq, Bool.false_eq_true, Int.reduceLT, Int.reduceLE, Int.reduceNeg] at hc) <;> (try simp only [zw] at hc)) <;> (try (exfalso; omega))) | refine AWp.exit ?_ | refine AWp.ret ⟨.inr rfl, _, RetOk.ev tabOk Zc, ?_⟩) | (refine AOLg.pass ?_; refine AOLg.nx hA tabOk Zc ?_; first | refine NX.done ?_ | refine NX.gt ?_ | refine NX.gf ?_ | (refine NX.gs ?_ ?_ <;> intro hc <;> rw [hc] <;> ((try simp only [zn] at hc) <;> (try simp (disch := omega) only [zz hA, zb, zy, reduceCtorEq, Bool.false_eq_true, Int.reduceLT, Int.reduceLE, Int.reduceNeg] at hc) <;> (try simp only [zw] at hc)) <;> (try (exfalso; omega))) | refine NX.k 1 (NX.one Z1 ?_) | refine NX.k 2 (NX.one Z2 ?_) | refine NX.k 7 (NX.one Z7 ?_) | refine NX.k 8 (NX.one Z8 ?_) | refine NX.k 10 (NX.one Z10 ?_) | refine NX.k 11 (NX.one Z11 ?_) | refine NX.k 14 (NX.one Z14 ?_) | refine NX.k 17 (NX.one Z17 ?_) | refine NX.raw ?_) | refine Thn.exit ?_ | refine Blk.here ?_ | refine Blk.other (by decide) ?_ | refine ⟨.inl rfl, _, RetOk.ev tabOk Zc, ?_⟩ | fail)
    all_goals try (exfalso; omega)
    refine ⟨(k + 1, u + 1), ⟨by simp only; omega, fun j hj => ?_⟩, by simp only; omega, rfl, ?_, ?_, Zk⟩
    · simp only at hj
      rcases Nat.lt_or_ge j k with h | h
      · exact hless j h
      · obtain rfl : j = k := by omega
        exact hg.2
    · simp only [hT2, ht, rhid hA, hid_eq hA, cN, Int.toNat_natCast]
    · (repeat' (first | exact subE.nil | refine subE.cons rfl ?_ | refine subE.int rfl ?_ ?_ | refine subE.bool rfl ?_ ?_ | refine subE.str rfl ?_ ?_ | refine subE.sl rfl ?_ ?_))
      all_goals first | rfl | exact Zd
  · have hkm := kM_of l id k hk hless (by omega)
    have hkl : (l.take k).length = k := by rw [List.length_take]; omega
    have hdl : (l.drop k).length = l.length - k := List.length_drop
    unfold layI layB
    rw [hkm]
    by_cases he : k < l.length ∧ l.getD k default = id
    · rw [if_pos he, decide_eq_true he]
      generalize l.take k = T at *
      try first | refine AOLg.of [] ?_ | refine QSg.of [] ?_
      repeat' (first | (refine AWp.pass ?_; first | refine AWp.seq ?_ | refine AWp.block ?_ | refine AWp.skip ?_ | refine AWp.regG [] Zc ?_ | refine AWp.cond_t rfl ?_ | refine AWp.cond_f rfl ?_ | (refine AWp.cond rfl ?_ ?_ <;> intro hc <;> (try rw [hc]) <;> ((try simp only [zn] at hc) <;> (try simp (disch := omega) only [zz hA, zb, zy, reduceCtorEq, Bool.false_eq_true, Int.reduceLT, Int.reduceLE, Int.reduceNeg] at hc) <;> (try simp only [zw] at hc)) <;> (try (exfalso; omega))) | refine AWp.exit ?_ | refine AWp.ret ⟨.inr rfl, _, RetOk.ev tabOk Zc, ?_⟩) | (refine AOLg.pass ?_; refine AOLg.nx hA tabOk Zc ?_; first | refine NX.done ?_ | refine NX.gt ?_ | refine NX.gf ?_ | (refine NX.gs ?_ ?_ <;> intro hc <;> rw [hc] <;> ((try simp only [zn] at hc) <;> (try simp (disch := omega) only [zz hA, zb, zy, reduceCtorEq, Bool.false_eq_true, Int.reduceLT, Int.reduceLE, Int.reduceNeg] at hc) <;> (try simp only [zw] at hc)) <;> (try (exfalso; omega))) | refine NX.k 1 (NX.one Z1 ?_) | refine NX.k 2 (NX.one Z2 ?_) | refine NX.k 7 (NX.one Z7 ?_) | refine NX.k 8 (NX.one Z8 ?_) | refine NX.k 10 (NX.one Z10 ?_) | refine NX.k 11 (NX.one Z11 ?_) | refine NX.k 14 (NX.one Z14 ?_) | refine NX.k 17 (NX.one Z17 ?_) | refine NX.raw ?_) | refine Thn.exit ?_ | refine Blk.here ?_ | refine Blk.other (by decide) ?_ | refine ⟨.inl rfl, _, RetOk.ev tabOk Zc, ?_⟩ | fail)
      all_goals try (exfalso; omega)
      all_goals (refine rPV_then (by conv => lhs; cbv) ?_; show _ = PV.tup [.c (.sl 1 false (hid A (List.map encI l))), .c (.lit (.bool (hid A (!true))))]; simp only [hid_eq hA]; rfl)
    · rw [if_neg he, decide_eq_false he]
      generalize l.take k = T at *
      try first | refine AOLg.of [] ?_ | refine QSg.of [] ?_
      repeat' (first | (refine AWp.pass ?_; first | refine AWp.seq ?_ | refine AWp.block ?_ | refine AWp.skip ?_ | refine AWp.regG [] Zc ?_ | refine AWp.cond_t rfl ?_ | refine AWp.cond_f rfl ?_ | (refine AWp.cond rfl ?_ ?_ <;> intro hc <;> (try rw [hc]) <;> ((try simp only [zn] at hc) <;> (try simp (disch := omega) only [zz hA, zb, zy, reduceCtorEq, Bool.false_eq_true, Int.reduceLT, Int.reduceLE, Int.reduceNeg] at hc) <;> (try simp only [zw] at hc)) <;> (try (exfalso; omega))) | refine AWp.exit ?_ | refine AWp.ret ⟨.inr rfl, _, RetOk.ev tabOk Zc, ?_⟩) | (refine AOLg.pass ?_; refine AOLg.nx hA tabOk Zc ?_; first | refine NX.done ?_ | refine NX.gt ?_ | refine NX.gf ?_ | (refine NX.gs ?_ ?_ <;> intro hc <;> rw [hc] <;> ((try simp only [zn] at hc) <;> (try simp (disch := omega) only [zz hA, zb, zy, reduceCtorEq, Bool.false_eq_true, Int.reduceLT, Int.reduceLE, Int.reduceNeg] at hc) <;> (try simp only [zw] at hc)) <;> (try (exfalso; omega))) | refine NX.k 1 (NX.one Z1 ?_) | refine NX.k 2 (NX.one Z2 ?_) | refine NX.k 7 (NX.one Z7 ?_) | refine NX.k 8 (NX.one Z8 ?_) | refine NX.k 10 (NX.one Z10 ?_) | refine NX.k 11 (NX.one Z11 ?_) | refine NX.k 14 (NX.one Z14 ?_) | refine NX.k 17 (NX.one Z17 ?_) | refine NX.raw ?_) | refine Thn.exit ?_ | refine Blk.here ?_ | refine Blk.other (by decide) ?_ | refine ⟨.inl rfl, _, RetOk.ev tabOk Zc, ?_⟩ | fail)
      all_goals try (exfalso; omega)
      all_goals
        show rPV _ _ = some _
        rw [rPV_own2 (i := 0) rfl rfl]
        show _ = some (PV.tup [.c (.sl 1 false (hid A (List.map encI (T ++ [id] ++ l.drop k)))), .c (.lit (.bool (hid A (!false))))])
        simp only [rhid hA, hid_eq hA, cN, Int.toNat_natCast]
        rfl
theorem refGrow_c (V : List Int) (N : List (Int × Int)) (M : List Int) (v : Int) (hV : V.length ≤ 1000000) (hN : N.length ≤ 1000000) : PureCalls Try.prog 130 [clP A V N M, IP v] (clP A (V ++ [v]) (N ++ [(-1, 0)]) M) := by
  refine PureCalls.of Try.func130 rfl (by kernel_rfl) rfl ?_
  try first | refine AOLg.of [] ?_ | refine QSg.of [] ?_
  repeat' (first | (refine AWp.pass ?_; first | refine AWp.seq ?_ | refine AWp.block ?_ | refine AWp.skip ?_ | refine AWp.regG [] Zc ?_ | refine AWp.cond_t rfl ?_ | refine AWp.cond_f rfl ?_ | (refine AWp.cond rfl ?_ ?_ <;> intro hc <;> (try rw [hc]) <;> ((try simp only [zn] at hc) <;> (try simp (disch := omega) only [zz hA, zb, zy, reduceCtorEq, Bool.false_eq_true, Int.reduceLT, Int.reduceLE, Int.reduceNeg] at hc) <;> (try simp only [zw] at hc)) <;> (try (exfalso; omega))) | refine AWp.exit ?_ | refine AWp.ret ⟨.inr rfl, _, RetOk.ev tabOk Zc, ?_⟩ | refine W.AWp.drawVG [] rfl (by decide +kernel) Zc ?_) | (refine AOLg.pass ?_; refine AOLg.nx hA tabOk Zc ?_; first | refine NX.done ?_ | refine NX.gt ?_ | refine NX.gf ?_ | (refine NX.gs ?_ ?_ <;> intro hc <;> rw [hc] <;> ((try simp only [zn] at hc) <;> (try simp (disch := omega) only [zz hA, zb, zy, reduceCtorEq, Bool.false_eq_true, Int.reduceLT, Int.reduceLE, Int.reduceNeg] at hc) <;> (try simp only [zw] at hc)) <;> (try (exfalso; omega))) | refine NX.k 11 (NX.one Z11 ?_) | refine NX.k 14 (NX.one Z14 ?_) | refine NX.k 15 (NX.one Z15 ?_) | refine NX.k 17 (NX.one Z17 ?_) | refine NX.k 18 (NX.one Z18 ?_) | (refine NX.one (One.appendOwnM hA tabOk (f := encN) (-1, 0) rfl rfl rfl rfl rfl rfl rfl Zd Zd) ?_) | (refine NX.one (One.appendOwnM hA tabOk (f := encI) v rfl rfl rfl rfl rfl rfl rfl Zd Zd) ?_) | refine NX.raw ?_) | (refine W.TRg.pass ?_; refine W.TRg.nx hA tabOk Zc ?_; first | refine W.TX.done ?_ | refine W.TX.gt ?_ | refine W.TX.gf ?_ | (refine W.TX.gs ?_ ?_ <;> intro hc <;> rw [hc] <;> ((try simp only [zn] at hc) <;> (try simp (disch := omega) only [zz hA, zb, zy, reduceCtorEq, Bool.false_eq_true, Int.reduceLT, Int.reduceLE, Int.reduceNeg] at hc) <;> (try simp only [zw] at hc)) <;> (try (exfalso; omega))) | refine W.TX.k 11 (W.TX.one Z11 ?_) | refine W.TX.k 14 (W.TX.one Z14 ?_) | refine W.TX.k 15 (W.TX.one Z15 ?_) | refine W.TX.k 17 (W.TX.one Z17 ?_) | refine W.TX.k 18 (W.TX.one Z18 ?_) | (refine W.TX.one (One.appendOwnM hA tabOk (f := encN) (-1, 0) rfl rfl rfl rfl rfl rfl rfl Zd Zd) ?_) | (refine W.TX.one (One.appendOwnM hA tabOk (f := encI) v rfl rfl rfl rfl rfl rfl rfl Zd Zd) ?_) | refine W.TX.raw ?_) | refine W.Fin3.of Zc (by repeat' (first | exact True.intro | exact rfl | refine And.intro ?_ ?_)) ?_ ?_ | (refine W.AllO.pass ?_; first | exact W.AllO.nil | (refine W.AllO.cons (One.ev hA tabOk ?_) ?_ <;> (first | refine W.AllO.pass ?_ | ((conv => lhs; cbv); done))) | (refine W.AllO.cons (One.skipB ?_) ?_ <;> (first | refine W.AllO.pass ?_ | ((conv => lhs; cbv); done))) | refine W.AllO.consX ZX rfl rfl ?_) | refine Thn.exit ?_ | refine Blk.here ?_ | refine Blk.other (by decide) ?_ | refine ⟨.inl rfl, _, RetOk.ev tabOk Zc, ?_⟩ | fail)
  all_goals
    show rPV _ _ = some _
    rw [rPV_cells (i := 3) (j := 2) rfl rfl]
theorem refAdd5_c (V : List Int) (N : List (Int × Int)) (M : List Int) (hV : V.length ≤ 1000000) (hN : N.length ≤ 1000000) : PureCalls Try.prog 106 [clP A V N M] (clP A (V ++ [(V.length : Int)]) (N ++ [(-1, 0)]) M) := by
  have hg := refGrow_c hA V N M (A .len (hid A (List.map encI V))) hV hN
  rw [show (A .len (hid A (List.map encI V)) : Int) = V.length by simp [hA, real, hid]] at hg
  have e : (A .len (hid A (List.map encI V)) : Int) = V.length := by simp [hA, real, hid]
  rw [← e] at hg ⊢
  refine PureCalls.of Try.func106 rfl (by kernel_rfl) rfl ?_
  try first | refine AOLg.of [] ?_ | refine QSg.of [] ?_
  repeat' (first | (refine AWp.pass ?_; first | refine AWp.seq ?_ | refine AWp.block ?_ | refine AWp.skip ?_ | refine AWp.regG [] Zc ?_ | refine AWp.cond_t rfl ?_ | refine AWp.cond_f rfl ?_ | (refine AWp.cond rfl ?_ ?_ <;> intro hc <;> (try rw [hc]) <;> ((try simp only [zn] at hc) <;> (try simp (disch := omega) only [zz hA, zb, zy, reduceCtorEq, Bool.false_eq_true, Int.reduceLT, Int.reduceLE, Int.reduceNeg] at hc) <;> (try simp only [zw] at hc)) <;> (try (exfalso; omega))) | refine AWp.exit ?_ | refine AWp.ret ⟨.inr rfl, _, RetOk.ev tabOk Zc, ?_⟩) | (refine AOLg.pass ?_; refine AOLg.nx hA tabOk Zc ?_; first | refine NX.done ?_ | refine NX.gt ?_ | refine NX.gf ?_ | (refine NX.gs ?_ ?_ <;> intro hc <;> rw [hc] <;> ((try simp only [zn] at hc) <;> (try simp (disch := omega) only [zz hA, zb, zy, reduceCtorEq, Bool.false_eq_true, Int.reduceLT, Int.reduceLE, Int.reduceNeg] at hc) <;> (try simp only [zw] at hc)) <;> (try (exfalso; omega))) | (refine NX.kC ?_; first | (with_reducible refine NX.call (hg) ?_) | ((first | refine NX.call (hg) ?_)) | fail) | (refine NX.kO ?_; (first | refine NX.callO (hg) (by simp [allEq]) rfl ?_)) | refine NX.k 10 (NX.one Z10 ?_) | refine NX.k 14 (NX.one Z14 ?_) | refine NX.k 15 (NX.one Z15 ?_) | refine NX.k 18 (NX.one Z18 ?_) | refine NX.raw ?_) | refine Thn.exit ?_ | refine Blk.here ?_ | refine Blk.other (by decide) ?_ | refine ⟨.inl rfl, _, RetOk.ev tabOk Zc, ?_⟩ | fail)
  all_goals (refine rPV_then (by conv => lhs; cbv) ?_; rfl)
set_option maxHeartbeats 4000000 in
theorem refMore12_c (R V : List Int) (N : List (Int × Int)) (M : List Int) (P Q : List (List Int)) (n : Int) (hV : V.length ≤ 100000) (hN : N.length ≤ 100000) (hP : P.length ≤ 100000) (hQ : Q.length ≤ 100000) (hn : n ≤ 100000) :
    PureCalls Try.prog 85 [grP A R V N M P Q, IP n] (grP A R (moreV V (n - V.length).toNat) (moreN N (n - V.length).toNat) M (moreP P (n - V.length).toNat) (moreP Q (n - V.length).toNat)) := by
  refine PureCalls.of Try.func85 rfl (by kernel_rfl) rfl ?_
  try first | refine AOLg.of [] ?_ | refine QSg.of [] ?_
  repeat' (first | (refine AWp.pass ?_; first | refine AWp.seq ?_ | refine AWp.block ?_ | refine AWp.skip ?_ | refine AWp.regG [] Zc ?_ | refine AWp.cond_t rfl ?_ | refine AWp.cond_f rfl ?_ | (refine AWp.cond rfl ?_ ?_ <;> intro hc <;> (try rw [hc]) <;> ((try simp only [zn] at hc) <;> (try simp (disch := omega) only [zz hA, zb, zy, reduceCtorEq, Bool.false_eq_true, Int.reduceLT, Int.reduceLE, Int.reduceNeg] at hc) <;> (try simp only [zw] at hc)) <;> (try (exfalso; omega))) | refine AWp.exit ?_ | refine AWp.ret ⟨.inr rfl, _, RetOk.ev tabOk Zc, ?_⟩) | (refine AOLg.pass ?_; refine AOLg.nx hA tabOk Zc ?_; first | refine NX.done ?_ | refine NX.gt ?_ | refine NX.gf ?_ | (refine NX.gs ?_ ?_ <;> intro hc <;> rw [hc] <;> ((try simp only [zn] at hc) <;> (try simp (disch := omega) only [zz hA, zb, zy, reduceCtorEq, Bool.false_eq_true, Int.reduceLT, Int.reduceLE, Int.reduceNeg] at hc) <;> (try simp only [zw] at hc)) <;> (try (exfalso; omega))) | refine NX.k 10 (NX.one Z10 ?_) | refine NX.k 11 (NX.one Z11 ?_) | refine NX.k 14 (NX.one Z14 ?_) | refine NX.k 15 (NX.one Z15 ?_) | refine NX.k 17 (NX.one Z17 ?_) | refine NX.k 18 (NX.one Z18 ?_) | (refine NX.one (One.build0 tabOk rfl rfl) ?_) | (refine NX.one (One.appendOwn0 hA tabOk rfl rfl rfl rfl rfl rfl Zd Zd) ?_) | refine NX.raw ?_) | refine Thn.exit ?_ | refine Blk.here ?_ | refine Blk.other (by decide) ?_ | refine ⟨.inl rfl, _, RetOk.ev tabOk Zc, ?_⟩ | fail)
  generalize hK : (n - (V.length : Int)).toNat = K
  refine AWp.loopU (fun x : Nat × Nat => [(6, .own 3 x.2), (7, .own 4 x.2)]) (fun x => [.var true 31 [.ic (.sl 1 false (hid A (List.map encI R))), .ic (.sl 1 false (hid A (List.map encI V))), .ic (.sl 2 false (hid A (List.map encN N))), .ic (.sl 1 false (hid A (List.map encI M))), .ic (.sl 1 false (hid A (List.map (encK A) P))), .ic (.sl 1 false (hid A (List.map (encK A) Q)))], .var true 31 [.ic (.sl 0 true []), .ic (.sl 0 true []), .ic (.sl 0 true []), .ic (.sl 0 true []), .ic (.sl 0 true []), .ic (.sl 0 true [])], .var true 29 [.ic (.sl 1 false (hid A (List.map encI (moreV V x.1)))), .ic (.sl 2 false (hid A (List.map encN (moreN N x.1)))), .ic (.sl 1 false (hid A (List.map encI M)))],
    .row true x.2 24 1 (hid A (List.map (encK A) (moreP P x.1))), .row true x.2 24 1 (hid A (List.map (encK A) (moreP Q x.1)))]) (fun x => K - x.1) (fun x => x.1 ≤ K) (0, 1) (by conv => lhs; cbv) (Nat.zero_le _) (by ((repeat' (first | exact subE.nil | refine subE.cons rfl ?_ | refine subE.int rfl ?_ ?_ | refine subE.bool rfl ?_ ?_ | refine subE.str rfl ?_ ?_ | refine subE.sl rfl ?_ ?_))) <;> rfl) rfl ?_
  rintro ⟨k, v⟩ hk
  simp only at hk ⊢
  have l1 := moreV_len V k
  have l2 := moreN_len N k
  have l3 := moreP_len P k
  have l4 := moreP_len Q k
  by_cases hlt : k < K
  · have e1 : moreV V (k + 1) = moreV V k ++ [((moreV V k).length : Int)] := rfl
    have e2 : moreN N (k + 1) = moreN N k ++ [(-1, 0)] := rfl
    have e3 : moreP P (k + 1) = moreP P k ++ [[]] := rfl
    have e4 : moreP Q (k + 1) = moreP Q k ++ [[]] := rfl
    generalize hV2 : moreV V (k + 1) = V2 at *
    generalize hV1 : moreV V k = V1 at *
    generalize hN2 : moreN N (k + 1) = N2 at *
    generalize hN1 : moreN N k = N1 at *
    generalize hP2 : moreP P (k + 1) = P2 at *
    generalize hP1 : moreP P k = P1 at *
    generalize hQ2 : moreP Q (k + 1) = Q2 at *
    generalize hQ1 : moreP Q k = Q1 at *
    have hadd := refAdd5_c hA V1 N1 M (by omega) (by omega)
    try first | refine AOLg.of [26, 29] ?_ | refine QSg.of [26, 29] ?_
    repeat' (first | (refine AWp.pass ?_; first | refine AWp.seq ?_ | refine AWp.block ?_ | refine AWp.skip ?_ | refine AWp.regG [26, 29] Zc ?_ | refine AWp.cond_t rfl ?_ | refine AWp.cond_f rfl ?_ | (refine AWp.cond rfl ?_ ?_ <;> intro hc <;> (try rw [hc]) <;> ((try simp only [zn] at hc) <;> (try simp (disch := omega) only [zz hA, zb, zy, reduceCtorEq, Bool.false_eq_true, Int.reduceLT, Int.reduceLE, Int.reduceNeg] at hc) <;> (try simp only [zw] at hc)) <;> (try (exfalso; omega))) | refine AWp.exit ?_ | refine AWp.ret ⟨.inr rfl, _, RetOk.ev tabOk Zc, ?_⟩) | (refine AOLg.pass ?_; refine AOLg.nx hA tabOk Zc ?_; first | refine NX.done ?_ | refine NX.gt ?_ | refine NX.gf ?_ | (refine NX.gs ?_ ?_ <;> intro hc <;> rw [hc] <;> ((try simp only [zn] at hc) <;> (try simp (disch := omega) only [zz hA, zb, zy, reduceCtorEq, Bool.false_eq_true, Int.reduceLT, Int.reduceLE, Int.reduceNeg] at hc) <;> (try simp only [zw] at hc)) <;> (try (exfalso; omega))) | (refine NX.kC ?_; first | (with_reducible refine NX.call (hadd) ?_) | ((first | refine NX.call (hadd) ?_)) | fail) | (refine NX.kO ?_; (first | refine NX.callO (hadd) (by simp [allEq]) rfl ?_)) | refine NX.k 10 (NX.one Z10 ?_) | refine NX.k 11 (NX.one Z11 ?_) | refine NX.k 14 (NX.one Z14 ?_) | refine NX.k 15 (NX.one Z15 ?_) | refine NX.k 17 (NX.one Z17 ?_) | refine NX.k 18 (NX.one Z18 ?_) | (refine NX.one (One.weak (ys := [encK A []]) (One.ev hA tabOk Zc) (.cons (.cons (ILe.nilM hA encI 0 1 true) .nil) .nil)) ?_) | (refine NX.one (One.weak (ys := [encK A []]) (One.ev hA tabOk Zc) (.cons (.cons (ILe.nilM hA encI 0 1 true) .nil) .nil)) ?_) | (refine NX.one (One.appendOwnM hA tabOk (f := encK A) [] rfl rfl rfl rfl rfl rfl rfl Zd Zd) ?_) | refine NX.raw ?_) | refine Thn.exit ?_ | refine Blk.here ?_ | refine Blk.other (by decide) ?_ | refine ⟨.inl rfl, _, RetOk.ev tabOk Zc, ?_⟩ | fail)
    refine ⟨(k + 1, v + 1), by simp only; omega, by simp only; omega, rfl, ?_, (by ((repeat' (first | exact subE.nil | refine subE.cons rfl ?_ | refine subE.int rfl ?_ ?_ | refine subE.bool rfl ?_ ?_ | refine subE.str rfl ?_ ?_ | refine subE.sl rfl ?_ ?_))) <;> rfl), Zk⟩
    simp only [hV2, hN2, hP2, hQ2, e1, e2, e3, e4]
  · try first | refine AOLg.of [] ?_ | refine QSg.of [] ?_
    repeat' (first | (refine AWp.pass ?_; first | refine AWp.seq ?_ | refine AWp.block ?_ | refine AWp.skip ?_ | refine AWp.regG [] Zc ?_ | refine AWp.cond_t rfl ?_ | refine AWp.cond_f rfl ?_ | (refine AWp.cond rfl ?_ ?_ <;> intro hc <;> (try rw [hc]) <;> ((try simp only [zn] at hc) <;> (try simp (disch := omega) only [zz hA, zb, zy, reduceCtorEq, Bool.false_eq_true, Int.reduceLT, Int.reduceLE, Int.reduceNeg] at hc) <;> (try simp only [zw] at hc)) <;> (try (exfalso; omega))) | refine AWp.exit ?_ | refine AWp.ret ⟨.inr rfl, _, RetOk.ev tabOk Zc, ?_⟩) | (refine AOLg.pass ?_; refine AOLg.nx hA tabOk Zc ?_; first | refine NX.done ?_ | refine NX.gt ?_ | refine NX.gf ?_ | (refine NX.gs ?_ ?_ <;> intro hc <;> rw [hc] <;> ((try simp only [zn] at hc) <;> (try simp (disch := omega) only [zz hA, zb, zy, reduceCtorEq, Bool.false_eq_true, Int.reduceLT, Int.reduceLE, Int.reduceNeg] at hc) <;> (try simp only [zw] at hc)) <;> (try (exfalso; omega))) | refine NX.k 10 (NX.one Z10 ?_) | refine NX.k 11 (NX.one Z11 ?_) | refine NX.k 14 (NX.one Z14 ?_) | refine NX.k 15 (NX.one Z15 ?_) | refine NX.k 17 (NX.one Z17 ?_) | refine NX.k 18 (NX.one Z18 ?_) | refine NX.raw ?_) | refine Thn.exit ?_ | refine Blk.here ?_ | refine Blk.other (by decide) ?_ | refine ⟨.inl rfl, _, RetOk.ev tabOk Zc, ?_⟩ | fail)
    all_goals try (exfalso; omega)
    rw [show k = K by omega]
    exact rPV_gr rfl rfl
theorem refNew12_c : PureCalls Try.prog 46 [.c (.sl 0 false []), IP 2] (grP A [] [0, 1] [(-1, 0), (-1, 0)] [] [[], []] [[], []]) := by
  have hm := refMore12_c hA [] [] [] [] [] [] 2 (by decide) (by decide) (by decide) (by decide) (by decide)
  have e : (grP A [] (moreV [] (2 - (([] : List Int).length : Int)).toNat) (moreN [] (2 - (([] : List Int).length : Int)).toNat) [] (moreP [] (2 - (([] : List Int).length : Int)).toNat) (moreP [] (2 - (([] : List Int).length : Int)).toNat)) = grP A [] [0, 1] [(-1, 0), (-1, 0)] [] [[], []] [[], []] := rfl
  rw [e] at hm
  refine PureCalls.of Try.func46 rfl (by kernel_rfl) rfl ?_
  try first | refine AOLg.of [] ?_ | refine QSg.of [] ?_
  repeat' (first | (refine AWp.pass ?_; first | refine AWp.seq ?_ | refine AWp.block ?_ | refine AWp.skip ?_ | refine AWp.regG [] Zc ?_ | refine AWp.cond_t rfl ?_ | refine AWp.cond_f rfl ?_ | (refine AWp.cond rfl ?_ ?_ <;> intro hc <;> (try rw [hc]) <;> ((try simp only [zn] at hc) <;> (try simp (disch := omega) only [zz hA, zb, zy, reduceCtorEq, Bool.false_eq_true, Int.reduceLT, Int.reduceLE, Int.reduceNeg] at hc) <;> (try simp only [zw] at hc)) <;> (try (exfalso; omega))) | refine AWp.exit ?_ | refine AWp.ret ⟨.inr rfl, _, RetOk.ev tabOk Zc, ?_⟩) | (refine AOLg.pass ?_; refine AOLg.nx hA tabOk Zc ?_; first | refine NX.done ?_ | refine NX.gt ?_ | refine NX.gf ?_ | (refine NX.gs ?_ ?_ <;> intro hc <;> rw [hc] <;> ((try simp only [zn] at hc) <;> (try simp (disch := omega) only [zz hA, zb, zy, reduceCtorEq, Bool.false_eq_true, Int.reduceLT, Int.reduceLE, Int.reduceNeg] at hc) <;> (try simp only [zw] at hc)) <;> (try (exfalso; omega))) | (refine NX.kC ?_; first | (with_reducible refine NX.call (hm) ?_) | (refine NX.call (PureCalls.weaken (hm) ?_) ?_ <;> (first | refine AOLg.pass ?_ | ((with_reducible repeat' (first | exact PLes.nil | exact ILes.nil | refine PLes.cons (PLe.refl _) ?_ | refine PLes.cons (PLe.c (ILe.nilM hA _ _ _ _)) ?_ | refine PLes.cons (PLe.agg ?_) ?_ | refine ILes.cons (ILe.refl _) ?_ | refine ILes.cons (ILe.nilM hA _ _ _ _) ?_)); done) | exact Zd)) | ((first | refine NX.call (hm) ?_)) | fail) | (refine NX.kO ?_; (first | refine NX.callO (hm) (by simp [allEq]) rfl ?_)) | refine NX.k 15 (NX.one Z15 ?_) | refine NX.raw ?_) | refine Thn.exit ?_ | refine Blk.here ?_ | refine Blk.other (by decide) ?_ | refine ⟨.inl rfl, _, RetOk.ev tabOk Zc, ?_⟩ | fail)
  all_goals first | (refine rPV_then (by conv => lhs; cbv) ?_; rfl) | fail
end Go.Proofs.Ytkkjlmcnfoncdaa.Aw

namespace Go.Proofs.Ytkkjlmcnfoncdaa.Aw
open Go Go.RowKit
set_option maxRecDepth 10000
attribute [local irreducible] AWp AOL QS One AOLg QSg NX QX TRg TX AllO Fin3
def mayG (K : List (List Int)) (R : List Int) (n : Nat) (id v : Int) (less : Bool) : Bool :=
  if 0 ≤ numM K n id then lessM R (numM K n id) v
  else if less then decide (kindM K id = 1 ∨ kindM K id = 3) else decide (kindM K id = 0 ∨ kindM K id = 3 ∨ kindM K id = 6)
def rowB (K : List (List Int)) (R : List Int) (n : Nat) (l : List Int) (v : Int) (less : Bool) : Bool :=
  allB l.length fun i => mayG K R n (l.getD i default) v less && (decide (i = 0) || decide (l.getD (i - 1) default < l.getD i default))
def nodeB (K : List (List Int)) (R V : List Int) (P Q : List (List Int)) (v : Nat) : Bool :=
  rowB K R V.length (P.getD v default) v true && (rowB K R V.length (Q.getD v default) v false && (decide (V.getD v default = (v : Int)) || decide ((P.getD v default).length = 0 ∧ (Q.getD v default).length = 0)))
def rightGr (K : List (List Int)) (R V : List Int) (N : List (Int × Int)) (M : List Int) (P Q : List (List Int)) : Bool :=
  (rightB V R && (⟨V, N, M⟩ : Cl).right) && (decide (M.length = 0 ∧ P.length = V.length ∧ Q.length = V.length) && allB V.length (nodeB K R V P Q))
variable {A : Ar} (hA : A = real)
include hA
theorem refMayG_c (K : List (List Int)) (S : List Int) (h : StK K S) (R V : List Int) (N : List (Int × Int)) (M : List Int) (P Q : List (List Int)) (hr : R.length ≤ 1000000) (id v : Int) (less : Bool) :
    PureCalls Try.prog 53 [keyedPV A K S, grP A R V N M P Q, IP id, IP v, BP less] (BP (hid A (mayG K R V.length id v less))) := by
  have hnum := refNumber_c hA K S h.ok h.keys R V N M P Q id
  have hless := refLess_c hA R (numM K V.length id) v hr
  unfold mayG
  refine PureCalls.of Try.func53 rfl (by kernel_rfl) rfl ?_
  by_cases hn : 0 ≤ numM K V.length id
  · rw [if_pos hn]
    generalize lessM R (numM K V.length id) v = b at *
    generalize numM K V.length id = x at *
    rw [← hid_eq hA x] at hless
    try first | refine AOLg.of [] ?_ | refine QSg.of [] ?_
    repeat' (first | (refine AWp.pass ?_; first | refine AWp.seq ?_ | refine AWp.block ?_ | refine AWp.skip ?_ | refine AWp.regG [] Zc ?_ | refine AWp.cond_t rfl ?_ | refine AWp.cond_f rfl ?_ | (refine AWp.cond rfl ?_ ?_ <;> intro hc <;> (try rw [hc]) <;> ((try simp only [zn] at hc) <;> (try simp (disch := omega) only [zz hA, zb, zy, reduceCtorEq, Bool.false_eq_true, Int.reduceLT, Int.reduceLE, Int.reduceNeg] at hc) <;> (try simp only [zw] at hc)) <;> (try (exfalso; omega))) | refine AWp.exit ?_ | refine AWp.ret ⟨.inr rfl, _, RetOk.ev tabOk Zc, ?_⟩) | (refine AOLg.pass ?_; refine AOLg.nx hA tabOk Zc ?_; first | refine NX.done ?_ | refine NX.gt ?_ | refine NX.gf ?_ | (refine NX.gs ?_ ?_ <;> intro hc <;> rw [hc] <;> ((try simp only [zn] at hc) <;> (try simp (disch := omega) only [zz hA, zb, zy, reduceCtorEq, Bool.false_eq_true, Int.reduceLT, Int.reduceLE, Int.reduceNeg] at hc) <;> (try simp only [zw] at hc)) <;> (try (exfalso; omega))) | (refine NX.kC ?_; first | (with_reducible refine NX.call (hnum) ?_) | (with_reducible refine NX.call (hless) ?_) | ((first | refine NX.call (hnum) ?_ | refine NX.call (hless) ?_)) | fail) | (refine NX.kO ?_; (first | refine NX.callO (hnum) (by simp [allEq]) rfl ?_ | refine NX.callO (hless) (by simp [allEq]) rfl ?_)) | refine NX.k 8 (NX.one Z8 ?_) | refine NX.k 14 (NX.one Z14 ?_) | refine NX.k 15 (NX.one Z15 ?_) | refine NX.k 18 (NX.one Z18 ?_) | refine NX.raw ?_) | refine Thn.exit ?_ | refine Blk.here ?_ | refine Blk.other (by decide) ?_ | refine ⟨.inl rfl, _, RetOk.ev tabOk Zc, ?_⟩ | fail)
    all_goals first | (exfalso; omega) | (refine rPV_then (by conv => lhs; cbv) ?_; rfl)
  · rw [if_neg hn]
    clear hless
    by_cases hi : id < 0 ∨ (K.length : Int) ≤ id
    · have hof := refOf_c0 hA K S id hi
      have hk := (sym_out hi).2
      rw [hk, show (if less = true then decide ((-1 : Int) = 1 ∨ (-1 : Int) = 3) else decide ((-1 : Int) = 0 ∨ (-1 : Int) = 3 ∨ (-1 : Int) = 6)) = false by cases less <;> rfl]
      generalize numM K V.length id = x at *
      try first | refine AOLg.of [] ?_ | refine QSg.of [] ?_
      repeat' (first | (refine AWp.pass ?_; first | refine AWp.seq ?_ | refine AWp.block ?_ | refine AWp.skip ?_ | refine AWp.regG [] Zc ?_ | refine AWp.cond_t rfl ?_ | refine AWp.cond_f rfl ?_ | (refine AWp.cond rfl ?_ ?_ <;> intro hc <;> (try rw [hc]) <;> ((try simp only [zn] at hc) <;> (try simp (disch := omega) only [zz hA, zb, zy, reduceCtorEq, Bool.false_eq_true, Int.reduceLT, Int.reduceLE, Int.reduceNeg] at hc) <;> (try simp only [zw] at hc)) <;> (try (exfalso; omega))) | refine AWp.exit ?_ | refine AWp.ret ⟨.inr rfl, _, RetOk.ev tabOk Zc, ?_⟩) | (refine AOLg.pass ?_; refine AOLg.nx hA tabOk Zc ?_; first | refine NX.done ?_ | refine NX.gt ?_ | refine NX.gf ?_ | (refine NX.gs ?_ ?_ <;> intro hc <;> rw [hc] <;> ((try simp only [zn] at hc) <;> (try simp (disch := omega) only [zz hA, zb, zy, reduceCtorEq, Bool.false_eq_true, Int.reduceLT, Int.reduceLE, Int.reduceNeg] at hc) <;> (try simp only [zw] at hc)) <;> (try (exfalso; omega))) | (refine NX.kC ?_; first | (with_reducible refine NX.call (hnum) ?_) | (with_reducible refine NX.call (hof) ?_) | ((first | refine NX.call (hnum) ?_ | refine NX.call (hof) ?_)) | fail) | (refine NX.kO ?_; (first | refine NX.callO (hnum) (by simp [allEq]) rfl ?_ | refine NX.callO (hof) (by simp [allEq]) rfl ?_)) | refine NX.k 8 (NX.one Z8 ?_) | refine NX.k 14 (NX.one Z14 ?_) | refine NX.k 15 (NX.one Z15 ?_) | refine NX.k 18 (NX.one Z18 ?_) | refine NX.raw ?_) | refine Thn.exit ?_ | refine Blk.here ?_ | refine Blk.other (by decide) ?_ | refine ⟨.inl rfl, _, RetOk.ev tabOk Zc, ?_⟩ | fail)
      all_goals first | (exfalso; omega) | (refine rPV_then (by conv => lhs; cbv) ?_; simp only [hid_eq hA]; done) | (refine rPV_then (by conv => lhs; cbv) ?_; simp only [hid_eq hA]; rfl)
    · obtain ⟨i, rfl⟩ : ∃ i : Nat, id = i := ⟨id.toNat, by omega⟩
      have hil : i < K.length := by omega
      obtain ⟨k, s, p, l, hk, hll⟩ := key_at h.ok h.keys hil
      have hof := refOf_c1 hA K S i k s p l hil hk hll
      rw [(sym_key hil hk).2]
      obtain ⟨z, hz⟩ : ∃ z : Int, z = (i : Int) := ⟨_, rfl⟩
      rw [← hz] at hnum hn ⊢
      have hof := hof z hz
      clear hk
      generalize numM K V.length z = x at *
      cases less with
      | true =>
        simp only [if_true]
        try first | refine AOLg.of [] ?_ | refine QSg.of [] ?_
        repeat' (first | (refine AWp.pass ?_; first | refine AWp.seq ?_ | refine AWp.block ?_ | refine AWp.skip ?_ | refine AWp.regG [] Zc ?_ | refine AWp.cond_t rfl ?_ | refine AWp.cond_f rfl ?_ | (refine AWp.cond rfl ?_ ?_ <;> intro hc <;> (try rw [hc]) <;> ((try simp only [zn] at hc) <;> (try simp (disch := omega) only [zz hA, zb, zy, reduceCtorEq, Bool.false_eq_true, Int.reduceLT, Int.reduceLE, Int.reduceNeg] at hc) <;> (try simp only [zw] at hc)) <;> (try (exfalso; omega))) | refine AWp.exit ?_ | refine AWp.ret ⟨.inr rfl, _, RetOk.ev tabOk Zc, ?_⟩) | (refine AOLg.pass ?_; refine AOLg.nx hA tabOk Zc ?_; first | refine NX.done ?_ | refine NX.gt ?_ | refine NX.gf ?_ | (refine NX.gs ?_ ?_ <;> intro hc <;> rw [hc] <;> ((try simp only [zn] at hc) <;> (try simp (disch := omega) only [zz hA, zb, zy, reduceCtorEq, Bool.false_eq_true, Int.reduceLT, Int.reduceLE, Int.reduceNeg] at hc) <;> (try simp only [zw] at hc)) <;> (try (exfalso; omega))) | (refine NX.kC ?_; first | (with_reducible refine NX.call (hnum) ?_) | (with_reducible refine NX.call (hof) ?_) | ((first | refine NX.call (hnum) ?_ | refine NX.call (hof) ?_)) | fail) | (refine NX.kO ?_; (first | refine NX.callO (hnum) (by simp [allEq]) rfl ?_ | refine NX.callO (hof) (by simp [allEq]) rfl ?_)) | refine NX.k 8 (NX.one Z8 ?_) | refine NX.k 14 (NX.one Z14 ?_) | refine NX.k 15 (NX.one Z15 ?_) | refine NX.k 18 (NX.one Z18 ?_) | refine NX.raw ?_) | refine Thn.exit ?_ | refine Blk.here ?_ | refine Blk.other (by decide) ?_ | refine ⟨.inl rfl, _, RetOk.ev tabOk Zc, ?_⟩ | fail)
        all_goals first | (exfalso; omega) | (refine rPV_then (by conv => lhs; cbv) ?_; simp only [hid_eq hA]; simp [hA, real]; omega) | (refine rPV_then (by conv => lhs; cbv) ?_; simp only [hid_eq hA]; simp [hA, real]; done) | (refine rPV_then (by conv => lhs; cbv) ?_; simp only [hid_eq hA]; simp [hA, real, *]; done)
      | false =>
        simp only [Bool.false_eq_true, if_false]
        try first | refine AOLg.of [] ?_ | refine QSg.of [] ?_
        repeat' (first | (refine AWp.pass ?_; first | refine AWp.seq ?_ | refine AWp.block ?_ | refine AWp.skip ?_ | refine AWp.regG [] Zc ?_ | refine AWp.cond_t rfl ?_ | refine AWp.cond_f rfl ?_ | (refine AWp.cond rfl ?_ ?_ <;> intro hc <;> (try rw [hc]) <;> ((try simp only [zn] at hc) <;> (try simp (disch := omega) only [zz hA, zb, zy, reduceCtorEq, Bool.false_eq_true, Int.reduceLT, Int.reduceLE, Int.reduceNeg] at hc) <;> (try simp only [zw] at hc)) <;> (try (exfalso; omega))) | refine AWp.exit ?_ | refine AWp.ret ⟨.inr rfl, _, RetOk.ev tabOk Zc, ?_⟩) | (refine AOLg.pass ?_; refine AOLg.nx hA tabOk Zc ?_; first | refine NX.done ?_ | refine NX.gt ?_ | refine NX.gf ?_ | (refine NX.gs ?_ ?_ <;> intro hc <;> rw [hc] <;> ((try simp only [zn] at hc) <;> (try simp (disch := omega) only [zz hA, zb, zy, reduceCtorEq, Bool.false_eq_true, Int.reduceLT, Int.reduceLE, Int.reduceNeg] at hc) <;> (try simp only [zw] at hc)) <;> (try (exfalso; omega))) | (refine NX.kC ?_; first | (with_reducible refine NX.call (hnum) ?_) | (with_reducible refine NX.call (hof) ?_) | ((first | refine NX.call (hnum) ?_ | refine NX.call (hof) ?_)) | fail) | (refine NX.kO ?_; (first | refine NX.callO (hnum) (by simp [allEq]) rfl ?_ | refine NX.callO (hof) (by simp [allEq]) rfl ?_)) | refine NX.k 8 (NX.one Z8 ?_) | refine NX.k 14 (NX.one Z14 ?_) | refine NX.k 15 (NX.one Z15 ?_) | refine NX.k 18 (NX.one Z18 ?_) | refine NX.raw ?_) | refine Thn.exit ?_ | refine Blk.here ?_ | refine Blk.other (by decide) ?_ | refine ⟨.inl rfl, _, RetOk.ev tabOk Zc, ?_⟩ | fail)
        all_goals first | (exfalso; omega) | (refine rPV_then (by conv => lhs; cbv) ?_; simp only [hid_eq hA]; simp [hA, real]; omega) | (refine rPV_then (by conv => lhs; cbv) ?_; simp only [hid_eq hA]; simp [hA, real]; done) | (refine rPV_then (by conv => lhs; cbv) ?_; simp only [hid_eq hA]; simp [hA, real, *]; done)
theorem refRow_c (K : List (List Int)) (S : List Int) (h : StK K S) (R V : List Int) (N : List (Int × Int)) (M : List Int) (P Q : List (List Int)) (hr : R.length ≤ 1000000) (l : List Int) (hl : l.length ≤ 1000000) (v : Int) (less : Bool) :
    PureCalls Try.prog 61 [keyedPV A K S, grP A R V N M P Q, intsP A l, IP v, BP less] (BP (hid A (rowB K R V.length l v less))) := by
  refine PureCalls.of Try.func61 rfl (by kernel_rfl) rfl ?_
  try first | refine AOLg.of [] ?_ | refine QSg.of [] ?_
  repeat' (first | (refine AWp.pass ?_; first | refine AWp.seq ?_ | refine AWp.block ?_ | refine AWp.skip ?_ | refine AWp.regG [] Zc ?_ | refine AWp.cond_t rfl ?_ | refine AWp.cond_f rfl ?_ | (refine AWp.cond rfl ?_ ?_ <;> intro hc <;> (try rw [hc]) <;> ((try simp only [zn] at hc) <;> (try simp (disch := omega) only [zz hA, zb, zy, reduceCtorEq, Bool.false_eq_true, Int.reduceLT, Int.reduceLE, Int.reduceNeg] at hc) <;> (try simp only [zw] at hc)) <;> (try (exfalso; omega))) | refine AWp.exit ?_ | refine AWp.ret ⟨.inr rfl, _, RetOk.ev tabOk Zc, ?_⟩ | refine AWp.drawVG [] rfl (by decide +kernel) Zc ?_) | (refine AOLg.pass ?_; refine AOLg.nx hA tabOk Zc ?_; first | refine NX.done ?_ | refine NX.gt ?_ | refine NX.gf ?_ | (refine NX.gs ?_ ?_ <;> intro hc <;> rw [hc] <;> ((try simp only [zn] at hc) <;> (try simp (disch := omega) only [zz hA, zb, zy, reduceCtorEq, Bool.false_eq_true, Int.reduceLT, Int.reduceLE, Int.reduceNeg] at hc) <;> (try simp only [zw] at hc)) <;> (try (exfalso; omega))) | refine NX.k 1 (NX.one Z1 ?_) | refine NX.k 7 (NX.one Z7 ?_) | refine NX.k 10 (NX.one Z10 ?_) | refine NX.k 14 (NX.one Z14 ?_) | refine NX.raw ?_) | (refine TRg.pass ?_; refine TRg.nx hA tabOk Zc ?_; first | refine TX.done ?_ | refine TX.gt ?_ | refine TX.gf ?_ | (refine TX.gs ?_ ?_ <;> intro hc <;> rw [hc] <;> ((try simp only [zn] at hc) <;> (try simp (disch := omega) only [zz hA, zb, zy, reduceCtorEq, Bool.false_eq_true, Int.reduceLT, Int.reduceLE, Int.reduceNeg] at hc) <;> (try simp only [zw] at hc)) <;> (try (exfalso; omega))) | refine TX.k 1 (TX.one Z1 ?_) | refine TX.k 7 (TX.one Z7 ?_) | refine TX.k 10 (TX.one Z10 ?_) | refine TX.k 14 (TX.one Z14 ?_) | refine TX.raw ?_) | refine Fin3.of Zc (by repeat' (first | exact True.intro | exact rfl | refine And.intro ?_ ?_)) ?_ ?_ | (refine AllO.pass ?_; first | exact AllO.nil | (refine AllO.cons (One.ev hA tabOk ?_) ?_ <;> (first | refine AllO.pass ?_ | ((conv => lhs; cbv); done))) | (refine AllO.cons (One.skipB ?_) ?_ <;> (first | refine AllO.pass ?_ | ((conv => lhs; cbv); done))) | refine AllO.consX ZX rfl rfl ?_) | refine Thn.exit ?_ | refine Blk.here ?_ | refine Blk.other (by decide) ?_ | refine ⟨.inl rfl, _, RetOk.ev tabOk Zc, ?_⟩ | fail)
  refine AWp.loopU (fun k : Nat => [(11, .ic (.lit (.int .i64 (hid A (cN k)))))]) (fun _ => _) (fun k => l.length - k) (fun k => k ≤ l.length ∧ ∀ i, i < k → (mayG K R V.length (l.getD i default) v less && (decide (i = 0) || decide (l.getD (i - 1) default < l.getD i default))) = true) 0 (by conv => lhs; cbv) ⟨Nat.zero_le _, by simp⟩ (by ((repeat' (first | exact subE.nil | refine subE.cons rfl ?_ | refine subE.int rfl ?_ ?_ | refine subE.bool rfl ?_ ?_ | refine subE.str rfl ?_ ?_ | refine subE.sl rfl ?_ ?_))) <;> simp [hA, real, hid, cN]) rfl ?_
  rintro k ⟨hk, hok⟩
  by_cases hlt : k < l.length
  · have hm : ∀ q, q = l.getD k default → PureCalls Try.prog 53 [keyedPV A K S, grP A R V N M P Q, IP q, IP v, BP less] (BP (hid A (mayG K R V.length (l.getD k default) v less))) := by rintro q rfl; exact refMayG_c hA K S h R V N M P Q hr _ v less
    have hno : (mayG K R V.length (l.getD k default) v less && (decide (k = 0) || decide (l.getD (k - 1) default < l.getD k default))) = false → rowB K R V.length l v less = false := fun h => allB_f hlt h
    generalize hmd : mayG K R V.length (l.getD k default) v less = m at *
    have hp : ((k : Int) - 1).toNat = k - 1 := by omega
    have hno2 : m = false ∨ (0 < k ∧ l.getD k default ≤ l.getD (k - 1) default) → rowB K R V.length l v less = false := fun h => hno (by
      rcases h with h | ⟨h1, h2⟩
      · rw [h]; rfl
      · rw [decide_eq_false (show ¬ k = 0 by omega), decide_eq_false (show ¬ l.getD (k - 1) default < l.getD k default by omega)]; simp)
    have hyes : m = true → (k = 0 ∨ l.getD (k - 1) default < l.getD k default) → (m && (decide (k = 0) || decide (l.getD (k - 1) default < l.getD k default))) = true := fun h1 h2 => by
      rw [h1]; simpa using h2
    have hok2 : (m && (decide (k = 0) || decide (l.getD (k - 1) default < l.getD k default))) = true → ∀ i, i < k + 1 → (mayG K R V.length (l.getD i default) v less && (decide (i = 0) || decide (l.getD (i - 1) default < l.getD i default))) = true := fun h i hi => by
      rcases Nat.lt_or_ge i k with h1 | h1
      · exact hok i h1
      · obtain rfl : i = k := by omega
        rw [hmd]; exact h
    try first | refine AOLg.of [] ?_ | refine QSg.of [] ?_
    repeat' (first | (refine AWp.pass ?_; first | refine AWp.seq ?_ | refine AWp.block ?_ | refine AWp.skip ?_ | refine AWp.regG [] Zc ?_ | refine AWp.cond_t rfl ?_ | refine AWp.cond_f rfl ?_ | (refine AWp.cond rfl ?_ ?_ <;> intro hc <;> (try rw [hc]) <;> ((try simp only [zn] at hc) <;> (try simp (disch := omega) only [zz hA, zb, zy, reduceCtorEq, Bool.false_eq_true, Int.reduceLT, Int.reduceLE, Int.reduceNeg] at hc) <;> (try simp only [zw] at hc)) <;> (try (exfalso; omega))) | refine AWp.exit ?_ | refine AWp.ret ⟨.inr rfl, _, RetOk.ev tabOk Zc, ?_⟩ | refine AWp.drawVG [] rfl (by decide +kernel) Zc ?_) | (refine AOLg.pass ?_; refine AOLg.nx hA tabOk Zc ?_; first | refine NX.done ?_ | refine NX.gt ?_ | refine NX.gf ?_ | (refine NX.gs ?_ ?_ <;> intro hc <;> rw [hc] <;> ((try simp only [zn] at hc) <;> (try simp (disch := omega) only [zz hA, zb, zy, reduceCtorEq, Bool.false_eq_true, Int.reduceLT, Int.reduceLE, Int.reduceNeg] at hc) <;> (try simp only [zw] at hc)) <;> (try (exfalso; omega))) | (refine NX.kC ?_; first | (with_reducible refine NX.call (hm _ (by simp only [hid_eq hA, cN, Int.toNat_natCast])) ?_) | ((first | refine NX.call (hm _ (by simp only [hid_eq hA, cN, Int.toNat_natCast])) ?_)) | fail) | (refine NX.kO ?_; (first | refine NX.callO (hm _ (by simp only [hid_eq hA, cN, Int.toNat_natCast])) (by simp [allEq]) rfl ?_)) | refine NX.k 1 (NX.one Z1 ?_) | refine NX.k 7 (NX.one Z7 ?_) | refine NX.k 10 (NX.one Z10 ?_) | refine NX.k 14 (NX.one Z14 ?_) | refine NX.raw ?_) | (refine TRg.pass ?_; refine TRg.nx hA tabOk Zc ?_; first | refine TX.done ?_ | refine TX.gt ?_ | refine TX.gf ?_ | (refine TX.gs ?_ ?_ <;> intro hc <;> rw [hc] <;> ((try simp only [zn] at hc) <;> (try simp (disch := omega) only [zz hA, zb, zy, reduceCtorEq, Bool.false_eq_true, Int.reduceLT, Int.reduceLE, Int.reduceNeg] at hc) <;> (try simp only [zw] at hc)) <;> (try (exfalso; omega))) | (refine TX.kC ?_; first | (with_reducible refine TX.call (hm _ (by simp only [hid_eq hA, cN, Int.toNat_natCast])) ?_) | ((first | refine TX.call (hm _ (by simp only [hid_eq hA, cN, Int.toNat_natCast])) ?_)) | fail) | (refine TX.kO ?_; (first | refine TX.callO (hm _ (by simp only [hid_eq hA, cN, Int.toNat_natCast])) (by simp [allEq]) rfl ?_)) | refine TX.k 1 (TX.one Z1 ?_) | refine TX.k 7 (TX.one Z7 ?_) | refine TX.k 10 (TX.one Z10 ?_) | refine TX.k 14 (TX.one Z14 ?_) | refine TX.raw ?_) | refine Fin3.of Zc (by repeat' (first | exact True.intro | exact rfl | refine And.intro ?_ ?_)) ?_ ?_ | (refine AllO.pass ?_; first | exact AllO.nil | (refine AllO.cons (One.ev hA tabOk ?_) ?_ <;> (first | refine AllO.pass ?_ | ((conv => lhs; cbv); done))) | (refine AllO.cons (One.skipB ?_) ?_ <;> (first | refine AllO.pass ?_ | ((conv => lhs; cbv); done))) | ((with_reducible refine AllO.call Zc (hm _ (by simp only [hid_eq hA, cN, Int.toNat_natCast])) ?_ ?_) <;> (first | refine AllO.pass ?_ | exact rfl | exact Zd)) | refine AllO.consX ZX rfl rfl ?_) | refine Thn.exit ?_ | refine Blk.here ?_ | refine Blk.other (by decide) ?_ | refine ⟨.inl rfl, _, RetOk.ev tabOk Zc, ?_⟩ | fail)
    · refine rPV_then (by conv => lhs; cbv) ?_
      rw [hno2 (.inl hc), hid_eq hA]
    · refine rPV_then (by conv => lhs; cbv) ?_
      rw [hno2 (.inr (by rw [hp] at hc; omega)), hid_eq hA]
    · refine ⟨k + 1, ?_, ?_, rfl, rfl, ?_, Zk⟩ <;> (try omega)
      repeat' (first | exact subE.nil | refine subE.cons rfl ?_ | refine subE.int rfl ?_ ?_ | refine subE.bool rfl ?_ ?_ | refine subE.str rfl ?_ ?_ | refine subE.sl rfl ?_ ?_)
      · exact ⟨by omega, hok2 (hyes (by assumption) (.inr (by rw [hp] at hc; omega)))⟩
      · exact Zd
    · refine ⟨k + 1, ?_, ?_, rfl, rfl, ?_, Zk⟩ <;> (try omega)
      repeat' (first | exact subE.nil | refine subE.cons rfl ?_ | refine subE.int rfl ?_ ?_ | refine subE.bool rfl ?_ ?_ | refine subE.str rfl ?_ ?_ | refine subE.sl rfl ?_ ?_)
      · exact ⟨by omega, hok2 (hyes (by assumption) (.inl (by omega)))⟩
      · exact Zd
  · try first | refine AOLg.of [] ?_ | refine QSg.of [] ?_
    repeat' (first | (refine AWp.pass ?_; first | refine AWp.seq ?_ | refine AWp.block ?_ | refine AWp.skip ?_ | refine AWp.regG [] Zc ?_ | refine AWp.cond_t rfl ?_ | refine AWp.cond_f rfl ?_ | (refine AWp.cond rfl ?_ ?_ <;> intro hc <;> (try rw [hc]) <;> ((try simp only [zn] at hc) <;> (try simp (disch := omega) only [zz hA, zb, zy, reduceCtorEq, Bool.false_eq_true, Int.reduceLT, Int.reduceLE, Int.reduceNeg] at hc) <;> (try simp only [zw] at hc)) <;> (try (exfalso; omega))) | refine AWp.exit ?_ | refine AWp.ret ⟨.inr rfl, _, RetOk.ev tabOk Zc, ?_⟩ | refine AWp.drawVG [] rfl (by decide +kernel) Zc ?_) | (refine AOLg.pass ?_; refine AOLg.nx hA tabOk Zc ?_; first | refine NX.done ?_ | refine NX.gt ?_ | refine NX.gf ?_ | (refine NX.gs ?_ ?_ <;> intro hc <;> rw [hc] <;> ((try simp only [zn] at hc) <;> (try simp (disch := omega) only [zz hA, zb, zy, reduceCtorEq, Bool.false_eq_true, Int.reduceLT, Int.reduceLE, Int.reduceNeg] at hc) <;> (try simp only [zw] at hc)) <;> (try (exfalso; omega))) | refine NX.k 1 (NX.one Z1 ?_) | refine NX.k 7 (NX.one Z7 ?_) | refine NX.k 10 (NX.one Z10 ?_) | refine NX.k 14 (NX.one Z14 ?_) | refine NX.raw ?_) | (refine TRg.pass ?_; refine TRg.nx hA tabOk Zc ?_; first | refine TX.done ?_ | refine TX.gt ?_ | refine TX.gf ?_ | (refine TX.gs ?_ ?_ <;> intro hc <;> rw [hc] <;> ((try simp only [zn] at hc) <;> (try simp (disch := omega) only [zz hA, zb, zy, reduceCtorEq, Bool.false_eq_true, Int.reduceLT, Int.reduceLE, Int.reduceNeg] at hc) <;> (try simp only [zw] at hc)) <;> (try (exfalso; omega))) | refine TX.k 1 (TX.one Z1 ?_) | refine TX.k 7 (TX.one Z7 ?_) | refine TX.k 10 (TX.one Z10 ?_) | refine TX.k 14 (TX.one Z14 ?_) | refine TX.raw ?_) | refine Fin3.of Zc (by repeat' (first | exact True.intro | exact rfl | refine And.intro ?_ ?_)) ?_ ?_ | (refine AllO.pass ?_; first | exact AllO.nil | (refine AllO.cons (One.ev hA tabOk ?_) ?_ <;> (first | refine AllO.pass ?_ | ((conv => lhs; cbv); done))) | (refine AllO.cons (One.skipB ?_) ?_ <;> (first | refine AllO.pass ?_ | ((conv => lhs; cbv); done))) | refine AllO.consX ZX rfl rfl ?_) | refine Thn.exit ?_ | refine Blk.here ?_ | refine Blk.other (by decide) ?_ | refine ⟨.inl rfl, _, RetOk.ev tabOk Zc, ?_⟩ | fail)
    refine rPV_then (by conv => lhs; cbv) ?_
    rw [show rowB K R V.length l v less = true from allB_t fun i hi => hok i (by omega), hid_eq hA]
set_option maxHeartbeats 2000000 in
theorem refGRight_c (K : List (List Int)) (S : List Int) (h : StK K S) (R V : List Int) (N : List (Int × Int)) (M : List Int) (P Q : List (List Int)) (hr : R.length ≤ 1000000) (hc0 : (⟨V, N, M⟩ : Cl).small) (hP : P.length ≤ 1000000 ∧ ∀ x ∈ P, x.length ≤ 1000000) (hQ : Q.length ≤ 1000000 ∧ ∀ x ∈ Q, x.length ≤ 1000000) :
    PureCalls Try.prog 28 [keyedPV A K S, grP A R V N M P Q] (BP (hid A (rightGr K R V N M P Q))) := by
  have hu := refURight_c hA ⟨V, N, M⟩ hc0 R hr
  have hvs := hc0.v
  simp only at hu hvs
  unfold rightGr
  refine PureCalls.of Try.func28 rfl (by kernel_rfl) rfl ?_
  cases hub : (rightB V R && (⟨V, N, M⟩ : Cl).right) with
  | false =>
    rw [hub, hid_eq hA (α := Bool)] at hu
    rw [Bool.false_and]
    try first | refine AOLg.of [] ?_ | refine QSg.of [] ?_
    repeat' (first | (refine AWp.pass ?_; first | refine AWp.seq ?_ | refine AWp.block ?_ | refine AWp.skip ?_ | refine AWp.regG [] Zc ?_ | refine AWp.cond_t rfl ?_ | refine AWp.cond_f rfl ?_ | (refine AWp.cond rfl ?_ ?_ <;> intro hc <;> (try rw [hc]) <;> ((try simp only [zn] at hc) <;> (try simp (disch := omega) only [zz hA, zb, zy, reduceCtorEq, Bool.false_eq_true, Int.reduceLT, Int.reduceLE, Int.reduceNeg] at hc) <;> (try simp only [zw] at hc)) <;> (try (exfalso; omega))) | refine AWp.exit ?_ | refine AWp.ret ⟨.inr rfl, _, RetOk.ev tabOk Zc, ?_⟩ | refine AWp.drawVG [] rfl (by decide +kernel) Zc ?_) | (refine AOLg.pass ?_; refine AOLg.nx hA tabOk Zc ?_; first | refine NX.done ?_ | refine NX.gt ?_ | refine NX.gf ?_ | (refine NX.gs ?_ ?_ <;> intro hc <;> rw [hc] <;> ((try simp only [zn] at hc) <;> (try simp (disch := omega) only [zz hA, zb, zy, reduceCtorEq, Bool.false_eq_true, Int.reduceLT, Int.reduceLE, Int.reduceNeg] at hc) <;> (try simp only [zw] at hc)) <;> (try (exfalso; omega))) | (refine NX.kC ?_; first | (with_reducible refine NX.call (hu) ?_) | ((first | refine NX.call (hu) ?_)) | fail) | (refine NX.kO ?_; (first | refine NX.callO (hu) (by simp [allEq]) rfl ?_)) | refine NX.k 1 (NX.one Z1 ?_) | refine NX.k 7 (NX.one Z7 ?_) | refine NX.k 9 (NX.one Z9 ?_) | refine NX.k 10 (NX.one Z10 ?_) | refine NX.k 14 (NX.one Z14 ?_) | refine NX.k 18 (NX.one Z18 ?_) | refine NX.raw ?_) | (refine TRg.pass ?_; refine TRg.nx hA tabOk Zc ?_; first | refine TX.done ?_ | refine TX.gt ?_ | refine TX.gf ?_ | (refine TX.gs ?_ ?_ <;> intro hc <;> rw [hc] <;> ((try simp only [zn] at hc) <;> (try simp (disch := omega) only [zz hA, zb, zy, reduceCtorEq, Bool.false_eq_true, Int.reduceLT, Int.reduceLE, Int.reduceNeg] at hc) <;> (try simp only [zw] at hc)) <;> (try (exfalso; omega))) | (refine TX.kC ?_; first | (with_reducible refine TX.call (hu) ?_) | ((first | refine TX.call (hu) ?_)) | fail) | (refine TX.kO ?_; (first | refine TX.callO (hu) (by simp [allEq]) rfl ?_)) | refine TX.k 1 (TX.one Z1 ?_) | refine TX.k 7 (TX.one Z7 ?_) | refine TX.k 9 (TX.one Z9 ?_) | refine TX.k 10 (TX.one Z10 ?_) | refine TX.k 14 (TX.one Z14 ?_) | refine TX.k 18 (TX.one Z18 ?_) | refine TX.raw ?_) | refine Fin3.of Zc (by repeat' (first | exact True.intro | exact rfl | refine And.intro ?_ ?_)) ?_ ?_ | (refine AllO.pass ?_; first | exact AllO.nil | (refine AllO.cons (One.ev hA tabOk ?_) ?_ <;> (first | refine AllO.pass ?_ | ((conv => lhs; cbv); done))) | (refine AllO.cons (One.skipB ?_) ?_ <;> (first | refine AllO.pass ?_ | ((conv => lhs; cbv); done))) | ((with_reducible refine AllO.call Zc (hu) ?_ ?_) <;> (first | refine AllO.pass ?_ | exact rfl | exact Zd)) | refine AllO.consX ZX rfl rfl ?_) | refine Thn.exit ?_ | refine Blk.here ?_ | refine Blk.other (by decide) ?_ | refine ⟨.inl rfl, _, RetOk.ev tabOk Zc, ?_⟩ | fail)
    all_goals first | (exfalso; omega) | (refine rPV_then (by conv => lhs; cbv) ?_; simp only [hid_eq hA]; done) | (refine rPV_then (by conv => lhs; cbv) ?_; rw [hid_eq hA])
  | true =>
    rw [hub, hid_eq hA (α := Bool)] at hu
    rw [Bool.true_and]
    by_cases hC : M.length = 0 ∧ P.length = V.length ∧ Q.length = V.length
    · rw [decide_eq_true hC, Bool.true_and]
      obtain ⟨c1, c2, c3⟩ := hC
      try first | refine AOLg.of [] ?_ | refine QSg.of [] ?_
      repeat' (first | (refine AWp.pass ?_; first | refine AWp.seq ?_ | refine AWp.block ?_ | refine AWp.skip ?_ | refine AWp.regG [] Zc ?_ | refine AWp.cond_t rfl ?_ | refine AWp.cond_f rfl ?_ | (refine AWp.cond rfl ?_ ?_ <;> intro hc <;> (try rw [hc]) <;> ((try simp only [zn] at hc) <;> (try simp (disch := omega) only [zz hA, zb, zy, reduceCtorEq, Bool.false_eq_true, Int.reduceLT, Int.reduceLE, Int.reduceNeg] at hc) <;> (try simp only [zw] at hc)) <;> (try (exfalso; omega))) | refine AWp.exit ?_ | refine AWp.ret ⟨.inr rfl, _, RetOk.ev tabOk Zc, ?_⟩ | refine AWp.drawVG [] rfl (by decide +kernel) Zc ?_) | (refine AOLg.pass ?_; refine AOLg.nx hA tabOk Zc ?_; first | refine NX.done ?_ | refine NX.gt ?_ | refine NX.gf ?_ | (refine NX.gs ?_ ?_ <;> intro hc <;> rw [hc] <;> ((try simp only [zn] at hc) <;> (try simp (disch := omega) only [zz hA, zb, zy, reduceCtorEq, Bool.false_eq_true, Int.reduceLT, Int.reduceLE, Int.reduceNeg] at hc) <;> (try simp only [zw] at hc)) <;> (try (exfalso; omega))) | (refine NX.kC ?_; first | (with_reducible refine NX.call (hu) ?_) | ((first | refine NX.call (hu) ?_)) | fail) | (refine NX.kO ?_; (first | refine NX.callO (hu) (by simp [allEq]) rfl ?_)) | refine NX.k 1 (NX.one Z1 ?_) | refine NX.k 7 (NX.one Z7 ?_) | refine NX.k 9 (NX.one Z9 ?_) | refine NX.k 10 (NX.one Z10 ?_) | refine NX.k 14 (NX.one Z14 ?_) | refine NX.k 18 (NX.one Z18 ?_) | refine NX.raw ?_) | (refine TRg.pass ?_; refine TRg.nx hA tabOk Zc ?_; first | refine TX.done ?_ | refine TX.gt ?_ | refine TX.gf ?_ | (refine TX.gs ?_ ?_ <;> intro hc <;> rw [hc] <;> ((try simp only [zn] at hc) <;> (try simp (disch := omega) only [zz hA, zb, zy, reduceCtorEq, Bool.false_eq_true, Int.reduceLT, Int.reduceLE, Int.reduceNeg] at hc) <;> (try simp only [zw] at hc)) <;> (try (exfalso; omega))) | (refine TX.kC ?_; first | (with_reducible refine TX.call (hu) ?_) | ((first | refine TX.call (hu) ?_)) | fail) | (refine TX.kO ?_; (first | refine TX.callO (hu) (by simp [allEq]) rfl ?_)) | refine TX.k 1 (TX.one Z1 ?_) | refine TX.k 7 (TX.one Z7 ?_) | refine TX.k 9 (TX.one Z9 ?_) | refine TX.k 10 (TX.one Z10 ?_) | refine TX.k 14 (TX.one Z14 ?_) | refine TX.k 18 (TX.one Z18 ?_) | refine TX.raw ?_) | refine Fin3.of Zc (by repeat' (first | exact True.intro | exact rfl | refine And.intro ?_ ?_)) ?_ ?_ | (refine AllO.pass ?_; first | exact AllO.nil | (refine AllO.cons (One.ev hA tabOk ?_) ?_ <;> (first | refine AllO.pass ?_ | ((conv => lhs; cbv); done))) | (refine AllO.cons (One.skipB ?_) ?_ <;> (first | refine AllO.pass ?_ | ((conv => lhs; cbv); done))) | ((with_reducible refine AllO.call Zc (hu) ?_ ?_) <;> (first | refine AllO.pass ?_ | exact rfl | exact Zd)) | refine AllO.consX ZX rfl rfl ?_) | refine Thn.exit ?_ | refine Blk.here ?_ | refine Blk.other (by decide) ?_ | refine ⟨.inl rfl, _, RetOk.ev tabOk Zc, ?_⟩ | fail)
      all_goals try (exfalso; omega)
      refine AWp.loopU (fun k : Nat => [(6, .ic (.lit (.int .i64 (hid A (cN k)))))]) (fun _ => _) (fun k => V.length - k) (fun k => k ≤ V.length ∧ ∀ i, i < k → nodeB K R V P Q i = true) 0 (by conv => lhs; cbv) ⟨Nat.zero_le _, by simp⟩ (by ((repeat' (first | exact subE.nil | refine subE.cons rfl ?_ | refine subE.int rfl ?_ ?_ | refine subE.bool rfl ?_ ?_ | refine subE.str rfl ?_ ?_ | refine subE.sl rfl ?_ ?_))) <;> simp [hA, real, hid, cN]) rfl ?_
      rintro k ⟨hk, hok⟩
      by_cases hlt : k < V.length
      · have hpm : P.getD k default ∈ P := by rw [List.getD_eq_getElem?_getD, List.getElem?_eq_getElem (by omega)]; exact List.getElem_mem _
        have hqm : Q.getD k default ∈ Q := by rw [List.getD_eq_getElem?_getD, List.getElem?_eq_getElem (by omega)]; exact List.getElem_mem _
        have hp := refRow_c hA K S h R V N M P Q hr (P.getD k default) (hP.2 _ hpm) k true
        have hq := refRow_c hA K S h R V N M P Q hr (Q.getD k default) (hQ.2 _ hqm) k false
        have hno : nodeB K R V P Q k = false → allB V.length (nodeB K R V P Q) = false := fun h => allB_f hlt h
        have hnb : nodeB K R V P Q k = (rowB K R V.length (P.getD k default) k true && (rowB K R V.length (Q.getD k default) k false && (decide (V.getD k default = (k : Int)) || decide ((P.getD k default).length = 0 ∧ (Q.getD k default).length = 0)))) := rfl
        have hok2 : nodeB K R V P Q k = true → ∀ i, i < k + 1 → nodeB K R V P Q i = true := fun h i hi => by
          rcases Nat.lt_or_ge i k with h1 | h1
          · exact hok i h1
          · obtain rfl : i = k := by omega
            exact h
        generalize nodeB K R V P Q k = nb at *
        generalize rowB K R V.length (P.getD k default) k true = b1 at *
        generalize rowB K R V.length (Q.getD k default) k false = b2 at *
        have hp2 : ∀ q z, q = P.getD k default → z = (k : Int) → PureCalls Try.prog 61 [keyedPV A K S, grP A R V N M P Q, intsP A q, IP z, BP true] (BP (hid A b1)) := by rintro q z rfl rfl; exact hp
        have hq2 : ∀ q z, q = Q.getD k default → z = (k : Int) → PureCalls Try.prog 61 [keyedPV A K S, grP A R V N M P Q, intsP A q, IP z, BP false] (BP (hid A b2)) := by rintro q z rfl rfl; exact hq
        clear hp hq
        have hn1 : b1 = false → nb = false := fun h => by rw [hnb, h]; rfl
        have hn2 : b2 = false → nb = false := fun h => by rw [hnb, h]; simp
        have hn3 : ¬ V.getD k default = (k : Int) → 0 < (P.getD k default).length ∨ 0 < (Q.getD k default).length → nb = false := fun h1 h2 => by
          rw [hnb, decide_eq_false h1, decide_eq_false (show ¬((P.getD k default).length = 0 ∧ (Q.getD k default).length = 0) by omega)]; simp
        have hn4 : b1 = true → b2 = true → V.getD k default = (k : Int) ∨ ((P.getD k default).length = 0 ∧ (Q.getD k default).length = 0) → nb = true := fun h1 h2 h3 => by
          rw [hnb, h1, h2]; simpa using h3
        clear hnb
        try first | refine AOLg.of [] ?_ | refine QSg.of [] ?_
        repeat' (first | (refine AWp.pass ?_; first | refine AWp.seq ?_ | refine AWp.block ?_ | refine AWp.skip ?_ | refine AWp.regG [] Zc ?_ | refine AWp.cond_t rfl ?_ | refine AWp.cond_f rfl ?_ | (refine AWp.cond rfl ?_ ?_ <;> intro hc <;> (try rw [hc]) <;> ((try simp only [zn] at hc) <;> (try simp (disch := omega) only [zz hA, zb, zy, reduceCtorEq, Bool.false_eq_true, Int.reduceLT, Int.reduceLE, Int.reduceNeg] at hc) <;> (try simp only [zw] at hc)) <;> (try (exfalso; omega))) | refine AWp.exit ?_ | refine AWp.ret ⟨.inr rfl, _, RetOk.ev tabOk Zc, ?_⟩ | refine AWp.drawVG [] rfl (by decide +kernel) Zc ?_) | (refine AOLg.pass ?_; refine AOLg.nx hA tabOk Zc ?_; first | refine NX.done ?_ | refine NX.gt ?_ | refine NX.gf ?_ | (refine NX.gs ?_ ?_ <;> intro hc <;> rw [hc] <;> ((try simp only [zn] at hc) <;> (try simp (disch := omega) only [zz hA, zb, zy, reduceCtorEq, Bool.false_eq_true, Int.reduceLT, Int.reduceLE, Int.reduceNeg] at hc) <;> (try simp only [zw] at hc)) <;> (try (exfalso; omega))) | (refine NX.kC ?_; first | (with_reducible refine NX.call (hp2 _ _ (by simp only [hid_eq hA, cN, Int.toNat_natCast]) (by simp only [hid_eq hA, cN])) ?_) | (with_reducible refine NX.call (hq2 _ _ (by simp only [hid_eq hA, cN, Int.toNat_natCast]) (by simp only [hid_eq hA, cN])) ?_) | ((first | refine NX.call (hp2 _ _ (by simp only [hid_eq hA, cN, Int.toNat_natCast]) (by simp only [hid_eq hA, cN])) ?_ | refine NX.call (hq2 _ _ (by simp only [hid_eq hA, cN, Int.toNat_natCast]) (by simp only [hid_eq hA, cN])) ?_)) | fail) | (refine NX.kO ?_; (first | refine NX.callO (hp2 _ _ (by simp only [hid_eq hA, cN, Int.toNat_natCast]) (by simp only [hid_eq hA, cN])) (by simp [allEq]) rfl ?_ | refine NX.callO (hq2 _ _ (by simp only [hid_eq hA, cN, Int.toNat_natCast]) (by simp only [hid_eq hA, cN])) (by simp [allEq]) rfl ?_)) | refine NX.k 1 (NX.one Z1 ?_) | refine NX.k 7 (NX.one Z7 ?_) | refine NX.k 9 (NX.one Z9 ?_) | refine NX.k 10 (NX.one Z10 ?_) | refine NX.k 14 (NX.one Z14 ?_) | refine NX.k 18 (NX.one Z18 ?_) | refine NX.raw ?_) | (refine TRg.pass ?_; refine TRg.nx hA tabOk Zc ?_; first | refine TX.done ?_ | refine TX.gt ?_ | refine TX.gf ?_ | (refine TX.gs ?_ ?_ <;> intro hc <;> rw [hc] <;> ((try simp only [zn] at hc) <;> (try simp (disch := omega) only [zz hA, zb, zy, reduceCtorEq, Bool.false_eq_true, Int.reduceLT, Int.reduceLE, Int.reduceNeg] at hc) <;> (try simp only [zw] at hc)) <;> (try (exfalso; omega))) | (refine TX.kC ?_; first | (with_reducible refine TX.call (hp2 _ _ (by simp only [hid_eq hA, cN, Int.toNat_natCast]) (by simp only [hid_eq hA, cN])) ?_) | (with_reducible refine TX.call (hq2 _ _ (by simp only [hid_eq hA, cN, Int.toNat_natCast]) (by simp only [hid_eq hA, cN])) ?_) | ((first | refine TX.call (hp2 _ _ (by simp only [hid_eq hA, cN, Int.toNat_natCast]) (by simp only [hid_eq hA, cN])) ?_ | refine TX.call (hq2 _ _ (by simp only [hid_eq hA, cN, Int.toNat_natCast]) (by simp only [hid_eq hA, cN])) ?_)) | fail) | (refine TX.kO ?_; (first | refine TX.callO (hp2 _ _ (by simp only [hid_eq hA, cN, Int.toNat_natCast]) (by simp only [hid_eq hA, cN])) (by simp [allEq]) rfl ?_ | refine TX.callO (hq2 _ _ (by simp only [hid_eq hA, cN, Int.toNat_natCast]) (by simp only [hid_eq hA, cN])) (by simp [allEq]) rfl ?_)) | refine TX.k 1 (TX.one Z1 ?_) | refine TX.k 7 (TX.one Z7 ?_) | refine TX.k 9 (TX.one Z9 ?_) | refine TX.k 10 (TX.one Z10 ?_) | refine TX.k 14 (TX.one Z14 ?_) | refine TX.k 18 (TX.one Z18 ?_) | refine TX.raw ?_) | refine Fin3.of Zc (by repeat' (first | exact True.intro | exact rfl | refine And.intro ?_ ?_)) ?_ ?_ | (refine AllO.pass ?_; first | exact AllO.nil | (refine AllO.cons (One.ev hA tabOk ?_) ?_ <;> (first | refine AllO.pass ?_ | ((conv => lhs; cbv); done))) | (refine AllO.cons (One.skipB ?_) ?_ <;> (first | refine AllO.pass ?_ | ((conv => lhs; cbv); done))) | ((with_reducible refine AllO.call Zc (hp2 _ _ (by simp only [hid_eq hA, cN, Int.toNat_natCast]) (by simp only [hid_eq hA, cN])) ?_ ?_) <;> (first | refine AllO.pass ?_ | exact rfl | exact Zd)) | ((with_reducible refine AllO.call Zc (hq2 _ _ (by simp only [hid_eq hA, cN, Int.toNat_natCast]) (by simp only [hid_eq hA, cN])) ?_ ?_) <;> (first | refine AllO.pass ?_ | exact rfl | exact Zd)) | refine AllO.consX ZX rfl rfl ?_) | refine Thn.exit ?_ | refine Blk.here ?_ | refine Blk.other (by decide) ?_ | refine ⟨.inl rfl, _, RetOk.ev tabOk Zc, ?_⟩ | fail)
        · refine rPV_then (by conv => lhs; cbv) ?_
          rw [hno (hn1 hc), hid_eq hA]
        · refine rPV_then (by conv => lhs; cbv) ?_
          rw [hno (hn2 hc), hid_eq hA]
        · refine rPV_then (by conv => lhs; cbv) ?_
          rw [hno (hn3 (by assumption) (.inl (by omega))), hid_eq hA]
        · refine rPV_then (by conv => lhs; cbv) ?_
          rw [hno (hn3 (by assumption) (.inr (by omega))), hid_eq hA]
        · refine ⟨k + 1, ?_, ?_, rfl, rfl, ?_, Zk⟩ <;> (try omega)
          repeat' (first | exact subE.nil | refine subE.cons rfl ?_ | refine subE.int rfl ?_ ?_ | refine subE.bool rfl ?_ ?_ | refine subE.str rfl ?_ ?_ | refine subE.sl rfl ?_ ?_)
          · exact ⟨by omega, hok2 (hn4 (by assumption) (by assumption) (.inr (by omega)))⟩
          · exact Zd
        · refine ⟨k + 1, ?_, ?_, rfl, rfl, ?_, Zk⟩ <;> (try omega)
          repeat' (first | exact subE.nil | refine subE.cons rfl ?_ | refine subE.int rfl ?_ ?_ | refine subE.bool rfl ?_ ?_ | refine subE.str rfl ?_ ?_ | refine subE.sl rfl ?_ ?_)
          · exact ⟨by omega, hok2 (hn4 (by assumption) (by assumption) (.inl (by assumption)))⟩
          · exact Zd
      · try first | refine AOLg.of [] ?_ | refine QSg.of [] ?_
        repeat' (first | (refine AWp.pass ?_; first | refine AWp.seq ?_ | refine AWp.block ?_ | refine AWp.skip ?_ | refine AWp.regG [] Zc ?_ | refine AWp.cond_t rfl ?_ | refine AWp.cond_f rfl ?_ | (refine AWp.cond rfl ?_ ?_ <;> intro hc <;> (try rw [hc]) <;> ((try simp only [zn] at hc) <;> (try simp (disch := omega) only [zz hA, zb, zy, reduceCtorEq, Bool.false_eq_true, Int.reduceLT, Int.reduceLE, Int.reduceNeg] at hc) <;> (try simp only [zw] at hc)) <;> (try (exfalso; omega))) | refine AWp.exit ?_ | refine AWp.ret ⟨.inr rfl, _, RetOk.ev tabOk Zc, ?_⟩ | refine AWp.drawVG [] rfl (by decide +kernel) Zc ?_) | (refine AOLg.pass ?_; refine AOLg.nx hA tabOk Zc ?_; first | refine NX.done ?_ | refine NX.gt ?_ | refine NX.gf ?_ | (refine NX.gs ?_ ?_ <;> intro hc <;> rw [hc] <;> ((try simp only [zn] at hc) <;> (try simp (disch := omega) only [zz hA, zb, zy, reduceCtorEq, Bool.false_eq_true, Int.reduceLT, Int.reduceLE, Int.reduceNeg] at hc) <;> (try simp only [zw] at hc)) <;> (try (exfalso; omega))) | refine NX.k 1 (NX.one Z1 ?_) | refine NX.k 7 (NX.one Z7 ?_) | refine NX.k 9 (NX.one Z9 ?_) | refine NX.k 10 (NX.one Z10 ?_) | refine NX.k 14 (NX.one Z14 ?_) | refine NX.k 18 (NX.one Z18 ?_) | refine NX.raw ?_) | (refine TRg.pass ?_; refine TRg.nx hA tabOk Zc ?_; first | refine TX.done ?_ | refine TX.gt ?_ | refine TX.gf ?_ | (refine TX.gs ?_ ?_ <;> intro hc <;> rw [hc] <;> ((try simp only [zn] at hc) <;> (try simp (disch := omega) only [zz hA, zb, zy, reduceCtorEq, Bool.false_eq_true, Int.reduceLT, Int.reduceLE, Int.reduceNeg] at hc) <;> (try simp only [zw] at hc)) <;> (try (exfalso; omega))) | refine TX.k 1 (TX.one Z1 ?_) | refine TX.k 7 (TX.one Z7 ?_) | refine TX.k 9 (TX.one Z9 ?_) | refine TX.k 10 (TX.one Z10 ?_) | refine TX.k 14 (TX.one Z14 ?_) | refine TX.k 18 (TX.one Z18 ?_) | refine TX.raw ?_) | refine Fin3.of Zc (by repeat' (first | exact True.intro | exact rfl | refine And.intro ?_ ?_)) ?_ ?_ | (refine AllO.pass ?_; first | exact AllO.nil | (refine AllO.cons (One.ev hA tabOk ?_) ?_ <;> (first | refine AllO.pass ?_ | ((conv => lhs; cbv); done))) | (refine AllO.cons (One.skipB ?_) ?_ <;> (first | refine AllO.pass ?_ | ((conv => lhs; cbv); done))) | refine AllO.consX ZX rfl rfl ?_) | refine Thn.exit ?_ | refine Blk.here ?_ | refine Blk.other (by decide) ?_ | refine ⟨.inl rfl, _, RetOk.ev tabOk Zc, ?_⟩ | fail)
        refine rPV_then (by conv => lhs; cbv) ?_
        rw [show allB V.length (nodeB K R V P Q) = true from allB_t fun i hi => hok i (by omega), hid_eq hA]
    · rw [decide_eq_false hC, Bool.false_and]
      try first | refine AOLg.of [] ?_ | refine QSg.of [] ?_
      repeat' (first | (refine AWp.pass ?_; first | refine AWp.seq ?_ | refine AWp.block ?_ | refine AWp.skip ?_ | refine AWp.regG [] Zc ?_ | refine AWp.cond_t rfl ?_ | refine AWp.cond_f rfl ?_ | (refine AWp.cond rfl ?_ ?_ <;> intro hc <;> (try rw [hc]) <;> ((try simp only [zn] at hc) <;> (try simp (disch := omega) only [zz hA, zb, zy, reduceCtorEq, Bool.false_eq_true, Int.reduceLT, Int.reduceLE, Int.reduceNeg] at hc) <;> (try simp only [zw] at hc)) <;> (try (exfalso; omega))) | refine AWp.exit ?_ | refine AWp.ret ⟨.inr rfl, _, RetOk.ev tabOk Zc, ?_⟩ | refine AWp.drawVG [] rfl (by decide +kernel) Zc ?_) | (refine AOLg.pass ?_; refine AOLg.nx hA tabOk Zc ?_; first | refine NX.done ?_ | refine NX.gt ?_ | refine NX.gf ?_ | (refine NX.gs ?_ ?_ <;> intro hc <;> rw [hc] <;> ((try simp only [zn] at hc) <;> (try simp (disch := omega) only [zz hA, zb, zy, reduceCtorEq, Bool.false_eq_true, Int.reduceLT, Int.reduceLE, Int.reduceNeg] at hc) <;> (try simp only [zw] at hc)) <;> (try (exfalso; omega))) | (refine NX.kC ?_; first | (with_reducible refine NX.call (hu) ?_) | ((first | refine NX.call (hu) ?_)) | fail) | (refine NX.kO ?_; (first | refine NX.callO (hu) (by simp [allEq]) rfl ?_)) | refine NX.k 1 (NX.one Z1 ?_) | refine NX.k 7 (NX.one Z7 ?_) | refine NX.k 9 (NX.one Z9 ?_) | refine NX.k 10 (NX.one Z10 ?_) | refine NX.k 14 (NX.one Z14 ?_) | refine NX.k 18 (NX.one Z18 ?_) | refine NX.raw ?_) | (refine TRg.pass ?_; refine TRg.nx hA tabOk Zc ?_; first | refine TX.done ?_ | refine TX.gt ?_ | refine TX.gf ?_ | (refine TX.gs ?_ ?_ <;> intro hc <;> rw [hc] <;> ((try simp only [zn] at hc) <;> (try simp (disch := omega) only [zz hA, zb, zy, reduceCtorEq, Bool.false_eq_true, Int.reduceLT, Int.reduceLE, Int.reduceNeg] at hc) <;> (try simp only [zw] at hc)) <;> (try (exfalso; omega))) | (refine TX.kC ?_; first | (with_reducible refine TX.call (hu) ?_) | ((first | refine TX.call (hu) ?_)) | fail) | (refine TX.kO ?_; (first | refine TX.callO (hu) (by simp [allEq]) rfl ?_)) | refine TX.k 1 (TX.one Z1 ?_) | refine TX.k 7 (TX.one Z7 ?_) | refine TX.k 9 (TX.one Z9 ?_) | refine TX.k 10 (TX.one Z10 ?_) | refine TX.k 14 (TX.one Z14 ?_) | refine TX.k 18 (TX.one Z18 ?_) | refine TX.raw ?_) | refine Fin3.of Zc (by repeat' (first | exact True.intro | exact rfl | refine And.intro ?_ ?_)) ?_ ?_ | (refine AllO.pass ?_; first | exact AllO.nil | (refine AllO.cons (One.ev hA tabOk ?_) ?_ <;> (first | refine AllO.pass ?_ | ((conv => lhs; cbv); done))) | (refine AllO.cons (One.skipB ?_) ?_ <;> (first | refine AllO.pass ?_ | ((conv => lhs; cbv); done))) | ((with_reducible refine AllO.call Zc (hu) ?_ ?_) <;> (first | refine AllO.pass ?_ | exact rfl | exact Zd)) | refine AllO.consX ZX rfl rfl ?_) | refine Thn.exit ?_ | refine Blk.here ?_ | refine Blk.other (by decide) ?_ | refine ⟨.inl rfl, _, RetOk.ev tabOk Zc, ?_⟩ | fail)
      all_goals first | (exfalso; omega) | (refine rPV_then (by conv => lhs; cbv) ?_; simp only [hid_eq hA]; done) | (refine rPV_then (by conv => lhs; cbv) ?_; rw [hid_eq hA])
end Go.Proofs.Ytkkjlmcnfoncdaa.Aw

namespace Go.Proofs.Ytkkjlmcnfoncdaa.Aw
open Go Go.RowKit
set_option maxRecDepth 10000
attribute [local irreducible] AWp AOL QS One AOLg QSg NX QX TRg TX AllO Fin3
def sumL (P : List (List Int)) : Nat → Nat
  | 0 => 0
  | k + 1 => sumL P k + (P.getD k default).length
theorem sumL_mono (P : List (List Int)) {j n : Nat} (h : j ≤ n) : sumL P j ≤ sumL P n := by
  induction n with
  | zero => obtain rfl : j = 0 := by omega
            exact Nat.le_refl _
  | succ n ih =>
    rcases Nat.lt_or_ge j (n + 1) with h1 | h1
    · have := ih (by omega)
      rw [show sumL P (n + 1) = sumL P n + (P.getD n default).length from rfl]; omega
    · obtain rfl : j = n + 1 := by omega
      exact Nat.le_refl _
theorem sumL_mem (P : List (List Int)) {x : List Int} (h : x ∈ P) : x.length ≤ sumL P P.length := by
  obtain ⟨i, hi, e⟩ := List.mem_iff_getElem.1 h
  have h1 := sumL_mono P (show i + 1 ≤ P.length by omega)
  rw [show sumL P (i + 1) = sumL P i + (P.getD i default).length from rfl, List.getD_eq_getElem?_getD, List.getElem?_eq_getElem hi, Option.getD_some, e] at h1
  omega
def baseG (R V : List Int) (N : List (Int × Int)) (M : List Int) (P Q : List (List Int)) : Nat := R.length + V.length + N.length + M.length + P.length + Q.length
def fewGr (R V : List Int) (N : List (Int × Int)) (M : List Int) (P Q : List (List Int)) : Bool := decide (baseG R V N M P Q + sumL P P.length + sumL Q Q.length ≤ 1000)
structure FitGr (R V : List Int) (N : List (Int × Int)) (M : List Int) (P Q : List (List Int)) : Prop where
  r : R.length ≤ 140737488351232
  v : V.length ≤ 140737488351232
  n : N.length ≤ 140737488351232
  m : M.length ≤ 140737488351232
  p : P.length ≤ 140737488351232
  q : Q.length ≤ 140737488351232
  ps : ∀ x ∈ P, x.length ≤ 140737488351232
  qs : ∀ x ∈ Q, x.length ≤ 140737488351232
variable {A : Ar} (hA : A = real)
include hA
set_option maxHeartbeats 2000000 in
theorem refGFew_c (R V : List Int) (N : List (Int × Int)) (M : List Int) (P Q : List (List Int)) (hf : FitGr R V N M P Q) :
    PureCalls Try.prog 37 [grP A R V N M P Q] (BP (hid A (fewGr R V N M P Q))) := by
  obtain ⟨h1, h2, h3, h4, h5, h6, h7, h8⟩ := hf
  refine PureCalls.of Try.func37 rfl (by kernel_rfl) rfl ?_
  unfold fewGr
  obtain ⟨B, hB⟩ : ∃ B, B = baseG R V N M P Q := ⟨_, rfl⟩
  rw [← hB]
  unfold baseG at hB
  have hpm : ∀ i, i < P.length → (P.getD i default).length ≤ 140737488351232 := fun i hi => h7 _ (by rw [List.getD_eq_getElem?_getD, List.getElem?_eq_getElem hi]; exact List.getElem_mem _)
  have hqm : ∀ i, i < Q.length → (Q.getD i default).length ≤ 140737488351232 := fun i hi => h8 _ (by rw [List.getD_eq_getElem?_getD, List.getElem?_eq_getElem hi]; exact List.getElem_mem _)
  clear h7 h8
  try first | refine AOLg.of [] ?_ | refine QSg.of [] ?_
  repeat' (first | (refine AWp.pass ?_; first | refine AWp.seq ?_ | refine AWp.block ?_ | refine AWp.skip ?_ | refine AWp.regG [] Zc ?_ | refine AWp.cond_t rfl ?_ | refine AWp.cond_f rfl ?_ | (refine AWp.cond rfl ?_ ?_ <;> intro hc <;> (try rw [hc]) <;> ((try simp only [zn] at hc) <;> (try simp (disch := omega) only [zz hA, zb, zy, reduceCtorEq, Bool.false_eq_true, Int.reduceLT, Int.reduceLE, Int.reduceNeg] at hc) <;> (try simp only [zw] at hc)) <;> (try (exfalso; omega))) | refine AWp.exit ?_ | refine AWp.ret ⟨.inr rfl, _, RetOk.ev tabOk Zc, ?_⟩) | (refine AOLg.pass ?_; refine AOLg.nx hA tabOk Zc ?_; first | refine NX.done ?_ | refine NX.gt ?_ | refine NX.gf ?_ | (refine NX.gs ?_ ?_ <;> intro hc <;> rw [hc] <;> ((try simp only [zn] at hc) <;> (try simp (disch := omega) only [zz hA, zb, zy, reduceCtorEq, Bool.false_eq_true, Int.reduceLT, Int.reduceLE, Int.reduceNeg] at hc) <;> (try simp only [zw] at hc)) <;> (try (exfalso; omega))) | refine NX.k 1 (NX.one Z1 ?_) | refine NX.k 7 (NX.one Z7 ?_) | refine NX.k 10 (NX.one Z10 ?_) | refine NX.k 14 (NX.one Z14 ?_) | refine NX.k 18 (NX.one Z18 ?_) | refine NX.raw ?_) | refine Thn.exit ?_ | refine Blk.here ?_ | refine Blk.other (by decide) ?_ | refine ⟨.inl rfl, _, RetOk.ev tabOk Zc, ?_⟩ | fail)
  refine AWp.loopU (fun i : Nat => [(3, .ic (.lit (.int .i64 (hid A (cN (B + sumL P i)))))), (4, .ic (.lit (.int .i64 (hid A (cN i)))))]) (fun _ => _) (fun i => P.length - i) (fun i => i ≤ P.length ∧ B + sumL P i ≤ 10000000000000000) 0 (by conv => lhs; cbv) ⟨Nat.zero_le _, by simp only [sumL]; omega⟩ (by ((repeat' (first | exact subE.nil | refine subE.cons rfl ?_ | refine subE.int rfl ?_ ?_ | refine subE.bool rfl ?_ ?_ | refine subE.str rfl ?_ ?_ | refine subE.sl rfl ?_ ?_))) <;> first | (exact Zd) | (simp only [sumL]; exact Zd)) rfl ?_
  rintro i ⟨hi, hb⟩
  have hmi := sumL_mono P hi
  by_cases hlt : i < P.length ∧ B + sumL P i ≤ 1000
  · have hr := hpm i hlt.1
    have es : sumL P (i + 1) = sumL P i + (P.getD i default).length := rfl
    generalize hs2 : sumL P (i + 1) = s2 at *
    generalize sumL P i = s1 at *
    try first | refine AOLg.of [] ?_ | refine QSg.of [] ?_
    repeat' (first | (refine AWp.pass ?_; first | refine AWp.seq ?_ | refine AWp.block ?_ | refine AWp.skip ?_ | refine AWp.regG [] Zc ?_ | refine AWp.cond_t rfl ?_ | refine AWp.cond_f rfl ?_ | (refine AWp.cond rfl ?_ ?_ <;> intro hc <;> (try rw [hc]) <;> ((try simp only [zn] at hc) <;> (try simp (disch := omega) only [zz hA, zb, zy, reduceCtorEq, Bool.false_eq_true, Int.reduceLT, Int.reduceLE, Int.reduceNeg] at hc) <;> (try simp only [zw] at hc)) <;> (try (exfalso; omega))) | refine AWp.exit ?_ | refine AWp.ret ⟨.inr rfl, _, RetOk.ev tabOk Zc, ?_⟩) | (refine AOLg.pass ?_; refine AOLg.nx hA tabOk Zc ?_; first | refine NX.done ?_ | refine NX.gt ?_ | refine NX.gf ?_ | (refine NX.gs ?_ ?_ <;> intro hc <;> rw [hc] <;> ((try simp only [zn] at hc) <;> (try simp (disch := omega) only [zz hA, zb, zy, reduceCtorEq, Bool.false_eq_true, Int.reduceLT, Int.reduceLE, Int.reduceNeg] at hc) <;> (try simp only [zw] at hc)) <;> (try (exfalso; omega))) | refine NX.k 1 (NX.one Z1 ?_) | refine NX.k 7 (NX.one Z7 ?_) | refine NX.k 10 (NX.one Z10 ?_) | refine NX.k 14 (NX.one Z14 ?_) | refine NX.k 18 (NX.one Z18 ?_) | refine NX.raw ?_) | refine Thn.exit ?_ | refine Blk.here ?_ | refine Blk.other (by decide) ?_ | refine ⟨.inl rfl, _, RetOk.ev tabOk Zc, ?_⟩ | fail)
    all_goals try (exfalso; omega)
    refine ⟨i + 1, ?_, ?_, rfl, rfl, ?_, Zk⟩ <;> (try omega)
    repeat' (first | exact subE.nil | refine subE.cons rfl ?_ | refine subE.int rfl ?_ ?_ | refine subE.bool rfl ?_ ?_ | refine subE.str rfl ?_ ?_ | refine subE.sl rfl ?_ ?_)
    all_goals first | (rw [hs2]; omega) | (rw [hs2]; exact Zd) | exact Zd
  · try first | refine AOLg.of [] ?_ | refine QSg.of [] ?_
    repeat' (first | (refine AWp.pass ?_; first | refine AWp.seq ?_ | refine AWp.block ?_ | refine AWp.skip ?_ | refine AWp.regG [] Zc ?_ | refine AWp.cond_t rfl ?_ | refine AWp.cond_f rfl ?_ | (refine AWp.cond rfl ?_ ?_ <;> intro hc <;> (try rw [hc]) <;> ((try simp only [zn] at hc) <;> (try simp (disch := omega) only [zz hA, zb, zy, reduceCtorEq, Bool.false_eq_true, Int.reduceLT, Int.reduceLE, Int.reduceNeg] at hc) <;> (try simp only [zw] at hc)) <;> (try (exfalso; omega))) | refine AWp.exit ?_ | refine AWp.ret ⟨.inr rfl, _, RetOk.ev tabOk Zc, ?_⟩) | (refine AOLg.pass ?_; refine AOLg.nx hA tabOk Zc ?_; first | refine NX.done ?_ | refine NX.gt ?_ | refine NX.gf ?_ | (refine NX.gs ?_ ?_ <;> intro hc <;> rw [hc] <;> ((try simp only [zn] at hc) <;> (try simp (disch := omega) only [zz hA, zb, zy, reduceCtorEq, Bool.false_eq_true, Int.reduceLT, Int.reduceLE, Int.reduceNeg] at hc) <;> (try simp only [zw] at hc)) <;> (try (exfalso; omega))) | refine NX.k 1 (NX.one Z1 ?_) | refine NX.k 7 (NX.one Z7 ?_) | refine NX.k 10 (NX.one Z10 ?_) | refine NX.k 14 (NX.one Z14 ?_) | refine NX.k 18 (NX.one Z18 ?_) | refine NX.raw ?_) | refine Thn.exit ?_ | refine Blk.here ?_ | refine Blk.other (by decide) ?_ | refine ⟨.inl rfl, _, RetOk.ev tabOk Zc, ?_⟩ | fail)
    all_goals try (exfalso; omega)
    all_goals
      have hex : i = P.length ∨ 1000 < B + sumL P i := by omega
      clear hpm hlt hc
      refine AWp.loopU (fun j : Nat => [(3, .ic (.lit (.int .i64 (hid A (cN (B + sumL P i + sumL Q j)))))), (5, .ic (.lit (.int .i64 (hid A (cN j)))))]) (fun _ => _) (fun j => Q.length - j) (fun j => j ≤ Q.length ∧ B + sumL P i + sumL Q j ≤ 20000000000000000) 0 (by conv => lhs; cbv) ⟨Nat.zero_le _, by simp only [sumL]; omega⟩ (by ((repeat' (first | exact subE.nil | refine subE.cons rfl ?_ | refine subE.int rfl ?_ ?_ | refine subE.bool rfl ?_ ?_ | refine subE.str rfl ?_ ?_ | refine subE.sl rfl ?_ ?_))) <;> first | (exact Zd) | (simp only [sumL]; exact Zd)) rfl ?_
      rintro j ⟨hj, hb2⟩
      have hmj := sumL_mono Q hj
      by_cases hlt2 : j < Q.length ∧ B + sumL P i + sumL Q j ≤ 1000
      · have hr2 := hqm j hlt2.1
        have es2 : sumL Q (j + 1) = sumL Q j + (Q.getD j default).length := rfl
        generalize hs4 : sumL Q (j + 1) = s4 at *
        generalize sumL Q j = s3 at *
        try first | refine AOLg.of [] ?_ | refine QSg.of [] ?_
        repeat' (first | (refine AWp.pass ?_; first | refine AWp.seq ?_ | refine AWp.block ?_ | refine AWp.skip ?_ | refine AWp.regG [] Zc ?_ | refine AWp.cond_t rfl ?_ | refine AWp.cond_f rfl ?_ | (refine AWp.cond rfl ?_ ?_ <;> intro hc <;> (try rw [hc]) <;> ((try simp only [zn] at hc) <;> (try simp (disch := omega) only [zz hA, zb, zy, reduceCtorEq, Bool.false_eq_true, Int.reduceLT, Int.reduceLE, Int.reduceNeg] at hc) <;> (try simp only [zw] at hc)) <;> (try (exfalso; omega))) | refine AWp.exit ?_ | refine AWp.ret ⟨.inr rfl, _, RetOk.ev tabOk Zc, ?_⟩) | (refine AOLg.pass ?_; refine AOLg.nx hA tabOk Zc ?_; first | refine NX.done ?_ | refine NX.gt ?_ | refine NX.gf ?_ | (refine NX.gs ?_ ?_ <;> intro hc <;> rw [hc] <;> ((try simp only [zn] at hc) <;> (try simp (disch := omega) only [zz hA, zb, zy, reduceCtorEq, Bool.false_eq_true, Int.reduceLT, Int.reduceLE, Int.reduceNeg] at hc) <;> (try simp only [zw] at hc)) <;> (try (exfalso; omega))) | refine NX.k 1 (NX.one Z1 ?_) | refine NX.k 7 (NX.one Z7 ?_) | refine NX.k 10 (NX.one Z10 ?_) | refine NX.k 14 (NX.one Z14 ?_) | refine NX.k 18 (NX.one Z18 ?_) | refine NX.raw ?_) | refine Thn.exit ?_ | refine Blk.here ?_ | refine Blk.other (by decide) ?_ | refine ⟨.inl rfl, _, RetOk.ev tabOk Zc, ?_⟩ | fail)
        all_goals try (exfalso; omega)
        all_goals
          refine ⟨j + 1, ?_, ?_, rfl, rfl, ?_, Zk⟩ <;> (try omega)
          repeat' (first | exact subE.nil | refine subE.cons rfl ?_ | refine subE.int rfl ?_ ?_ | refine subE.bool rfl ?_ ?_ | refine subE.str rfl ?_ ?_ | refine subE.sl rfl ?_ ?_)
          all_goals first | (rw [hs4]; omega) | (rw [hs4]; exact Zd) | exact Zd
      · have hex2 : j = Q.length ∨ 1000 < B + sumL P i + sumL Q j := by omega
        have hfin : (B + sumL P i + sumL Q j ≤ 1000) ↔ (B + sumL P P.length + sumL Q Q.length ≤ 1000) := by
          rcases hex with rfl | h1
          · rcases hex2 with rfl | h2
            · exact Iff.rfl
            · exact ⟨fun h => by omega, fun h => by omega⟩
          · exact ⟨fun h => by omega, fun h => by omega⟩
        try first | refine AOLg.of [] ?_ | refine QSg.of [] ?_
        repeat' (first | (refine AWp.pass ?_; first | refine AWp.seq ?_ | refine AWp.block ?_ | refine AWp.skip ?_ | refine AWp.regG [] Zc ?_ | refine AWp.cond_t rfl ?_ | refine AWp.cond_f rfl ?_ | (refine AWp.cond rfl ?_ ?_ <;> intro hc <;> (try rw [hc]) <;> ((try simp only [zn] at hc) <;> (try simp (disch := omega) only [zz hA, zb, zy, reduceCtorEq, Bool.false_eq_true, Int.reduceLT, Int.reduceLE, Int.reduceNeg] at hc) <;> (try simp only [zw] at hc)) <;> (try (exfalso; omega))) | refine AWp.exit ?_ | refine AWp.ret ⟨.inr rfl, _, RetOk.ev tabOk Zc, ?_⟩) | (refine AOLg.pass ?_; refine AOLg.nx hA tabOk Zc ?_; first | refine NX.done ?_ | refine NX.gt ?_ | refine NX.gf ?_ | (refine NX.gs ?_ ?_ <;> intro hc <;> rw [hc] <;> ((try simp only [zn] at hc) <;> (try simp (disch := omega) only [zz hA, zb, zy, reduceCtorEq, Bool.false_eq_true, Int.reduceLT, Int.reduceLE, Int.reduceNeg] at hc) <;> (try simp only [zw] at hc)) <;> (try (exfalso; omega))) | refine NX.k 1 (NX.one Z1 ?_) | refine NX.k 7 (NX.one Z7 ?_) | refine NX.k 10 (NX.one Z10 ?_) | refine NX.k 14 (NX.one Z14 ?_) | refine NX.k 18 (NX.one Z18 ?_) | refine NX.raw ?_) | refine Thn.exit ?_ | refine Blk.here ?_ | refine Blk.other (by decide) ?_ | refine ⟨.inl rfl, _, RetOk.ev tabOk Zc, ?_⟩ | fail)
        all_goals try (exfalso; omega)
        all_goals (refine rPV_then (by conv => lhs; cbv) ?_; simp only [hid_eq hA, cN, ← hfin]; refine congrArg (fun b => PV.c (IC.lit (Value.bool b))) ?_; rw [Bool.eq_iff_iff]; simp [hA, real]; omega)
structure OfG (l : List Sg) (K : List (List Int)) (S R V : List Int) (N : List (Int × Int)) (M : List Int) (P Q : List (List Int)) : Prop where
  st : StK K S
  ru : RightU V R
  all : allV K V.length = true
  few : baseG R V N M P Q + sumL P P.length + sumL Q Q.length ≤ 1000
  right : rightGr K R V N M P Q = true
omit hA in
theorem OfG.len {l : List Sg} {K : List (List Int)} {S R V : List Int} {N : List (Int × Int)} {M : List Int} {P Q : List (List Int)} (h : OfG l K S R V N M P Q) : R.length ≤ 1000 ∧ V.length ≤ 1000 ∧ N.length ≤ 1000 ∧ M.length = 0 ∧ P.length = V.length ∧ Q.length = V.length ∧ (∀ x ∈ P, x.length ≤ 1000) ∧ (∀ x ∈ Q, x.length ≤ 1000) := by
  have h1 := h.few
  have h2 := h.right
  unfold baseG at h1
  unfold rightGr at h2
  simp only [Bool.and_eq_true, decide_eq_true_eq] at h2
  refine ⟨by omega, by omega, by omega, h2.2.1.1, h2.2.1.2.1, h2.2.1.2.2, fun x hx => ?_, fun x hx => ?_⟩
  · have := sumL_mem P hx; omega
  · have := sumL_mem Q hx; omega
end Go.Proofs.Ytkkjlmcnfoncdaa.Aw

namespace Go.Proofs.Ytkkjlmcnfoncdaa.Aw
open Go Go.RowKit
set_option maxRecDepth 10000
structure Joined (V R : List Int) (x y p q first gone : Int) (V' : List Int) : Prop where
  px : findU V x = p
  qy : findU V y = q
  ne : p ≠ q
  v' : joinV V R p q = V'
  fp : findU V' p = first
  fx : findU V' x = first
  fy : findU V' y = first
  go : gone = p + q - first
  own : first = p ∨ first = q
  p0 : 0 ≤ p ∧ p < V.length
  q0 : 0 ≤ q ∧ q < V.length
  f0 : 0 ≤ first ∧ first < V.length
  g0 : 0 ≤ gone ∧ gone < V.length
  ru : RightU V' R
  len : V'.length = V.length
  old : ∀ v : Nat, (v : Int) ≠ gone → V'.getD v default = V.getD v default
def outs (K : List (List Int)) (V' : List Int) (first : Int) (pre suc : List Int) : List (Int × Int) := pre.map (fun id => (repM K V' id, atV K first)) ++ suc.map (fun id => (atV K first, repM K V' id))
end Go.Proofs.Ytkkjlmcnfoncdaa.Aw

namespace Go.Proofs.Ytkkjlmcnfoncdaa.Aw
open Go Go.RowKit
set_option maxRecDepth 10000
attribute [local irreducible] AWp AOL QS One AOLg QSg NX QX TRg TX AllO Fin3
attribute [local irreducible] W.TRg W.TX W.AllO W.Fin3
theorem takeMap {α β : Type} [Inhabited α] (f : α → β) (l : List α) (k : Nat) (h : k < l.length) : (l.take (k + 1)).map f = (l.take k).map f ++ [f (l.getD k default)] := by
  rw [List.take_add_one, List.map_append, List.getD_eq_getElem?_getD, List.getElem?_eq_getElem h]
  rfl
theorem rPV_gr4 {st : List AObj} {k w e2 s2 : Nat} {m2 : Bool} {zs : List (List IC)} {a b c d x y z : IC} (h4 : st[k]? = some (.row m2 w e2 s2 zs)) :
    rPV st (.tup [.agg [.ic a, .ic b, .ic c, .ic d, .ic x, .ic y], .own k w, .ic z]) = some (.tup [.agg [a, b, c, d, x, y], .c (.sl s2 false zs), .c z]) := by
  simp [rPV, rPVs, rICs, rIC, toIC, h4]
variable {A : Ar} (hA : A = real)
include hA
set_option maxHeartbeats 4000000 in
theorem refAdd_c2 (K : List (List Int)) (S : List Int) (hst : StK K S) (R V : List Int) (N : List (Int × Int)) (M : List Int) (P Q : List (List Int)) (hru : RightU V R) (hR : R.length ≤ 1000) (hV : V.length ≤ 1000) (hP : P.length = V.length) (hQ : Q.length = V.length) (hPl : ∀ x ∈ P, x.length ≤ 1000) (hQl : ∀ x ∈ Q, x.length ≤ 1000) (p0 p1 X Y v w : Int)
    (hX : repM K V p0 = X) (hY : repM K V p1 = Y) (hv : numM K V.length X = v) (hw : numM K V.length Y = w) (v0 : 0 ≤ v) (v1 : v < V.length) (w0 : 0 ≤ w) (hvw : v ≠ w) (hl : lessM R w v = true) :
    ∃ sz ex q b, PureCalls Try.prog 23 [keyedPV A K S, grP A R V N M P Q, .agg [.lit (.int .i64 p0), .lit (.int .i64 p1)]] (.tup [grP A R V N M P (Q.set v.toNat (layI (Q.getD v.toNat default) Y)), .c (.sl sz ex q), BP b]) := by
  have r0 := refRep_c hA K S hst R V N M P Q hru (by omega) p0
  have r1 := refRep_c hA K S hst R V N M P Q hru (by omega) p1
  have hrep := fun z => refRep_c hA K S hst R V N M P Q hru (by omega) z
  have n0 := refNumber_c hA K S hst.ok hst.keys R V N M P Q (hid A X)
  have n1 := refNumber_c hA K S hst.ok hst.keys R V N M P Q (hid A Y)
  rw [show numM K V.length (hid A X) = v by rw [hid_eq hA, hv]] at n0
  rw [show numM K V.length (hid A Y) = w by rw [hid_eq hA, hw]] at n1
  rw [hX] at r0
  rw [hY] at r1
  have hls := refLess_c hA R (hid A w) (hid A v) (by omega)
  rw [show lessM R (hid A w) (hid A v) = true by rw [hid_eq hA, hid_eq hA]; exact hl, hid_eq hA (α := Bool)] at hls
  have hmay := refMayG_c hA K S hst R V N M P Q (by omega) (hid A Y) (hid A v) false
  rw [show mayG K R V.length (hid A Y) (hid A v) false = true by rw [hid_eq hA, hid_eq hA]; unfold mayG; rw [hw, if_pos w0]; exact hl, hid_eq hA (α := Bool)] at hmay
  have hpre : (P.getD v.toNat default).length ≤ 1000 := hPl _ (by rw [List.getD_eq_getElem?_getD, List.getElem?_eq_getElem (by omega)]; exact List.getElem_mem _)
  have hsuc : (Q.getD v.toNat default).length ≤ 1000 := hQl _ (by rw [List.getD_eq_getElem?_getD, List.getElem?_eq_getElem (by omega)]; exact List.getElem_mem _)
  have hlay : ∀ l : List Int, l = Q.getD v.toNat default → PureCalls Try.prog 54 [intsP A l, IP (hid A Y)] (.tup [intsP A (layI (Q.getD v.toNat default) Y), BP (layB (Q.getD v.toNat default) Y)]) := by
    rintro l rfl
    have := refLay12_c hA (Q.getD v.toNat default) Y (by omega)
    rw [hid_eq hA (α := Bool)] at this
    rw [hid_eq hA Y]; exact this
  have hwi : PureCalls Try.prog 55 [slP A 1 (encK A) Q, IP (hid A v), intsP A (layI (Q.getD v.toNat default) Y)] (slP A 1 (encK A) (Q.set v.toNat (layI (Q.getD v.toNat default) Y))) := by
    rw [hid_eq hA v]
    exact refWith_c hA Q v _ v0 (by omega) (by omega)
  clear hPl hQl
  cases hb : layB (Q.getD v.toNat default) Y with
  | false =>
    have hs : Q.set v.toNat (layI (Q.getD v.toNat default) Y) = Q := by
      have : layI (Q.getD v.toNat default) Y = Q.getD v.toNat default := by
        unfold layB at hb
        unfold layI
        rw [if_pos (by simpa using hb)]
      rw [this]
      refine List.ext_getElem (by simp) fun i h1 h2 => ?_
      rw [List.getElem_set]
      split
      · rename_i e; subst e; rw [List.getD_eq_getElem?_getD, List.getElem?_eq_getElem h2]; rfl
      · rfl
    rw [hb] at hlay
    rw [hs]
    refine ⟨0, true, [], false, ?_⟩
    generalize layI (Q.getD v.toNat default) Y = L at *
    refine PureCalls.of Try.func23 rfl (by kernel_rfl) rfl ?_
    try first | refine AOLg.of [] ?_ | refine QSg.of [] ?_
    repeat' (first | (refine AWp.pass ?_; first | refine AWp.seq ?_ | refine AWp.block ?_ | refine AWp.skip ?_ | refine AWp.regG [] Zc ?_ | refine AWp.cond_t rfl ?_ | refine AWp.cond_f rfl ?_ | (refine AWp.cond rfl ?_ ?_ <;> intro hc <;> (try rw [hc]) <;> ((try simp only [zn] at hc) <;> (try simp (disch := omega) only [zz hA, zb, zy, reduceCtorEq, Bool.false_eq_true, Int.reduceLT, Int.reduceLE, Int.reduceNeg] at hc) <;> (try simp only [zw] at hc)) <;> (try (exfalso; omega))) | refine AWp.exit ?_ | refine AWp.ret ⟨.inr rfl, _, RetOk.ev tabOk Zc, ?_⟩ | refine AWp.drawVG [] rfl (by decide +kernel) Zc ?_) | (refine AOLg.pass ?_; refine AOLg.nx hA tabOk Zc ?_; first | refine NX.done ?_ | refine NX.gt ?_ | refine NX.gf ?_ | (refine NX.gs ?_ ?_ <;> intro hc <;> rw [hc] <;> ((try simp only [zn] at hc) <;> (try simp (disch := omega) only [zz hA, zb, zy, reduceCtorEq, Bool.false_eq_true, Int.reduceLT, Int.reduceLE, Int.reduceNeg] at hc) <;> (try simp only [zw] at hc)) <;> (try (exfalso; omega))) | (refine NX.kC ?_; first | (with_reducible refine NX.call (r0) ?_) | (with_reducible refine NX.call (r1) ?_) | (with_reducible refine NX.call (n0) ?_) | (with_reducible refine NX.call (n1) ?_) | (with_reducible refine NX.call (hls) ?_) | (with_reducible refine NX.call (hmay) ?_) | (with_reducible refine NX.call (hlay _ (by simp only [rhid hA, hid_eq hA, cN, Int.toNat_natCast])) ?_) | ((first | refine NX.call (r0) ?_ | refine NX.call (r1) ?_ | refine NX.call (n0) ?_ | refine NX.call (n1) ?_ | refine NX.call (hls) ?_ | refine NX.call (hmay) ?_ | refine NX.call (hlay _ (by simp only [rhid hA, hid_eq hA, cN, Int.toNat_natCast])) ?_)) | fail) | (refine NX.kO ?_; (first | refine NX.callO (r0) (by simp [allEq]) rfl ?_ | refine NX.callO (r1) (by simp [allEq]) rfl ?_ | refine NX.callO (n0) (by simp [allEq]) rfl ?_ | refine NX.callO (n1) (by simp [allEq]) rfl ?_ | refine NX.callO (hls) (by simp [allEq]) rfl ?_ | refine NX.callO (hmay) (by simp [allEq]) rfl ?_ | refine NX.callO (hlay _ (by simp only [rhid hA, hid_eq hA, cN, Int.toNat_natCast])) (by simp [allEq]) rfl ?_)) | refine NX.k 1 (NX.one Z1 ?_) | refine NX.k 7 (NX.one Z7 ?_) | refine NX.k 8 (NX.one Z8 ?_) | refine NX.k 10 (NX.one Z10 ?_) | refine NX.k 11 (NX.one Z11 ?_) | refine NX.k 14 (NX.one Z14 ?_) | refine NX.k 15 (NX.one Z15 ?_) | refine NX.k 17 (NX.one Z17 ?_) | refine NX.k 18 (NX.one Z18 ?_) | (refine NX.one (One.indexPtr tabOk rfl rfl rfl rfl rfl (by decide) (by decide)) ?_) | refine NX.raw ?_) | (refine TRg.pass ?_; refine TRg.nx hA tabOk Zc ?_; first | refine TX.done ?_ | refine TX.gt ?_ | refine TX.gf ?_ | (refine TX.gs ?_ ?_ <;> intro hc <;> rw [hc] <;> ((try simp only [zn] at hc) <;> (try simp (disch := omega) only [zz hA, zb, zy, reduceCtorEq, Bool.false_eq_true, Int.reduceLT, Int.reduceLE, Int.reduceNeg] at hc) <;> (try simp only [zw] at hc)) <;> (try (exfalso; omega))) | (refine TX.kC ?_; first | (with_reducible refine TX.call (r0) ?_) | (with_reducible refine TX.call (r1) ?_) | (with_reducible refine TX.call (n0) ?_) | (with_reducible refine TX.call (n1) ?_) | (with_reducible refine TX.call (hls) ?_) | (with_reducible refine TX.call (hmay) ?_) | (with_reducible refine TX.call (hlay _ (by simp only [rhid hA, hid_eq hA, cN, Int.toNat_natCast])) ?_) | ((first | refine TX.call (r0) ?_ | refine TX.call (r1) ?_ | refine TX.call (n0) ?_ | refine TX.call (n1) ?_ | refine TX.call (hls) ?_ | refine TX.call (hmay) ?_ | refine TX.call (hlay _ (by simp only [rhid hA, hid_eq hA, cN, Int.toNat_natCast])) ?_)) | fail) | (refine TX.kO ?_; (first | refine TX.callO (r0) (by simp [allEq]) rfl ?_ | refine TX.callO (r1) (by simp [allEq]) rfl ?_ | refine TX.callO (n0) (by simp [allEq]) rfl ?_ | refine TX.callO (n1) (by simp [allEq]) rfl ?_ | refine TX.callO (hls) (by simp [allEq]) rfl ?_ | refine TX.callO (hmay) (by simp [allEq]) rfl ?_ | refine TX.callO (hlay _ (by simp only [rhid hA, hid_eq hA, cN, Int.toNat_natCast])) (by simp [allEq]) rfl ?_)) | refine TX.k 1 (TX.one Z1 ?_) | refine TX.k 7 (TX.one Z7 ?_) | refine TX.k 8 (TX.one Z8 ?_) | refine TX.k 10 (TX.one Z10 ?_) | refine TX.k 11 (TX.one Z11 ?_) | refine TX.k 14 (TX.one Z14 ?_) | refine TX.k 15 (TX.one Z15 ?_) | refine TX.k 17 (TX.one Z17 ?_) | refine TX.k 18 (TX.one Z18 ?_) | (refine TX.one (One.indexPtr tabOk rfl rfl rfl rfl rfl (by decide) (by decide)) ?_) | refine TX.raw ?_) | refine Fin3.of Zc (by repeat' (first | exact True.intro | exact rfl | refine And.intro ?_ ?_)) ?_ ?_ | (refine AllO.pass ?_; first | exact AllO.nil | (refine AllO.cons (One.ev hA tabOk ?_) ?_ <;> (first | refine AllO.pass ?_ | ((conv => lhs; cbv); done))) | (refine AllO.cons (One.skipB ?_) ?_ <;> (first | refine AllO.pass ?_ | ((conv => lhs; cbv); done))) | ((with_reducible refine AllO.call Zc (r0) ?_ ?_) <;> (first | refine AllO.pass ?_ | exact rfl | exact Zd)) | ((with_reducible refine AllO.call Zc (r1) ?_ ?_) <;> (first | refine AllO.pass ?_ | exact rfl | exact Zd)) | ((with_reducible refine AllO.call Zc (n0) ?_ ?_) <;> (first | refine AllO.pass ?_ | exact rfl | exact Zd)) | ((with_reducible refine AllO.call Zc (n1) ?_ ?_) <;> (first | refine AllO.pass ?_ | exact rfl | exact Zd)) | ((with_reducible refine AllO.call Zc (hls) ?_ ?_) <;> (first | refine AllO.pass ?_ | exact rfl | exact Zd)) | ((with_reducible refine AllO.call Zc (hmay) ?_ ?_) <;> (first | refine AllO.pass ?_ | exact rfl | exact Zd)) | ((with_reducible refine AllO.call Zc (hlay _ (by simp only [rhid hA, hid_eq hA, cN, Int.toNat_natCast])) ?_ ?_) <;> (first | refine AllO.pass ?_ | exact rfl | exact Zd)) | refine AllO.consX ZX rfl rfl ?_ | ((refine AllO.consX (One.indexPtr tabOk rfl rfl rfl rfl rfl (by decide) (by decide)) rfl rfl ?_) <;> (first | refine AllO.pass ?_ | exact Zd))) | refine Thn.exit ?_ | refine Blk.here ?_ | refine Blk.other (by decide) ?_ | refine ⟨.inl rfl, _, RetOk.ev tabOk Zc, ?_⟩ | fail)
    all_goals first | (exfalso; omega) | (refine rPV_then (by conv => lhs; cbv) ?_; rfl) | fail
  | true =>
    rw [hb] at hlay
    refine ⟨2, false, hid A (List.map encN ((P.getD v.toNat default).map fun id => (repM K V id, Y))), true, ?_⟩
    generalize layI (Q.getD v.toNat default) Y = L at *
    refine PureCalls.of Try.func23 rfl (by kernel_rfl) rfl ?_
    try first | refine AOLg.of [13] ?_ | refine QSg.of [13] ?_
    repeat' (first | (refine AWp.pass ?_; first | refine AWp.seq ?_ | refine AWp.block ?_ | refine AWp.skip ?_ | refine AWp.regG [13] Zc ?_ | refine AWp.cond_t rfl ?_ | refine AWp.cond_f rfl ?_ | (refine AWp.cond rfl ?_ ?_ <;> intro hc <;> (try rw [hc]) <;> ((try simp only [zn] at hc) <;> (try simp (disch := omega) only [zz hA, zb, zy, reduceCtorEq, Bool.false_eq_true, Int.reduceLT, Int.reduceLE, Int.reduceNeg] at hc) <;> (try simp only [zw] at hc)) <;> (try (exfalso; omega))) | refine AWp.exit ?_ | refine AWp.ret ⟨.inr rfl, _, RetOk.ev tabOk Zc, ?_⟩ | refine AWp.drawVG [13] rfl (by decide +kernel) Zc ?_) | (refine AOLg.pass ?_; refine AOLg.nx hA tabOk Zc ?_; first | refine NX.done ?_ | refine NX.gt ?_ | refine NX.gf ?_ | (refine NX.gs ?_ ?_ <;> intro hc <;> rw [hc] <;> ((try simp only [zn] at hc) <;> (try simp (disch := omega) only [zz hA, zb, zy, reduceCtorEq, Bool.false_eq_true, Int.reduceLT, Int.reduceLE, Int.reduceNeg] at hc) <;> (try simp only [zw] at hc)) <;> (try (exfalso; omega))) | (refine NX.kC ?_; first | (with_reducible refine NX.call (r0) ?_) | (with_reducible refine NX.call (r1) ?_) | (with_reducible refine NX.call (n0) ?_) | (with_reducible refine NX.call (n1) ?_) | (with_reducible refine NX.call (hls) ?_) | (with_reducible refine NX.call (hmay) ?_) | (with_reducible refine NX.call (hlay _ (by simp only [rhid hA, hid_eq hA, cN, Int.toNat_natCast])) ?_) | ((first | refine NX.call (r0) ?_ | refine NX.call (r1) ?_ | refine NX.call (n0) ?_ | refine NX.call (n1) ?_ | refine NX.call (hls) ?_ | refine NX.call (hmay) ?_ | refine NX.call (hlay _ (by simp only [rhid hA, hid_eq hA, cN, Int.toNat_natCast])) ?_)) | fail) | (refine NX.kO ?_; (first | refine NX.callO (r0) (by simp [allEq]) rfl ?_ | refine NX.callO (r1) (by simp [allEq]) rfl ?_ | refine NX.callO (n0) (by simp [allEq]) rfl ?_ | refine NX.callO (n1) (by simp [allEq]) rfl ?_ | refine NX.callO (hls) (by simp [allEq]) rfl ?_ | refine NX.callO (hmay) (by simp [allEq]) rfl ?_ | refine NX.callO (hlay _ (by simp only [rhid hA, hid_eq hA, cN, Int.toNat_natCast])) (by simp [allEq]) rfl ?_)) | refine NX.k 1 (NX.one Z1 ?_) | refine NX.k 7 (NX.one Z7 ?_) | refine NX.k 8 (NX.one Z8 ?_) | refine NX.k 10 (NX.one Z10 ?_) | refine NX.k 11 (NX.one Z11 ?_) | refine NX.k 14 (NX.one Z14 ?_) | refine NX.k 15 (NX.one Z15 ?_) | refine NX.k 17 (NX.one Z17 ?_) | refine NX.k 18 (NX.one Z18 ?_) | (refine NX.one (One.indexPtr tabOk rfl rfl rfl rfl rfl (by decide) (by decide)) ?_) | (refine NX.one (One.nilOwn tabOk 13 53 rfl rfl rfl) ?_) | refine NX.raw ?_) | (refine TRg.pass ?_; refine TRg.nx hA tabOk Zc ?_; first | refine TX.done ?_ | refine TX.gt ?_ | refine TX.gf ?_ | (refine TX.gs ?_ ?_ <;> intro hc <;> rw [hc] <;> ((try simp only [zn] at hc) <;> (try simp (disch := omega) only [zz hA, zb, zy, reduceCtorEq, Bool.false_eq_true, Int.reduceLT, Int.reduceLE, Int.reduceNeg] at hc) <;> (try simp only [zw] at hc)) <;> (try (exfalso; omega))) | (refine TX.kC ?_; first | (with_reducible refine TX.call (r0) ?_) | (with_reducible refine TX.call (r1) ?_) | (with_reducible refine TX.call (n0) ?_) | (with_reducible refine TX.call (n1) ?_) | (with_reducible refine TX.call (hls) ?_) | (with_reducible refine TX.call (hmay) ?_) | (with_reducible refine TX.call (hlay _ (by simp only [rhid hA, hid_eq hA, cN, Int.toNat_natCast])) ?_) | ((first | refine TX.call (r0) ?_ | refine TX.call (r1) ?_ | refine TX.call (n0) ?_ | refine TX.call (n1) ?_ | refine TX.call (hls) ?_ | refine TX.call (hmay) ?_ | refine TX.call (hlay _ (by simp only [rhid hA, hid_eq hA, cN, Int.toNat_natCast])) ?_)) | fail) | (refine TX.kO ?_; (first | refine TX.callO (r0) (by simp [allEq]) rfl ?_ | refine TX.callO (r1) (by simp [allEq]) rfl ?_ | refine TX.callO (n0) (by simp [allEq]) rfl ?_ | refine TX.callO (n1) (by simp [allEq]) rfl ?_ | refine TX.callO (hls) (by simp [allEq]) rfl ?_ | refine TX.callO (hmay) (by simp [allEq]) rfl ?_ | refine TX.callO (hlay _ (by simp only [rhid hA, hid_eq hA, cN, Int.toNat_natCast])) (by simp [allEq]) rfl ?_)) | refine TX.k 1 (TX.one Z1 ?_) | refine TX.k 7 (TX.one Z7 ?_) | refine TX.k 8 (TX.one Z8 ?_) | refine TX.k 10 (TX.one Z10 ?_) | refine TX.k 11 (TX.one Z11 ?_) | refine TX.k 14 (TX.one Z14 ?_) | refine TX.k 15 (TX.one Z15 ?_) | refine TX.k 17 (TX.one Z17 ?_) | refine TX.k 18 (TX.one Z18 ?_) | (refine TX.one (One.indexPtr tabOk rfl rfl rfl rfl rfl (by decide) (by decide)) ?_) | (refine TX.one (One.nilOwn tabOk 13 53 rfl rfl rfl) ?_) | refine TX.raw ?_) | refine Fin3.of Zc (by repeat' (first | exact True.intro | exact rfl | refine And.intro ?_ ?_)) ?_ ?_ | (refine AllO.pass ?_; first | exact AllO.nil | (refine AllO.cons (One.ev hA tabOk ?_) ?_ <;> (first | refine AllO.pass ?_ | ((conv => lhs; cbv); done))) | (refine AllO.cons (One.skipB ?_) ?_ <;> (first | refine AllO.pass ?_ | ((conv => lhs; cbv); done))) | ((with_reducible refine AllO.call Zc (r0) ?_ ?_) <;> (first | refine AllO.pass ?_ | exact rfl | exact Zd)) | ((with_reducible refine AllO.call Zc (r1) ?_ ?_) <;> (first | refine AllO.pass ?_ | exact rfl | exact Zd)) | ((with_reducible refine AllO.call Zc (n0) ?_ ?_) <;> (first | refine AllO.pass ?_ | exact rfl | exact Zd)) | ((with_reducible refine AllO.call Zc (n1) ?_ ?_) <;> (first | refine AllO.pass ?_ | exact rfl | exact Zd)) | ((with_reducible refine AllO.call Zc (hls) ?_ ?_) <;> (first | refine AllO.pass ?_ | exact rfl | exact Zd)) | ((with_reducible refine AllO.call Zc (hmay) ?_ ?_) <;> (first | refine AllO.pass ?_ | exact rfl | exact Zd)) | ((with_reducible refine AllO.call Zc (hlay _ (by simp only [rhid hA, hid_eq hA, cN, Int.toNat_natCast])) ?_ ?_) <;> (first | refine AllO.pass ?_ | exact rfl | exact Zd)) | refine AllO.consX ZX rfl rfl ?_ | ((refine AllO.consX (One.indexPtr tabOk rfl rfl rfl rfl rfl (by decide) (by decide)) rfl rfl ?_) <;> (first | refine AllO.pass ?_ | exact Zd))) | refine Thn.exit ?_ | refine Blk.here ?_ | refine Blk.other (by decide) ?_ | refine ⟨.inl rfl, _, RetOk.ev tabOk Zc, ?_⟩ | fail)
    all_goals try (exfalso; omega)
    rw [show (A (.hid Int) fun _ => v) = v from rhid hA _]
    rw [hid_eq hA v] at hwi
    obtain ⟨f1, hf1⟩ : ∃ f1 : Int → Int × Int, f1 = fun id => (repM K V id, Y) := ⟨_, rfl⟩
    obtain ⟨pre, hpD⟩ : ∃ pre, pre = P.getD v.toNat default := ⟨_, rfl⟩
    have hpl : (P.getD v.toNat default).length = pre.length := by rw [hpD]
    rw [← hf1, ← hpD]
    refine AWp.loopU (fun x : Nat × Nat => [(17, .ic (.lit (.int .i64 (hid A (cN x.1))))), (13, .own 4 x.2)]) (fun x => [.var true 26 [.ic (.sl 1 false (hid A (List.map (encK A) K))), .ic (.sl 1 false (hid A (List.map encI S)))], .var true 31 [.ic (.sl 1 false (hid A (List.map encI R))), .ic (.sl 1 false (hid A (List.map encI V))), .ic (.sl 2 false (hid A (List.map encN N))), .ic (.sl 1 false (hid A (List.map encI M))), .ic (.sl 1 false (hid A (List.map (encK A) P))), .ic (.sl 1 false (hid A (List.map (encK A) Q)))], .var true 58 [.ic (.lit (.int .i64 p0)), .ic (.lit (.int .i64 p1))], .var true 31 [.ic (.sl 0 true []), .ic (.sl 0 true []), .ic (.sl 0 true []), .ic (.sl 0 true []), .ic (.sl 0 true []), .ic (.sl 0 true [])], .row true x.2 58 2 (hid A (List.map encN ((pre.take x.1).map f1)))]) (fun x => pre.length - x.1) (fun x => x.1 ≤ pre.length) (0, 0) (by conv => lhs; cbv) (Nat.zero_le _) (by ((repeat' (first | exact subE.nil | refine subE.cons rfl ?_ | refine subE.int rfl ?_ ?_ | refine subE.bool rfl ?_ ?_ | refine subE.str rfl ?_ ?_ | refine subE.sl rfl ?_ ?_))) <;> first | rfl | simp [hA, real, hid, cN]) (by simp [hid_eq hA]) ?_
    rintro ⟨k, u⟩ hk
    simp only at hk ⊢
    by_cases hlt : k < pre.length
    · have hln : ((pre.take k).map f1).length = k := by simp; omega
      have hnx := takeMap f1 pre k hlt
      generalize hT2 : (pre.take (k + 1)).map f1 = T2 at *
      generalize (pre.take k).map f1 = T at *
      try first | refine AOLg.of [] ?_ | refine QSg.of [] ?_
      repeat' (first | (refine AWp.pass ?_; first | refine AWp.seq ?_ | refine AWp.block ?_ | refine AWp.skip ?_ | refine AWp.regG [] Zc ?_ | refine AWp.cond_t rfl ?_ | refine AWp.cond_f rfl ?_ | (refine AWp.cond rfl ?_ ?_ <;> intro hc <;> (try rw [hc]) <;> ((try simp only [zn] at hc) <;> (try simp (disch := omega) only [zz hA, zb, zy, reduceCtorEq, Bool.false_eq_true, Int.reduceLT, Int.reduceLE, Int.reduceNeg] at hc) <;> (try simp only [zw] at hc)) <;> (try (exfalso; omega))) | refine AWp.exit ?_ | refine AWp.ret ⟨.inr rfl, _, RetOk.ev tabOk Zc, ?_⟩ | refine W.AWp.drawVG [] rfl (by decide +kernel) Zc ?_) | (refine AOLg.pass ?_; refine AOLg.nx hA tabOk Zc ?_; first | refine NX.done ?_ | refine NX.gt ?_ | refine NX.gf ?_ | (refine NX.gs ?_ ?_ <;> intro hc <;> rw [hc] <;> ((try simp only [zn] at hc) <;> (try simp (disch := omega) only [zz hA, zb, zy, reduceCtorEq, Bool.false_eq_true, Int.reduceLT, Int.reduceLE, Int.reduceNeg] at hc) <;> (try simp only [zw] at hc)) <;> (try (exfalso; omega))) | (refine NX.kC ?_; first | (with_reducible refine NX.call (hrep _) ?_) | ((first | refine NX.call (hrep _) ?_)) | fail) | (refine NX.kO ?_; (first | refine NX.callO (hrep _) (by simp [allEq]) rfl ?_)) | refine NX.k 1 (NX.one Z1 ?_) | refine NX.k 7 (NX.one Z7 ?_) | refine NX.k 8 (NX.one Z8 ?_) | refine NX.k 10 (NX.one Z10 ?_) | refine NX.k 11 (NX.one Z11 ?_) | refine NX.k 14 (NX.one Z14 ?_) | refine NX.k 15 (NX.one Z15 ?_) | refine NX.k 17 (NX.one Z17 ?_) | refine NX.k 18 (NX.one Z18 ?_) | (refine NX.one (One.elemM hA tabOk rfl rfl rfl rfl Zd Zd) ?_) | (refine NX.one (One.buildArr tabOk rfl rfl rfl rfl rfl rfl) ?_) | (refine NX.one (One.appendOwnM hA tabOk (f := encN) (f1 (pre.getD k default)) rfl rfl rfl rfl rfl rfl (by simp only [encN, hf1, hpD, rhid hA, hid_eq hA, cN, Int.toNat_natCast]) Zd Zd) ?_) | refine NX.raw ?_) | (refine W.TRg.pass ?_; refine W.TRg.nx hA tabOk Zc ?_; first | refine W.TX.done ?_ | refine W.TX.gt ?_ | refine W.TX.gf ?_ | (refine W.TX.gs ?_ ?_ <;> intro hc <;> rw [hc] <;> ((try simp only [zn] at hc) <;> (try simp (disch := omega) only [zz hA, zb, zy, reduceCtorEq, Bool.false_eq_true, Int.reduceLT, Int.reduceLE, Int.reduceNeg] at hc) <;> (try simp only [zw] at hc)) <;> (try (exfalso; omega))) | (refine W.TX.kC ?_; first | (with_reducible refine W.TX.call (hrep _) ?_) | ((first | refine W.TX.call (hrep _) ?_)) | fail) | (refine W.TX.kO ?_; (first | refine W.TX.callO (hrep _) (by simp [allEq]) rfl ?_)) | refine W.TX.k 1 (W.TX.one Z1 ?_) | refine W.TX.k 7 (W.TX.one Z7 ?_) | refine W.TX.k 8 (W.TX.one Z8 ?_) | refine W.TX.k 10 (W.TX.one Z10 ?_) | refine W.TX.k 11 (W.TX.one Z11 ?_) | refine W.TX.k 14 (W.TX.one Z14 ?_) | refine W.TX.k 15 (W.TX.one Z15 ?_) | refine W.TX.k 17 (W.TX.one Z17 ?_) | refine W.TX.k 18 (W.TX.one Z18 ?_) | (refine W.TX.one (One.elemM hA tabOk rfl rfl rfl rfl Zd Zd) ?_) | (refine W.TX.one (One.buildArr tabOk rfl rfl rfl rfl rfl rfl) ?_) | (refine W.TX.one (One.appendOwnM hA tabOk (f := encN) (f1 (pre.getD k default)) rfl rfl rfl rfl rfl rfl (by simp only [encN, hf1, hpD, rhid hA, hid_eq hA, cN, Int.toNat_natCast]) Zd Zd) ?_) | refine W.TX.raw ?_) | refine W.Fin3.of Zc (by repeat' (first | exact True.intro | exact rfl | refine And.intro ?_ ?_)) ?_ ?_ | (refine W.AllO.pass ?_; first | exact W.AllO.nil | (refine W.AllO.cons (One.ev hA tabOk ?_) ?_ <;> (first | refine W.AllO.pass ?_ | ((conv => lhs; cbv); done))) | (refine W.AllO.cons (One.skipB ?_) ?_ <;> (first | refine W.AllO.pass ?_ | ((conv => lhs; cbv); done))) | ((with_reducible refine W.AllO.call Zc (hrep _) ?_ ?_) <;> (first | refine W.AllO.pass ?_ | exact rfl | exact Zd)) | refine W.AllO.consX ZX rfl rfl ?_ | ((refine W.AllO.consX (One.elemM hA tabOk rfl rfl rfl rfl Zd Zd) rfl rfl ?_) <;> (first | refine W.AllO.pass ?_ | exact Zd)) | ((refine W.AllO.consX (One.buildArr tabOk rfl rfl rfl rfl rfl rfl) rfl rfl ?_) <;> (first | refine W.AllO.pass ?_ | exact Zd))) | refine Thn.exit ?_ | refine Blk.here ?_ | refine Blk.other (by decide) ?_ | refine ⟨.inl rfl, _, RetOk.ev tabOk Zc, ?_⟩ | fail)
      all_goals try (exfalso; omega)
      refine ⟨(k + 1, u + 1), by simp only; omega, by simp only; omega, rfl, ?_, ?_, Zk⟩
      · simp only [hT2, hnx]
      · (repeat' (first | exact subE.nil | refine subE.cons rfl ?_ | refine subE.int rfl ?_ ?_ | refine subE.bool rfl ?_ ?_ | refine subE.str rfl ?_ ?_ | refine subE.sl rfl ?_ ?_))
        all_goals first | rfl | exact Zd
    · rw [show pre.take k = pre from List.take_of_length_le (by omega)]
      try first | refine AOLg.of [] ?_ | refine QSg.of [] ?_
      repeat' (first | (refine AWp.pass ?_; first | refine AWp.seq ?_ | refine AWp.block ?_ | refine AWp.skip ?_ | refine AWp.regG [] Zc ?_ | refine AWp.cond_t rfl ?_ | refine AWp.cond_f rfl ?_ | (refine AWp.cond rfl ?_ ?_ <;> intro hc <;> (try rw [hc]) <;> ((try simp only [zn] at hc) <;> (try simp (disch := omega) only [zz hA, zb, zy, reduceCtorEq, Bool.false_eq_true, Int.reduceLT, Int.reduceLE, Int.reduceNeg] at hc) <;> (try simp only [zw] at hc)) <;> (try (exfalso; omega))) | refine AWp.exit ?_ | refine AWp.ret ⟨.inr rfl, _, RetOk.ev tabOk Zc, ?_⟩ | refine AWp.drawVG [] rfl (by decide +kernel) Zc ?_) | (refine AOLg.pass ?_; refine AOLg.nx hA tabOk Zc ?_; first | refine NX.done ?_ | refine NX.gt ?_ | refine NX.gf ?_ | (refine NX.gs ?_ ?_ <;> intro hc <;> rw [hc] <;> ((try simp only [zn] at hc) <;> (try simp (disch := omega) only [zz hA, zb, zy, reduceCtorEq, Bool.false_eq_true, Int.reduceLT, Int.reduceLE, Int.reduceNeg] at hc) <;> (try simp only [zw] at hc)) <;> (try (exfalso; omega))) | (refine NX.kC ?_; first | (with_reducible refine NX.call (hwi) ?_) | ((first | refine NX.call (hwi) ?_)) | fail) | (refine NX.kO ?_; (first | refine NX.callO (hwi) (by simp [allEq]) rfl ?_)) | refine NX.k 1 (NX.one Z1 ?_) | refine NX.k 7 (NX.one Z7 ?_) | refine NX.k 8 (NX.one Z8 ?_) | refine NX.k 10 (NX.one Z10 ?_) | refine NX.k 11 (NX.one Z11 ?_) | refine NX.k 14 (NX.one Z14 ?_) | refine NX.k 15 (NX.one Z15 ?_) | refine NX.k 17 (NX.one Z17 ?_) | refine NX.k 18 (NX.one Z18 ?_) | refine NX.raw ?_) | (refine TRg.pass ?_; refine TRg.nx hA tabOk Zc ?_; first | refine TX.done ?_ | refine TX.gt ?_ | refine TX.gf ?_ | (refine TX.gs ?_ ?_ <;> intro hc <;> rw [hc] <;> ((try simp only [zn] at hc) <;> (try simp (disch := omega) only [zz hA, zb, zy, reduceCtorEq, Bool.false_eq_true, Int.reduceLT, Int.reduceLE, Int.reduceNeg] at hc) <;> (try simp only [zw] at hc)) <;> (try (exfalso; omega))) | (refine TX.kC ?_; first | (with_reducible refine TX.call (hwi) ?_) | ((first | refine TX.call (hwi) ?_)) | fail) | (refine TX.kO ?_; (first | refine TX.callO (hwi) (by simp [allEq]) rfl ?_)) | refine TX.k 1 (TX.one Z1 ?_) | refine TX.k 7 (TX.one Z7 ?_) | refine TX.k 8 (TX.one Z8 ?_) | refine TX.k 10 (TX.one Z10 ?_) | refine TX.k 11 (TX.one Z11 ?_) | refine TX.k 14 (TX.one Z14 ?_) | refine TX.k 15 (TX.one Z15 ?_) | refine TX.k 17 (TX.one Z17 ?_) | refine TX.k 18 (TX.one Z18 ?_) | refine TX.raw ?_) | refine Fin3.of Zc (by repeat' (first | exact True.intro | exact rfl | refine And.intro ?_ ?_)) ?_ ?_ | (refine AllO.pass ?_; first | exact AllO.nil | (refine AllO.cons (One.ev hA tabOk ?_) ?_ <;> (first | refine AllO.pass ?_ | ((conv => lhs; cbv); done))) | (refine AllO.cons (One.skipB ?_) ?_ <;> (first | refine AllO.pass ?_ | ((conv => lhs; cbv); done))) | ((with_reducible refine AllO.call Zc (hwi) ?_ ?_) <;> (first | refine AllO.pass ?_ | exact rfl | exact Zd)) | refine AllO.consX ZX rfl rfl ?_) | refine Thn.exit ?_ | refine Blk.here ?_ | refine Blk.other (by decide) ?_ | refine ⟨.inl rfl, _, RetOk.ev tabOk Zc, ?_⟩ | fail)
      all_goals try (exfalso; omega)
      all_goals
        show rPV _ _ = some _
        rw [rPV_gr4 (k := 4) rfl]
set_option maxHeartbeats 4000000 in
theorem refAdd_c3 (K : List (List Int)) (S : List Int) (hst : StK K S) (R V : List Int) (N : List (Int × Int)) (M : List Int) (P Q : List (List Int)) (hru : RightU V R) (hR : R.length ≤ 1000) (hV : V.length ≤ 1000) (hP : P.length = V.length) (hQ : Q.length = V.length) (hPl : ∀ x ∈ P, x.length ≤ 1000) (hQl : ∀ x ∈ Q, x.length ≤ 1000) (p0 p1 X Y v w : Int)
    (hX : repM K V p0 = X) (hY : repM K V p1 = Y) (hv : numM K V.length X = v) (hw : numM K V.length Y = w) (v0 : 0 ≤ v) (w0 : 0 ≤ w) (hvw : v ≠ w) (hl : lessM R w v = false) (hl2 : lessM R v w = true) (w1 : w < V.length) :
    ∃ sz ex q b, PureCalls Try.prog 23 [keyedPV A K S, grP A R V N M P Q, .agg [.lit (.int .i64 p0), .lit (.int .i64 p1)]] (.tup [grP A R V N M (P.set w.toNat (layI (P.getD w.toNat default) X)) Q, .c (.sl sz ex q), BP b]) := by
  have r0 := refRep_c hA K S hst R V N M P Q hru (by omega) p0
  have r1 := refRep_c hA K S hst R V N M P Q hru (by omega) p1
  have hrep := fun z => refRep_c hA K S hst R V N M P Q hru (by omega) z
  have n0 := refNumber_c hA K S hst.ok hst.keys R V N M P Q (hid A X)
  have n1 := refNumber_c hA K S hst.ok hst.keys R V N M P Q (hid A Y)
  rw [show numM K V.length (hid A X) = v by rw [hid_eq hA, hv]] at n0
  rw [show numM K V.length (hid A Y) = w by rw [hid_eq hA, hw]] at n1
  rw [hX] at r0
  rw [hY] at r1
  have hls := refLess_c hA R (hid A w) (hid A v) (by omega)
  rw [show lessM R (hid A w) (hid A v) = false by rw [hid_eq hA, hid_eq hA]; exact hl, hid_eq hA (α := Bool)] at hls
  have hmay := refMayG_c hA K S hst R V N M P Q (by omega) (hid A X) (hid A w) true
  rw [show mayG K R V.length (hid A X) (hid A w) true = true by rw [hid_eq hA, hid_eq hA]; unfold mayG; rw [hv, if_pos v0]; exact hl2, hid_eq hA (α := Bool)] at hmay
  have hpre : (P.getD w.toNat default).length ≤ 1000 := hPl _ (by rw [List.getD_eq_getElem?_getD, List.getElem?_eq_getElem (by omega)]; exact List.getElem_mem _)
  have hsuc : (Q.getD w.toNat default).length ≤ 1000 := hQl _ (by rw [List.getD_eq_getElem?_getD, List.getElem?_eq_getElem (by omega)]; exact List.getElem_mem _)
  have hlay : ∀ l : List Int, l = P.getD w.toNat default → PureCalls Try.prog 54 [intsP A l, IP (hid A X)] (.tup [intsP A (layI (P.getD w.toNat default) X), BP (layB (P.getD w.toNat default) X)]) := by
    rintro l rfl
    have := refLay12_c hA (P.getD w.toNat default) X (by omega)
    rw [hid_eq hA (α := Bool)] at this
    rw [hid_eq hA X]; exact this
  have hwi : PureCalls Try.prog 55 [slP A 1 (encK A) P, IP (hid A w), intsP A (layI (P.getD w.toNat default) X)] (slP A 1 (encK A) (P.set w.toNat (layI (P.getD w.toNat default) X))) := by
    rw [hid_eq hA w]
    exact refWith_c hA P w _ w0 (by omega) (by omega)
  clear hPl hQl
  cases hb : layB (P.getD w.toNat default) X with
  | false =>
    have hs : P.set w.toNat (layI (P.getD w.toNat default) X) = P := by
      have : layI (P.getD w.toNat default) X = P.getD w.toNat default := by
        unfold layB at hb
        unfold layI
        rw [if_pos (by simpa using hb)]
      rw [this]
      refine List.ext_getElem (by simp) fun i h1 h2 => ?_
      rw [List.getElem_set]
      split
      · rename_i e; subst e; rw [List.getD_eq_getElem?_getD, List.getElem?_eq_getElem h2]; rfl
      · rfl
    rw [hb] at hlay
    rw [hs]
    refine ⟨0, true, [], false, ?_⟩
    generalize layI (P.getD w.toNat default) X = L at *
    refine PureCalls.of Try.func23 rfl (by kernel_rfl) rfl ?_
    try first | refine AOLg.of [] ?_ | refine QSg.of [] ?_
    repeat' (first | (refine AWp.pass ?_; first | refine AWp.seq ?_ | refine AWp.block ?_ | refine AWp.skip ?_ | refine AWp.regG [] Zc ?_ | refine AWp.cond_t rfl ?_ | refine AWp.cond_f rfl ?_ | (refine AWp.cond rfl ?_ ?_ <;> intro hc <;> (try rw [hc]) <;> ((try simp only [zn] at hc) <;> (try simp (disch := omega) only [zz hA, zb, zy, reduceCtorEq, Bool.false_eq_true, Int.reduceLT, Int.reduceLE, Int.reduceNeg] at hc) <;> (try simp only [zw] at hc)) <;> (try (exfalso; omega))) | refine AWp.exit ?_ | refine AWp.ret ⟨.inr rfl, _, RetOk.ev tabOk Zc, ?_⟩ | refine AWp.drawVG [] rfl (by decide +kernel) Zc ?_) | (refine AOLg.pass ?_; refine AOLg.nx hA tabOk Zc ?_; first | refine NX.done ?_ | refine NX.gt ?_ | refine NX.gf ?_ | (refine NX.gs ?_ ?_ <;> intro hc <;> rw [hc] <;> ((try simp only [zn] at hc) <;> (try simp (disch := omega) only [zz hA, zb, zy, reduceCtorEq, Bool.false_eq_true, Int.reduceLT, Int.reduceLE, Int.reduceNeg] at hc) <;> (try simp only [zw] at hc)) <;> (try (exfalso; omega))) | (refine NX.kC ?_; first | (with_reducible refine NX.call (r0) ?_) | (with_reducible refine NX.call (r1) ?_) | (with_reducible refine NX.call (n0) ?_) | (with_reducible refine NX.call (n1) ?_) | (with_reducible refine NX.call (hls) ?_) | (with_reducible refine NX.call (hmay) ?_) | (with_reducible refine NX.call (hlay _ (by simp only [rhid hA, hid_eq hA, cN, Int.toNat_natCast])) ?_) | ((first | refine NX.call (r0) ?_ | refine NX.call (r1) ?_ | refine NX.call (n0) ?_ | refine NX.call (n1) ?_ | refine NX.call (hls) ?_ | refine NX.call (hmay) ?_ | refine NX.call (hlay _ (by simp only [rhid hA, hid_eq hA, cN, Int.toNat_natCast])) ?_)) | fail) | (refine NX.kO ?_; (first | refine NX.callO (r0) (by simp [allEq]) rfl ?_ | refine NX.callO (r1) (by simp [allEq]) rfl ?_ | refine NX.callO (n0) (by simp [allEq]) rfl ?_ | refine NX.callO (n1) (by simp [allEq]) rfl ?_ | refine NX.callO (hls) (by simp [allEq]) rfl ?_ | refine NX.callO (hmay) (by simp [allEq]) rfl ?_ | refine NX.callO (hlay _ (by simp only [rhid hA, hid_eq hA, cN, Int.toNat_natCast])) (by simp [allEq]) rfl ?_)) | refine NX.k 1 (NX.one Z1 ?_) | refine NX.k 7 (NX.one Z7 ?_) | refine NX.k 8 (NX.one Z8 ?_) | refine NX.k 10 (NX.one Z10 ?_) | refine NX.k 11 (NX.one Z11 ?_) | refine NX.k 14 (NX.one Z14 ?_) | refine NX.k 15 (NX.one Z15 ?_) | refine NX.k 17 (NX.one Z17 ?_) | refine NX.k 18 (NX.one Z18 ?_) | (refine NX.one (One.indexPtr tabOk rfl rfl rfl rfl rfl (by decide) (by decide)) ?_) | refine NX.raw ?_) | (refine TRg.pass ?_; refine TRg.nx hA tabOk Zc ?_; first | refine TX.done ?_ | refine TX.gt ?_ | refine TX.gf ?_ | (refine TX.gs ?_ ?_ <;> intro hc <;> rw [hc] <;> ((try simp only [zn] at hc) <;> (try simp (disch := omega) only [zz hA, zb, zy, reduceCtorEq, Bool.false_eq_true, Int.reduceLT, Int.reduceLE, Int.reduceNeg] at hc) <;> (try simp only [zw] at hc)) <;> (try (exfalso; omega))) | (refine TX.kC ?_; first | (with_reducible refine TX.call (r0) ?_) | (with_reducible refine TX.call (r1) ?_) | (with_reducible refine TX.call (n0) ?_) | (with_reducible refine TX.call (n1) ?_) | (with_reducible refine TX.call (hls) ?_) | (with_reducible refine TX.call (hmay) ?_) | (with_reducible refine TX.call (hlay _ (by simp only [rhid hA, hid_eq hA, cN, Int.toNat_natCast])) ?_) | ((first | refine TX.call (r0) ?_ | refine TX.call (r1) ?_ | refine TX.call (n0) ?_ | refine TX.call (n1) ?_ | refine TX.call (hls) ?_ | refine TX.call (hmay) ?_ | refine TX.call (hlay _ (by simp only [rhid hA, hid_eq hA, cN, Int.toNat_natCast])) ?_)) | fail) | (refine TX.kO ?_; (first | refine TX.callO (r0) (by simp [allEq]) rfl ?_ | refine TX.callO (r1) (by simp [allEq]) rfl ?_ | refine TX.callO (n0) (by simp [allEq]) rfl ?_ | refine TX.callO (n1) (by simp [allEq]) rfl ?_ | refine TX.callO (hls) (by simp [allEq]) rfl ?_ | refine TX.callO (hmay) (by simp [allEq]) rfl ?_ | refine TX.callO (hlay _ (by simp only [rhid hA, hid_eq hA, cN, Int.toNat_natCast])) (by simp [allEq]) rfl ?_)) | refine TX.k 1 (TX.one Z1 ?_) | refine TX.k 7 (TX.one Z7 ?_) | refine TX.k 8 (TX.one Z8 ?_) | refine TX.k 10 (TX.one Z10 ?_) | refine TX.k 11 (TX.one Z11 ?_) | refine TX.k 14 (TX.one Z14 ?_) | refine TX.k 15 (TX.one Z15 ?_) | refine TX.k 17 (TX.one Z17 ?_) | refine TX.k 18 (TX.one Z18 ?_) | (refine TX.one (One.indexPtr tabOk rfl rfl rfl rfl rfl (by decide) (by decide)) ?_) | refine TX.raw ?_) | refine Fin3.of Zc (by repeat' (first | exact True.intro | exact rfl | refine And.intro ?_ ?_)) ?_ ?_ | (refine AllO.pass ?_; first | exact AllO.nil | (refine AllO.cons (One.ev hA tabOk ?_) ?_ <;> (first | refine AllO.pass ?_ | ((conv => lhs; cbv); done))) | (refine AllO.cons (One.skipB ?_) ?_ <;> (first | refine AllO.pass ?_ | ((conv => lhs; cbv); done))) | ((with_reducible refine AllO.call Zc (r0) ?_ ?_) <;> (first | refine AllO.pass ?_ | exact rfl | exact Zd)) | ((with_reducible refine AllO.call Zc (r1) ?_ ?_) <;> (first | refine AllO.pass ?_ | exact rfl | exact Zd)) | ((with_reducible refine AllO.call Zc (n0) ?_ ?_) <;> (first | refine AllO.pass ?_ | exact rfl | exact Zd)) | ((with_reducible refine AllO.call Zc (n1) ?_ ?_) <;> (first | refine AllO.pass ?_ | exact rfl | exact Zd)) | ((with_reducible refine AllO.call Zc (hls) ?_ ?_) <;> (first | refine AllO.pass ?_ | exact rfl | exact Zd)) | ((with_reducible refine AllO.call Zc (hmay) ?_ ?_) <;> (first | refine AllO.pass ?_ | exact rfl | exact Zd)) | ((with_reducible refine AllO.call Zc (hlay _ (by simp only [rhid hA, hid_eq hA, cN, Int.toNat_natCast])) ?_ ?_) <;> (first | refine AllO.pass ?_ | exact rfl | exact Zd)) | refine AllO.consX ZX rfl rfl ?_ | ((refine AllO.consX (One.indexPtr tabOk rfl rfl rfl rfl rfl (by decide) (by decide)) rfl rfl ?_) <;> (first | refine AllO.pass ?_ | exact Zd))) | refine Thn.exit ?_ | refine Blk.here ?_ | refine Blk.other (by decide) ?_ | refine ⟨.inl rfl, _, RetOk.ev tabOk Zc, ?_⟩ | fail)
    all_goals first | (exfalso; omega) | (refine rPV_then (by conv => lhs; cbv) ?_; rfl) | fail
  | true =>
    rw [hb] at hlay
    refine ⟨2, false, hid A (List.map encN ((Q.getD w.toNat default).map fun id => (X, repM K V id))), true, ?_⟩
    generalize layI (P.getD w.toNat default) X = L at *
    refine PureCalls.of Try.func23 rfl (by kernel_rfl) rfl ?_
    try first | refine AOLg.of [13] ?_ | refine QSg.of [13] ?_
    repeat' (first | (refine AWp.pass ?_; first | refine AWp.seq ?_ | refine AWp.block ?_ | refine AWp.skip ?_ | refine AWp.regG [13] Zc ?_ | refine AWp.cond_t rfl ?_ | refine AWp.cond_f rfl ?_ | (refine AWp.cond rfl ?_ ?_ <;> intro hc <;> (try rw [hc]) <;> ((try simp only [zn] at hc) <;> (try simp (disch := omega) only [zz hA, zb, zy, reduceCtorEq, Bool.false_eq_true, Int.reduceLT, Int.reduceLE, Int.reduceNeg] at hc) <;> (try simp only [zw] at hc)) <;> (try (exfalso; omega))) | refine AWp.exit ?_ | refine AWp.ret ⟨.inr rfl, _, RetOk.ev tabOk Zc, ?_⟩ | refine AWp.drawVG [13] rfl (by decide +kernel) Zc ?_) | (refine AOLg.pass ?_; refine AOLg.nx hA tabOk Zc ?_; first | refine NX.done ?_ | refine NX.gt ?_ | refine NX.gf ?_ | (refine NX.gs ?_ ?_ <;> intro hc <;> rw [hc] <;> ((try simp only [zn] at hc) <;> (try simp (disch := omega) only [zz hA, zb, zy, reduceCtorEq, Bool.false_eq_true, Int.reduceLT, Int.reduceLE, Int.reduceNeg] at hc) <;> (try simp only [zw] at hc)) <;> (try (exfalso; omega))) | (refine NX.kC ?_; first | (with_reducible refine NX.call (r0) ?_) | (with_reducible refine NX.call (r1) ?_) | (with_reducible refine NX.call (n0) ?_) | (with_reducible refine NX.call (n1) ?_) | (with_reducible refine NX.call (hls) ?_) | (with_reducible refine NX.call (hmay) ?_) | (with_reducible refine NX.call (hlay _ (by simp only [rhid hA, hid_eq hA, cN, Int.toNat_natCast])) ?_) | ((first | refine NX.call (r0) ?_ | refine NX.call (r1) ?_ | refine NX.call (n0) ?_ | refine NX.call (n1) ?_ | refine NX.call (hls) ?_ | refine NX.call (hmay) ?_ | refine NX.call (hlay _ (by simp only [rhid hA, hid_eq hA, cN, Int.toNat_natCast])) ?_)) | fail) | (refine NX.kO ?_; (first | refine NX.callO (r0) (by simp [allEq]) rfl ?_ | refine NX.callO (r1) (by simp [allEq]) rfl ?_ | refine NX.callO (n0) (by simp [allEq]) rfl ?_ | refine NX.callO (n1) (by simp [allEq]) rfl ?_ | refine NX.callO (hls) (by simp [allEq]) rfl ?_ | refine NX.callO (hmay) (by simp [allEq]) rfl ?_ | refine NX.callO (hlay _ (by simp only [rhid hA, hid_eq hA, cN, Int.toNat_natCast])) (by simp [allEq]) rfl ?_)) | refine NX.k 1 (NX.one Z1 ?_) | refine NX.k 7 (NX.one Z7 ?_) | refine NX.k 8 (NX.one Z8 ?_) | refine NX.k 10 (NX.one Z10 ?_) | refine NX.k 11 (NX.one Z11 ?_) | refine NX.k 14 (NX.one Z14 ?_) | refine NX.k 15 (NX.one Z15 ?_) | refine NX.k 17 (NX.one Z17 ?_) | refine NX.k 18 (NX.one Z18 ?_) | (refine NX.one (One.indexPtr tabOk rfl rfl rfl rfl rfl (by decide) (by decide)) ?_) | (refine NX.one (One.nilOwn tabOk 13 53 rfl rfl rfl) ?_) | refine NX.raw ?_) | (refine TRg.pass ?_; refine TRg.nx hA tabOk Zc ?_; first | refine TX.done ?_ | refine TX.gt ?_ | refine TX.gf ?_ | (refine TX.gs ?_ ?_ <;> intro hc <;> rw [hc] <;> ((try simp only [zn] at hc) <;> (try simp (disch := omega) only [zz hA, zb, zy, reduceCtorEq, Bool.false_eq_true, Int.reduceLT, Int.reduceLE, Int.reduceNeg] at hc) <;> (try simp only [zw] at hc)) <;> (try (exfalso; omega))) | (refine TX.kC ?_; first | (with_reducible refine TX.call (r0) ?_) | (with_reducible refine TX.call (r1) ?_) | (with_reducible refine TX.call (n0) ?_) | (with_reducible refine TX.call (n1) ?_) | (with_reducible refine TX.call (hls) ?_) | (with_reducible refine TX.call (hmay) ?_) | (with_reducible refine TX.call (hlay _ (by simp only [rhid hA, hid_eq hA, cN, Int.toNat_natCast])) ?_) | ((first | refine TX.call (r0) ?_ | refine TX.call (r1) ?_ | refine TX.call (n0) ?_ | refine TX.call (n1) ?_ | refine TX.call (hls) ?_ | refine TX.call (hmay) ?_ | refine TX.call (hlay _ (by simp only [rhid hA, hid_eq hA, cN, Int.toNat_natCast])) ?_)) | fail) | (refine TX.kO ?_; (first | refine TX.callO (r0) (by simp [allEq]) rfl ?_ | refine TX.callO (r1) (by simp [allEq]) rfl ?_ | refine TX.callO (n0) (by simp [allEq]) rfl ?_ | refine TX.callO (n1) (by simp [allEq]) rfl ?_ | refine TX.callO (hls) (by simp [allEq]) rfl ?_ | refine TX.callO (hmay) (by simp [allEq]) rfl ?_ | refine TX.callO (hlay _ (by simp only [rhid hA, hid_eq hA, cN, Int.toNat_natCast])) (by simp [allEq]) rfl ?_)) | refine TX.k 1 (TX.one Z1 ?_) | refine TX.k 7 (TX.one Z7 ?_) | refine TX.k 8 (TX.one Z8 ?_) | refine TX.k 10 (TX.one Z10 ?_) | refine TX.k 11 (TX.one Z11 ?_) | refine TX.k 14 (TX.one Z14 ?_) | refine TX.k 15 (TX.one Z15 ?_) | refine TX.k 17 (TX.one Z17 ?_) | refine TX.k 18 (TX.one Z18 ?_) | (refine TX.one (One.indexPtr tabOk rfl rfl rfl rfl rfl (by decide) (by decide)) ?_) | (refine TX.one (One.nilOwn tabOk 13 53 rfl rfl rfl) ?_) | refine TX.raw ?_) | refine Fin3.of Zc (by repeat' (first | exact True.intro | exact rfl | refine And.intro ?_ ?_)) ?_ ?_ | (refine AllO.pass ?_; first | exact AllO.nil | (refine AllO.cons (One.ev hA tabOk ?_) ?_ <;> (first | refine AllO.pass ?_ | ((conv => lhs; cbv); done))) | (refine AllO.cons (One.skipB ?_) ?_ <;> (first | refine AllO.pass ?_ | ((conv => lhs; cbv); done))) | ((with_reducible refine AllO.call Zc (r0) ?_ ?_) <;> (first | refine AllO.pass ?_ | exact rfl | exact Zd)) | ((with_reducible refine AllO.call Zc (r1) ?_ ?_) <;> (first | refine AllO.pass ?_ | exact rfl | exact Zd)) | ((with_reducible refine AllO.call Zc (n0) ?_ ?_) <;> (first | refine AllO.pass ?_ | exact rfl | exact Zd)) | ((with_reducible refine AllO.call Zc (n1) ?_ ?_) <;> (first | refine AllO.pass ?_ | exact rfl | exact Zd)) | ((with_reducible refine AllO.call Zc (hls) ?_ ?_) <;> (first | refine AllO.pass ?_ | exact rfl | exact Zd)) | ((with_reducible refine AllO.call Zc (hmay) ?_ ?_) <;> (first | refine AllO.pass ?_ | exact rfl | exact Zd)) | ((with_reducible refine AllO.call Zc (hlay _ (by simp only [rhid hA, hid_eq hA, cN, Int.toNat_natCast])) ?_ ?_) <;> (first | refine AllO.pass ?_ | exact rfl | exact Zd)) | refine AllO.consX ZX rfl rfl ?_ | ((refine AllO.consX (One.indexPtr tabOk rfl rfl rfl rfl rfl (by decide) (by decide)) rfl rfl ?_) <;> (first | refine AllO.pass ?_ | exact Zd))) | refine Thn.exit ?_ | refine Blk.here ?_ | refine Blk.other (by decide) ?_ | refine ⟨.inl rfl, _, RetOk.ev tabOk Zc, ?_⟩ | fail)
    all_goals try (exfalso; omega)
    rw [show (A (.hid Int) fun _ => w) = w from rhid hA _]
    rw [hid_eq hA w] at hwi
    obtain ⟨f1, hf1⟩ : ∃ f1 : Int → Int × Int, f1 = fun id => (X, repM K V id) := ⟨_, rfl⟩
    obtain ⟨pre, hpD⟩ : ∃ pre, pre = Q.getD w.toNat default := ⟨_, rfl⟩
    have hpl : (Q.getD w.toNat default).length = pre.length := by rw [hpD]
    rw [← hf1, ← hpD]
    refine AWp.loopU (fun x : Nat × Nat => [(21, .ic (.lit (.int .i64 (hid A (cN x.1))))), (13, .own 4 x.2)]) (fun x => [.var true 26 [.ic (.sl 1 false (hid A (List.map (encK A) K))), .ic (.sl 1 false (hid A (List.map encI S)))], .var true 31 [.ic (.sl 1 false (hid A (List.map encI R))), .ic (.sl 1 false (hid A (List.map encI V))), .ic (.sl 2 false (hid A (List.map encN N))), .ic (.sl 1 false (hid A (List.map encI M))), .ic (.sl 1 false (hid A (List.map (encK A) P))), .ic (.sl 1 false (hid A (List.map (encK A) Q)))], .var true 58 [.ic (.lit (.int .i64 p0)), .ic (.lit (.int .i64 p1))], .var true 31 [.ic (.sl 0 true []), .ic (.sl 0 true []), .ic (.sl 0 true []), .ic (.sl 0 true []), .ic (.sl 0 true []), .ic (.sl 0 true [])], .row true x.2 58 2 (hid A (List.map encN ((pre.take x.1).map f1)))]) (fun x => pre.length - x.1) (fun x => x.1 ≤ pre.length) (0, 0) (by conv => lhs; cbv) (Nat.zero_le _) (by ((repeat' (first | exact subE.nil | refine subE.cons rfl ?_ | refine subE.int rfl ?_ ?_ | refine subE.bool rfl ?_ ?_ | refine subE.str rfl ?_ ?_ | refine subE.sl rfl ?_ ?_))) <;> first | rfl | simp [hA, real, hid, cN]) (by simp [hid_eq hA]) ?_
    rintro ⟨k, u⟩ hk
    simp only at hk ⊢
    by_cases hlt : k < pre.length
    · have hln : ((pre.take k).map f1).length = k := by simp; omega
      have hnx := takeMap f1 pre k hlt
      generalize hT2 : (pre.take (k + 1)).map f1 = T2 at *
      generalize (pre.take k).map f1 = T at *
      try first | refine AOLg.of [] ?_ | refine QSg.of [] ?_
      repeat' (first | (refine AWp.pass ?_; first | refine AWp.seq ?_ | refine AWp.block ?_ | refine AWp.skip ?_ | refine AWp.regG [] Zc ?_ | refine AWp.cond_t rfl ?_ | refine AWp.cond_f rfl ?_ | (refine AWp.cond rfl ?_ ?_ <;> intro hc <;> (try rw [hc]) <;> ((try simp only [zn] at hc) <;> (try simp (disch := omega) only [zz hA, zb, zy, reduceCtorEq, Bool.false_eq_true, Int.reduceLT, Int.reduceLE, Int.reduceNeg] at hc) <;> (try simp only [zw] at hc)) <;> (try (exfalso; omega))) | refine AWp.exit ?_ | refine AWp.ret ⟨.inr rfl, _, RetOk.ev tabOk Zc, ?_⟩ | refine W.AWp.drawVG [] rfl (by decide +kernel) Zc ?_) | (refine AOLg.pass ?_; refine AOLg.nx hA tabOk Zc ?_; first | refine NX.done ?_ | refine NX.gt ?_ | refine NX.gf ?_ | (refine NX.gs ?_ ?_ <;> intro hc <;> rw [hc] <;> ((try simp only [zn] at hc) <;> (try simp (disch := omega) only [zz hA, zb, zy, reduceCtorEq, Bool.false_eq_true, Int.reduceLT, Int.reduceLE, Int.reduceNeg] at hc) <;> (try simp only [zw] at hc)) <;> (try (exfalso; omega))) | (refine NX.kC ?_; first | (with_reducible refine NX.call (hrep _) ?_) | ((first | refine NX.call (hrep _) ?_)) | fail) | (refine NX.kO ?_; (first | refine NX.callO (hrep _) (by simp [allEq]) rfl ?_)) | refine NX.k 1 (NX.one Z1 ?_) | refine NX.k 7 (NX.one Z7 ?_) | refine NX.k 8 (NX.one Z8 ?_) | refine NX.k 10 (NX.one Z10 ?_) | refine NX.k 11 (NX.one Z11 ?_) | refine NX.k 14 (NX.one Z14 ?_) | refine NX.k 15 (NX.one Z15 ?_) | refine NX.k 17 (NX.one Z17 ?_) | refine NX.k 18 (NX.one Z18 ?_) | (refine NX.one (One.elemM hA tabOk rfl rfl rfl rfl Zd Zd) ?_) | (refine NX.one (One.buildArr tabOk rfl rfl rfl rfl rfl rfl) ?_) | (refine NX.one (One.appendOwnM hA tabOk (f := encN) (f1 (pre.getD k default)) rfl rfl rfl rfl rfl rfl (by simp only [encN, hf1, hpD, rhid hA, hid_eq hA, cN, Int.toNat_natCast]) Zd Zd) ?_) | refine NX.raw ?_) | (refine W.TRg.pass ?_; refine W.TRg.nx hA tabOk Zc ?_; first | refine W.TX.done ?_ | refine W.TX.gt ?_ | refine W.TX.gf ?_ | (refine W.TX.gs ?_ ?_ <;> intro hc <;> rw [hc] <;> ((try simp only [zn] at hc) <;> (try simp (disch := omega) only [zz hA, zb, zy, reduceCtorEq, Bool.false_eq_true, Int.reduceLT, Int.reduceLE, Int.reduceNeg] at hc) <;> (try simp only [zw] at hc)) <;> (try (exfalso; omega))) | (refine W.TX.kC ?_; first | (with_reducible refine W.TX.call (hrep _) ?_) | ((first | refine W.TX.call (hrep _) ?_)) | fail) | (refine W.TX.kO ?_; (first | refine W.TX.callO (hrep _) (by simp [allEq]) rfl ?_)) | refine W.TX.k 1 (W.TX.one Z1 ?_) | refine W.TX.k 7 (W.TX.one Z7 ?_) | refine W.TX.k 8 (W.TX.one Z8 ?_) | refine W.TX.k 10 (W.TX.one Z10 ?_) | refine W.TX.k 11 (W.TX.one Z11 ?_) | refine W.TX.k 14 (W.TX.one Z14 ?_) | refine W.TX.k 15 (W.TX.one Z15 ?_) | refine W.TX.k 17 (W.TX.one Z17 ?_) | refine W.TX.k 18 (W.TX.one Z18 ?_) | (refine W.TX.one (One.elemM hA tabOk rfl rfl rfl rfl Zd Zd) ?_) | (refine W.TX.one (One.buildArr tabOk rfl rfl rfl rfl rfl rfl) ?_) | (refine W.TX.one (One.appendOwnM hA tabOk (f := encN) (f1 (pre.getD k default)) rfl rfl rfl rfl rfl rfl (by simp only [encN, hf1, hpD, rhid hA, hid_eq hA, cN, Int.toNat_natCast]) Zd Zd) ?_) | refine W.TX.raw ?_) | refine W.Fin3.of Zc (by repeat' (first | exact True.intro | exact rfl | refine And.intro ?_ ?_)) ?_ ?_ | (refine W.AllO.pass ?_; first | exact W.AllO.nil | (refine W.AllO.cons (One.ev hA tabOk ?_) ?_ <;> (first | refine W.AllO.pass ?_ | ((conv => lhs; cbv); done))) | (refine W.AllO.cons (One.skipB ?_) ?_ <;> (first | refine W.AllO.pass ?_ | ((conv => lhs; cbv); done))) | ((with_reducible refine W.AllO.call Zc (hrep _) ?_ ?_) <;> (first | refine W.AllO.pass ?_ | exact rfl | exact Zd)) | refine W.AllO.consX ZX rfl rfl ?_ | ((refine W.AllO.consX (One.elemM hA tabOk rfl rfl rfl rfl Zd Zd) rfl rfl ?_) <;> (first | refine W.AllO.pass ?_ | exact Zd)) | ((refine W.AllO.consX (One.buildArr tabOk rfl rfl rfl rfl rfl rfl) rfl rfl ?_) <;> (first | refine W.AllO.pass ?_ | exact Zd))) | refine Thn.exit ?_ | refine Blk.here ?_ | refine Blk.other (by decide) ?_ | refine ⟨.inl rfl, _, RetOk.ev tabOk Zc, ?_⟩ | fail)
      all_goals try (exfalso; omega)
      refine ⟨(k + 1, u + 1), by simp only; omega, by simp only; omega, rfl, ?_, ?_, Zk⟩
      · simp only [hT2, hnx]
      · (repeat' (first | exact subE.nil | refine subE.cons rfl ?_ | refine subE.int rfl ?_ ?_ | refine subE.bool rfl ?_ ?_ | refine subE.str rfl ?_ ?_ | refine subE.sl rfl ?_ ?_))
        all_goals first | rfl | exact Zd
    · rw [show pre.take k = pre from List.take_of_length_le (by omega)]
      try first | refine AOLg.of [] ?_ | refine QSg.of [] ?_
      repeat' (first | (refine AWp.pass ?_; first | refine AWp.seq ?_ | refine AWp.block ?_ | refine AWp.skip ?_ | refine AWp.regG [] Zc ?_ | refine AWp.cond_t rfl ?_ | refine AWp.cond_f rfl ?_ | (refine AWp.cond rfl ?_ ?_ <;> intro hc <;> (try rw [hc]) <;> ((try simp only [zn] at hc) <;> (try simp (disch := omega) only [zz hA, zb, zy, reduceCtorEq, Bool.false_eq_true, Int.reduceLT, Int.reduceLE, Int.reduceNeg] at hc) <;> (try simp only [zw] at hc)) <;> (try (exfalso; omega))) | refine AWp.exit ?_ | refine AWp.ret ⟨.inr rfl, _, RetOk.ev tabOk Zc, ?_⟩ | refine AWp.drawVG [] rfl (by decide +kernel) Zc ?_) | (refine AOLg.pass ?_; refine AOLg.nx hA tabOk Zc ?_; first | refine NX.done ?_ | refine NX.gt ?_ | refine NX.gf ?_ | (refine NX.gs ?_ ?_ <;> intro hc <;> rw [hc] <;> ((try simp only [zn] at hc) <;> (try simp (disch := omega) only [zz hA, zb, zy, reduceCtorEq, Bool.false_eq_true, Int.reduceLT, Int.reduceLE, Int.reduceNeg] at hc) <;> (try simp only [zw] at hc)) <;> (try (exfalso; omega))) | (refine NX.kC ?_; first | (with_reducible refine NX.call (hwi) ?_) | ((first | refine NX.call (hwi) ?_)) | fail) | (refine NX.kO ?_; (first | refine NX.callO (hwi) (by simp [allEq]) rfl ?_)) | refine NX.k 1 (NX.one Z1 ?_) | refine NX.k 7 (NX.one Z7 ?_) | refine NX.k 8 (NX.one Z8 ?_) | refine NX.k 10 (NX.one Z10 ?_) | refine NX.k 11 (NX.one Z11 ?_) | refine NX.k 14 (NX.one Z14 ?_) | refine NX.k 15 (NX.one Z15 ?_) | refine NX.k 17 (NX.one Z17 ?_) | refine NX.k 18 (NX.one Z18 ?_) | refine NX.raw ?_) | (refine TRg.pass ?_; refine TRg.nx hA tabOk Zc ?_; first | refine TX.done ?_ | refine TX.gt ?_ | refine TX.gf ?_ | (refine TX.gs ?_ ?_ <;> intro hc <;> rw [hc] <;> ((try simp only [zn] at hc) <;> (try simp (disch := omega) only [zz hA, zb, zy, reduceCtorEq, Bool.false_eq_true, Int.reduceLT, Int.reduceLE, Int.reduceNeg] at hc) <;> (try simp only [zw] at hc)) <;> (try (exfalso; omega))) | (refine TX.kC ?_; first | (with_reducible refine TX.call (hwi) ?_) | ((first | refine TX.call (hwi) ?_)) | fail) | (refine TX.kO ?_; (first | refine TX.callO (hwi) (by simp [allEq]) rfl ?_)) | refine TX.k 1 (TX.one Z1 ?_) | refine TX.k 7 (TX.one Z7 ?_) | refine TX.k 8 (TX.one Z8 ?_) | refine TX.k 10 (TX.one Z10 ?_) | refine TX.k 11 (TX.one Z11 ?_) | refine TX.k 14 (TX.one Z14 ?_) | refine TX.k 15 (TX.one Z15 ?_) | refine TX.k 17 (TX.one Z17 ?_) | refine TX.k 18 (TX.one Z18 ?_) | refine TX.raw ?_) | refine Fin3.of Zc (by repeat' (first | exact True.intro | exact rfl | refine And.intro ?_ ?_)) ?_ ?_ | (refine AllO.pass ?_; first | exact AllO.nil | (refine AllO.cons (One.ev hA tabOk ?_) ?_ <;> (first | refine AllO.pass ?_ | ((conv => lhs; cbv); done))) | (refine AllO.cons (One.skipB ?_) ?_ <;> (first | refine AllO.pass ?_ | ((conv => lhs; cbv); done))) | ((with_reducible refine AllO.call Zc (hwi) ?_ ?_) <;> (first | refine AllO.pass ?_ | exact rfl | exact Zd)) | refine AllO.consX ZX rfl rfl ?_) | refine Thn.exit ?_ | refine Blk.here ?_ | refine Blk.other (by decide) ?_ | refine ⟨.inl rfl, _, RetOk.ev tabOk Zc, ?_⟩ | fail)
      all_goals try (exfalso; omega)
      all_goals
        show rPV _ _ = some _
        rw [rPV_gr4 (k := 4) rfl]
end Go.Proofs.Ytkkjlmcnfoncdaa.Aw

namespace Go.Proofs.Ytkkjlmcnfoncdaa.Aw
open Go Go.RowKit
set_option maxRecDepth 10000
attribute [local irreducible] AWp AOL QS One AOLg QSg NX QX TRg TX AllO Fin3
attribute [local irreducible] W.TRg W.TX W.AllO W.Fin3
def K4 : List (List Int) := [[0, 0, 0], [1, 0, 0], [2, 0, 0], [2, 1, 0]]
theorem k4_ok : StK K4 (layM K4) where
  ok := ⟨by decide +kernel, by decide +kernel, by decide +kernel⟩
  lay := rfl
  len := by decide +kernel
  keys := by decide +kernel
theorem v2_find : findU [0, 1] 0 = 0 ∧ findU [0, 1] 1 = 1 := by decide +kernel
theorem v2_right : RightU [0, 1] [] := (rightB_iff _ _).1 (by decide +kernel)
variable {A : Ar} (hA : A = real)
include hA
theorem k4_rows : ILxr [[.sl 1 true [[.lit (.int .i64 0)], [.lit (.int .i64 0)], [.lit (.int .i64 0)]]], [.sl 1 true [[.lit (.int .i64 1)], [.lit (.int .i64 0)], [.lit (.int .i64 0)]]], [.sl 1 true [[.lit (.int .i64 2)], [.lit (.int .i64 0)], [.lit (.int .i64 0)]]], [.sl 1 true [[.lit (.int .i64 2)], [.lit (.int .i64 1)], [.lit (.int .i64 0)]]]] (hid A (List.map (encK A) K4)) := by
  rw [hid_eq hA, show List.map (encK A) K4 = [[.sl 1 false (List.map encI [0, 0, 0])], [.sl 1 false (List.map encI [1, 0, 0])], [.sl 1 false (List.map encI [2, 0, 0])], [.sl 1 false (List.map encI [2, 1, 0])]] by simp only [K4, List.map, encK, hid_eq hA]]
  exact .cons (.cons (.ex _ _ _) .nil) (.cons (.cons (.ex _ _ _) .nil) (.cons (.cons (.ex _ _ _) .nil) (.cons (.cons (.ex _ _ _) .nil) .nil)))
def K2 : List (List Int) := [[], []]
def K2' : List (List Int) := [[], [2]]
end Go.Proofs.Ytkkjlmcnfoncdaa.Aw

namespace Go.Proofs.Ytkkjlmcnfoncdaa.Aw
open Go Go.RowKit
set_option maxRecDepth 10000
attribute [local irreducible] AWp AOL QS One AOLg QSg NX QX TRg TX AllO Fin3
theorem nx_two : nextM K4 [0, 1] [[], [2]] [[], [2]] 1 = [0] ∧ nextM K4 [0, 1] [[], [2]] [[], [2]] 0 = [1] := by
  have e : edgesM K4 [0, 1] [[], [2]] [[], [2]] 2 = [(1, 0), (0, 1)] := by decide +kernel
  have h1 : outM [(1, 0), (0, 1)] 1 = [0] := by decide +kernel
  have h0 : outM [(1, 0), (0, 1)] 0 = [1] := by decide +kernel
  unfold nextM
  rw [show ([0, 1] : List Int).length = 2 from rfl, e, h1, h0]
  refine ⟨?_, ?_⟩
  · rw [show sortZ [0] = [0] by simp [sortZ]]; decide +kernel
  · rw [show sortZ [1] = [1] by simp [sortZ]]; decide +kernel
theorem path_two {nx : Int → List Int} (h : nx 1 = [0]) : pathM nx 1 0 5 = [1, 0] := by
  have hs : sortZ [0] = [0] := by simp [sortZ]
  have l0 : levP nx 1 0 = ([(1, 1)], [1]) := rfl
  have l1 : levP nx 1 1 = ([(1, 1), (0, 1)], [0]) := by
    simp only [levP, List.foldl_cons, List.foldl_nil, visP, h, inP]
    rw [show (mapF [((1 : Int), (1 : Int))] 0).isSome = false by decide]
    simp [hs]
  have g0 : goesP nx 1 0 5 0 = true := by unfold goesP; rw [l0]; decide +kernel
  have g1 : goesP nx 1 0 5 1 = false := by unfold goesP; rw [l1]; decide +kernel
  have hst : stopP nx 1 0 5 5 0 = 1 := by
    simp only [stopP, g0, g1, if_true, Nat.zero_add]
    rfl
  have hf : finP nx 1 0 5 = [(1, 1), (0, 1)] := by
    unfold finP
    rw [show (5 : Int).toNat = 5 from rfl, hst, l1]
  unfold pathM
  rw [hf]
  decide +kernel
variable {A : Ar} (hA : A = real)
include hA
theorem shown13_c : PureCalls Try.prog 18 [] (BP true) := by
  have hl := refLay_c hA K4 (by decide +kernel)
  have hn := refNew12_c hA
  obtain ⟨z1, x1, q1, b1, a1⟩ := refAdd_c3 hA K4 (layM K4) k4_ok [] [0, 1] [(-1, 0), (-1, 0)] [] [[], []] [[], []] v2_right (by decide) (by decide) rfl rfl (by decide) (by decide) 2 3 2 3 0 1 (by decide +kernel) (by decide +kernel) (by decide +kernel) (by decide +kernel) (by decide) (by decide) (by decide) (by decide +kernel) (by decide +kernel) (by decide)
  rw [show (([[], []] : List (List Int)).set (Int.toNat 1) (layI (([[], []] : List (List Int)).getD (Int.toNat 1) default) 2)) = [[], [2]] by decide +kernel] at a1
  obtain ⟨z2, x2, q2, b2, a2⟩ := refAdd_c2 hA K4 (layM K4) k4_ok [] [0, 1] [(-1, 0), (-1, 0)] [] [[], [2]] [[], []] v2_right (by decide) (by decide) rfl rfl (by decide) (by decide) 3 2 3 2 1 0 (by decide +kernel) (by decide +kernel) (by decide +kernel) (by decide +kernel) (by decide) (by decide) (by decide) (by decide) (by decide +kernel)
  rw [show (([[], []] : List (List Int)).set (Int.toNat 1) (layI (([[], []] : List (List Int)).getD (Int.toNat 1) default) 2)) = [[], [2]] by decide +kernel] at a2
  have hp := path_c hA K4 (layM K4) k4_ok [] [0, 1] [(-1, 0), (-1, 0)] [] [[], [2]] [[], [2]] v2_right (by decide) rfl rfl (by decide) (by decide) 1 0 (by decide) (by decide) (by decide) (by decide) 5 (by decide) (by decide)
  have hx := next_c hA K4 (layM K4) k4_ok [] [0, 1] [(-1, 0), (-1, 0)] [] [[], [2]] [[], [2]] v2_right (by decide) rfl rfl (by decide) (by decide) 0 (by decide) (by decide)
  rw [v2_find.1, v2_find.2, path_two (by unfold nxG; rw [v2_find.2]; exact nx_two.1)] at hp
  rw [v2_find.1, nx_two.2] at hx
  have e1 : ([1, 0] : List Int).length = 2 := rfl
  have e2 : ([1] : List Int).length = 1 := rfl
  have e3 : ([1, 0] : List Int).getD (Int.toNat 0) default = 1 := rfl
  have e4 : ([1, 0] : List Int).getD (Int.toNat 1) default = 0 := rfl
  have e5 : ([1] : List Int).getD (Int.toNat 0) default = 1 := rfl
  refine PureCalls.of Try.func18 rfl (by kernel_rfl) rfl ?_
  try first | refine AOLg.of [15] ?_ | refine QSg.of [15] ?_
  repeat' (first | (refine AWp.pass ?_; first | refine AWp.seq ?_ | refine AWp.block ?_ | refine AWp.skip ?_ | refine AWp.regG [15] Zc ?_ | refine AWp.cond_t rfl ?_ | refine AWp.cond_f rfl ?_ | (refine AWp.cond rfl ?_ ?_ <;> intro hc <;> (try rw [hc]) <;> ((try simp only [zn] at hc) <;> (try simp (disch := omega) only [zz hA, zb, zy, reduceCtorEq, Bool.false_eq_true, Int.reduceLT, Int.reduceLE, Int.reduceNeg] at hc) <;> (try simp only [zw] at hc)) <;> (try (exfalso; omega))) | refine AWp.exit ?_ | refine AWp.ret ⟨.inr rfl, _, RetOk.ev tabOk Zc, ?_⟩ | refine AWp.drawVG [15] rfl (by decide +kernel) Zc ?_) | (refine AOLg.pass ?_; refine AOLg.nx hA tabOk Zc ?_; first | refine NX.done ?_ | refine NX.gt ?_ | refine NX.gf ?_ | (refine NX.gs ?_ ?_ <;> intro hc <;> rw [hc] <;> ((try simp only [zn] at hc) <;> (try simp (disch := omega) only [zz hA, zb, zy, reduceCtorEq, Bool.false_eq_true, Int.reduceLT, Int.reduceLE, Int.reduceNeg] at hc) <;> (try simp only [zw] at hc)) <;> (try (exfalso; omega))) | (refine NX.kC ?_; first | (with_reducible refine NX.call (hl) ?_) | (with_reducible refine NX.call (hn) ?_) | (with_reducible refine NX.call (a1) ?_) | (with_reducible refine NX.call (a2) ?_) | (with_reducible refine NX.call (hp) ?_) | (with_reducible refine NX.call (hx) ?_) | ((first | refine NX.call (hl) ?_ | refine NX.call (hn) ?_ | refine NX.call (a1) ?_ | refine NX.call (a2) ?_ | refine NX.call (hp) ?_ | refine NX.call (hx) ?_)) | fail) | (refine NX.kO ?_; (first | refine NX.callO (hl) (by simp [allEq]) rfl ?_ | refine NX.callO (hn) (by simp [allEq]) rfl ?_ | refine NX.callO (a1) (by simp [allEq]) rfl ?_ | refine NX.callO (a2) (by simp [allEq]) rfl ?_ | refine NX.callO (hp) (by simp [allEq]) rfl ?_ | refine NX.callO (hx) (by simp [allEq]) rfl ?_)) | refine NX.k 1 (NX.one Z1 ?_) | refine NX.k 8 (NX.one Z8 ?_) | refine NX.k 10 (NX.one Z10 ?_) | refine NX.k 14 (NX.one Z14 ?_) | refine NX.k 15 (NX.one Z15 ?_) | refine NX.k 17 (NX.one Z17 ?_) | (refine NX.one (One.weakE (One.weakX (One.ev hA tabOk Zc) (k4_rows hA))) ?_) | (refine NX.one (One.buildArr tabOk rfl rfl rfl rfl rfl rfl) ?_) | refine NX.raw ?_) | (refine TRg.pass ?_; refine TRg.nx hA tabOk Zc ?_; first | refine TX.done ?_ | refine TX.gt ?_ | refine TX.gf ?_ | (refine TX.gs ?_ ?_ <;> intro hc <;> rw [hc] <;> ((try simp only [zn] at hc) <;> (try simp (disch := omega) only [zz hA, zb, zy, reduceCtorEq, Bool.false_eq_true, Int.reduceLT, Int.reduceLE, Int.reduceNeg] at hc) <;> (try simp only [zw] at hc)) <;> (try (exfalso; omega))) | (refine TX.kC ?_; first | (with_reducible refine TX.call (hl) ?_) | (with_reducible refine TX.call (hn) ?_) | (with_reducible refine TX.call (a1) ?_) | (with_reducible refine TX.call (a2) ?_) | (with_reducible refine TX.call (hp) ?_) | (with_reducible refine TX.call (hx) ?_) | ((first | refine TX.call (hl) ?_ | refine TX.call (hn) ?_ | refine TX.call (a1) ?_ | refine TX.call (a2) ?_ | refine TX.call (hp) ?_ | refine TX.call (hx) ?_)) | fail) | (refine TX.kO ?_; (first | refine TX.callO (hl) (by simp [allEq]) rfl ?_ | refine TX.callO (hn) (by simp [allEq]) rfl ?_ | refine TX.callO (a1) (by simp [allEq]) rfl ?_ | refine TX.callO (a2) (by simp [allEq]) rfl ?_ | refine TX.callO (hp) (by simp [allEq]) rfl ?_ | refine TX.callO (hx) (by simp [allEq]) rfl ?_)) | refine TX.k 1 (TX.one Z1 ?_) | refine TX.k 8 (TX.one Z8 ?_) | refine TX.k 10 (TX.one Z10 ?_) | refine TX.k 14 (TX.one Z14 ?_) | refine TX.k 15 (TX.one Z15 ?_) | refine TX.k 17 (TX.one Z17 ?_) | (refine TX.one (One.weakE (One.weakX (One.ev hA tabOk Zc) (k4_rows hA))) ?_) | (refine TX.one (One.buildArr tabOk rfl rfl rfl rfl rfl rfl) ?_) | refine TX.raw ?_) | refine Fin3.of Zc (by repeat' (first | exact True.intro | exact rfl | refine And.intro ?_ ?_)) ?_ ?_ | (refine AllO.pass ?_; first | exact AllO.nil | (refine AllO.cons (One.ev hA tabOk ?_) ?_ <;> (first | refine AllO.pass ?_ | ((conv => lhs; cbv); done))) | (refine AllO.cons (One.skipB ?_) ?_ <;> (first | refine AllO.pass ?_ | ((conv => lhs; cbv); done))) | ((with_reducible refine AllO.call Zc (hl) ?_ ?_) <;> (first | refine AllO.pass ?_ | exact rfl | exact Zd)) | ((with_reducible refine AllO.call Zc (hn) ?_ ?_) <;> (first | refine AllO.pass ?_ | exact rfl | exact Zd)) | ((with_reducible refine AllO.call Zc (a1) ?_ ?_) <;> (first | refine AllO.pass ?_ | exact rfl | exact Zd)) | ((with_reducible refine AllO.call Zc (a2) ?_ ?_) <;> (first | refine AllO.pass ?_ | exact rfl | exact Zd)) | ((with_reducible refine AllO.call Zc (hp) ?_ ?_) <;> (first | refine AllO.pass ?_ | exact rfl | exact Zd)) | ((with_reducible refine AllO.call Zc (hx) ?_ ?_) <;> (first | refine AllO.pass ?_ | exact rfl | exact Zd)) | refine AllO.consX ZX rfl rfl ?_ | ((refine AllO.consX (One.weakE (One.weakX (One.ev hA tabOk Zc) (k4_rows hA))) rfl rfl ?_) <;> (first | refine AllO.pass ?_ | exact Zd)) | ((refine AllO.consX (One.buildArr tabOk rfl rfl rfl rfl rfl rfl) rfl rfl ?_) <;> (first | refine AllO.pass ?_ | exact Zd))) | refine Thn.exit ?_ | refine Blk.here ?_ | refine Blk.other (by decide) ?_ | refine ⟨.inl rfl, _, RetOk.ev tabOk Zc, ?_⟩ | fail)
  all_goals first | (exfalso; omega) | (refine rPV_then (by conv => lhs; cbv) ?_; rfl) | (refine rPV_then (by conv => lhs; cbv) ?_; simp only [rhid hA]; simp [hA, real]; done) | fail
end Go.Proofs.Ytkkjlmcnfoncdaa.Aw

namespace Go.Proofs.Ytkkjlmcnfoncdaa.Aw
open Go Go.RowKit
theorem sortZ_le (l : List Int) : (sortZ l).Pairwise (· ≤ ·) := by
  have h := List.pairwise_mergeSort (le := fun x y : Int => decide (x ≤ y)) (fun a b c h1 h2 => by simp at *; omega) (fun a b => by simp; omega) l
  exact h.imp fun h => by simpa using h
theorem upTo_lt (d : Array Int) (hs : ∀ i : Nat, i + 1 < d.size → d[i]! ≤ d[i + 1]!) : ∀ m, m ≤ d.size → (Lib.compactUpTo d m).Pairwise (· < ·) ∧ (∀ x ∈ Lib.compactUpTo d m, 0 < m ∧ x ≤ d[m - 1]!)
  | 0, _ => by simp [Lib.compactUpTo]
  | m + 1, h => by
    obtain ⟨h1, h2⟩ := upTo_lt d hs m (by omega)
    rw [Lib.compactUpTo_succ]
    by_cases hk : Lib.keeps d m = true
    · rw [if_pos hk]
      unfold Lib.keeps at hk
      simp only [decide_eq_true_eq] at hk
      refine ⟨List.pairwise_append.2 ⟨h1, by simp, fun a ha b hb => ?_⟩, fun x hx => ?_⟩
      · obtain ⟨hm, hle⟩ := h2 a ha
        simp only [List.mem_singleton] at hb
        subst hb
        have hss := hs (m - 1) (by omega)
        rw [show m - 1 + 1 = m by omega] at hss
        rcases hk with hk | hk
        · omega
        · omega
      · simp only [List.mem_append, List.mem_singleton] at hx
        rcases hx with hx | hx
        · obtain ⟨hm, hle⟩ := h2 x hx
          have hss := hs (m - 1) (by omega)
          rw [show m - 1 + 1 = m by omega] at hss
          exact ⟨by omega, by simp only [Nat.add_sub_cancel]; omega⟩
        · subst hx; exact ⟨by omega, by simp⟩
    · rw [if_neg hk, List.append_nil]
      refine ⟨h1, fun x hx => ?_⟩
      obtain ⟨hm, hle⟩ := h2 x hx
      have hss := hs (m - 1) (by omega)
      rw [show m - 1 + 1 = m by omega] at hss
      exact ⟨by omega, by simp only [Nat.add_sub_cancel]; omega⟩
theorem comp_lt {zs : List Int} (h : zs.Pairwise (· ≤ ·)) : (Lib.compact zs).Pairwise (· < ·) := by
  unfold Lib.compact
  refine (upTo_lt zs.toArray (fun i hi => ?_) zs.length (by simp)).1
  have hi : i + 1 < zs.length := by simpa using hi
  rw [getElem!_pos _ i (by simp; omega), getElem!_pos _ (i + 1) (by simp; omega)]
  simp only [List.getElem_toArray]
  exact List.pairwise_iff_getElem.1 h i (i + 1) (by omega) hi (by omega)
end Go.Proofs.Ytkkjlmcnfoncdaa.Aw

namespace Go.Proofs.Ytkkjlmcnfoncdaa.Aw
open Go Go.RowKit
set_option maxRecDepth 10000
attribute [local irreducible] AWp AOL QS One AOLg QSg NX QX TRg TX AllO Fin3
def thereB (n : Nat) (l : List Int) : Bool := allB l.length fun i => decide (0 ≤ l.getD i default ∧ l.getD i default < (n : Int))
variable {A : Ar} (hA : A = real)
include hA
theorem there_c (R V : List Int) (N : List (Int × Int)) (M : List Int) (P Q : List (List Int)) (l : List Int) (hl : l.length ≤ 1000000) :
    PureCalls Try.prog 20 [grP A R V N M P Q, intsP A l] (BP (hid A (thereB V.length l))) := by
  refine PureCalls.of Try.func20 rfl (by kernel_rfl) rfl ?_
  try first | refine AOLg.of [] ?_ | refine QSg.of [] ?_
  repeat' (first | (refine AWp.pass ?_; first | refine AWp.seq ?_ | refine AWp.block ?_ | refine AWp.skip ?_ | refine AWp.regG [] Zc ?_ | refine AWp.cond_t rfl ?_ | refine AWp.cond_f rfl ?_ | (refine AWp.cond rfl ?_ ?_ <;> intro hc <;> (try rw [hc]) <;> ((try simp only [zn] at hc) <;> (try simp (disch := omega) only [zz hA, zb, zy, reduceCtorEq, Bool.false_eq_true, Int.reduceLT, Int.reduceLE, Int.reduceNeg] at hc) <;> (try simp only [zw] at hc)) <;> (try (exfalso; omega))) | refine AWp.exit ?_ | refine AWp.ret ⟨.inr rfl, _, RetOk.ev tabOk Zc, ?_⟩ | refine AWp.drawVG [] rfl (by decide +kernel) Zc ?_) | (refine AOLg.pass ?_; refine AOLg.nx hA tabOk Zc ?_; first | refine NX.done ?_ | refine NX.gt ?_ | refine NX.gf ?_ | (refine NX.gs ?_ ?_ <;> intro hc <;> rw [hc] <;> ((try simp only [zn] at hc) <;> (try simp (disch := omega) only [zz hA, zb, zy, reduceCtorEq, Bool.false_eq_true, Int.reduceLT, Int.reduceLE, Int.reduceNeg] at hc) <;> (try simp only [zw] at hc)) <;> (try (exfalso; omega))) | refine NX.k 1 (NX.one Z1 ?_) | refine NX.k 7 (NX.one Z7 ?_) | refine NX.k 10 (NX.one Z10 ?_) | refine NX.k 14 (NX.one Z14 ?_) | refine NX.k 18 (NX.one Z18 ?_) | refine NX.raw ?_) | (refine TRg.pass ?_; refine TRg.nx hA tabOk Zc ?_; first | refine TX.done ?_ | refine TX.gt ?_ | refine TX.gf ?_ | (refine TX.gs ?_ ?_ <;> intro hc <;> rw [hc] <;> ((try simp only [zn] at hc) <;> (try simp (disch := omega) only [zz hA, zb, zy, reduceCtorEq, Bool.false_eq_true, Int.reduceLT, Int.reduceLE, Int.reduceNeg] at hc) <;> (try simp only [zw] at hc)) <;> (try (exfalso; omega))) | refine TX.k 1 (TX.one Z1 ?_) | refine TX.k 7 (TX.one Z7 ?_) | refine TX.k 10 (TX.one Z10 ?_) | refine TX.k 14 (TX.one Z14 ?_) | refine TX.k 18 (TX.one Z18 ?_) | refine TX.raw ?_) | refine Fin3.of Zc (by repeat' (first | exact True.intro | exact rfl | refine And.intro ?_ ?_)) ?_ ?_ | (refine AllO.pass ?_; first | exact AllO.nil | (refine AllO.cons (One.ev hA tabOk ?_) ?_ <;> (first | refine AllO.pass ?_ | ((conv => lhs; cbv); done))) | (refine AllO.cons (One.skipB ?_) ?_ <;> (first | refine AllO.pass ?_ | ((conv => lhs; cbv); done))) | refine AllO.consX ZX rfl rfl ?_) | refine Thn.exit ?_ | refine Blk.here ?_ | refine Blk.other (by decide) ?_ | refine ⟨.inl rfl, _, RetOk.ev tabOk Zc, ?_⟩ | fail)
  refine AWp.loopU (fun k : Nat => [(5, .ic (.lit (.int .i64 (hid A (cN k)))))]) (fun _ => _) (fun k => l.length - k) (fun k => k ≤ l.length ∧ ∀ j, j < k → 0 ≤ l.getD j default ∧ l.getD j default < (V.length : Int)) 0 (by conv => lhs; cbv) ⟨Nat.zero_le _, by simp⟩ (by ((repeat' (first | exact subE.nil | refine subE.cons rfl ?_ | refine subE.int rfl ?_ ?_ | refine subE.bool rfl ?_ ?_ | refine subE.str rfl ?_ ?_ | refine subE.sl rfl ?_ ?_))) <;> simp [hA, real, hid, cN]) rfl ?_
  rintro k ⟨hk, hall⟩
  by_cases hlt : k < l.length
  · by_cases hok : 0 ≤ l.getD k default ∧ l.getD k default < (V.length : Int)
    · try first | refine AOLg.of [] ?_ | refine QSg.of [] ?_
      repeat' (first | (refine AWp.pass ?_; first | refine AWp.seq ?_ | refine AWp.block ?_ | refine AWp.skip ?_ | refine AWp.regG [] Zc ?_ | refine AWp.cond_t rfl ?_ | refine AWp.cond_f rfl ?_ | (refine AWp.cond rfl ?_ ?_ <;> intro hc <;> (try rw [hc]) <;> ((try simp only [zn] at hc) <;> (try simp (disch := omega) only [zz hA, zb, zy, reduceCtorEq, Bool.false_eq_true, Int.reduceLT, Int.reduceLE, Int.reduceNeg] at hc) <;> (try simp only [zw] at hc)) <;> (try (exfalso; omega))) | refine AWp.exit ?_ | refine AWp.ret ⟨.inr rfl, _, RetOk.ev tabOk Zc, ?_⟩ | refine AWp.drawVG [] rfl (by decide +kernel) Zc ?_) | (refine AOLg.pass ?_; refine AOLg.nx hA tabOk Zc ?_; first | refine NX.done ?_ | refine NX.gt ?_ | refine NX.gf ?_ | (refine NX.gs ?_ ?_ <;> intro hc <;> rw [hc] <;> ((try simp only [zn] at hc) <;> (try simp (disch := omega) only [zz hA, zb, zy, reduceCtorEq, Bool.false_eq_true, Int.reduceLT, Int.reduceLE, Int.reduceNeg] at hc) <;> (try simp only [zw] at hc)) <;> (try (exfalso; omega))) | refine NX.k 1 (NX.one Z1 ?_) | refine NX.k 7 (NX.one Z7 ?_) | refine NX.k 10 (NX.one Z10 ?_) | refine NX.k 14 (NX.one Z14 ?_) | refine NX.k 18 (NX.one Z18 ?_) | refine NX.raw ?_) | (refine TRg.pass ?_; refine TRg.nx hA tabOk Zc ?_; first | refine TX.done ?_ | refine TX.gt ?_ | refine TX.gf ?_ | (refine TX.gs ?_ ?_ <;> intro hc <;> rw [hc] <;> ((try simp only [zn] at hc) <;> (try simp (disch := omega) only [zz hA, zb, zy, reduceCtorEq, Bool.false_eq_true, Int.reduceLT, Int.reduceLE, Int.reduceNeg] at hc) <;> (try simp only [zw] at hc)) <;> (try (exfalso; omega))) | refine TX.k 1 (TX.one Z1 ?_) | refine TX.k 7 (TX.one Z7 ?_) | refine TX.k 10 (TX.one Z10 ?_) | refine TX.k 14 (TX.one Z14 ?_) | refine TX.k 18 (TX.one Z18 ?_) | refine TX.raw ?_) | refine Fin3.of Zc (by repeat' (first | exact True.intro | exact rfl | refine And.intro ?_ ?_)) ?_ ?_ | (refine AllO.pass ?_; first | exact AllO.nil | (refine AllO.cons (One.ev hA tabOk ?_) ?_ <;> (first | refine AllO.pass ?_ | ((conv => lhs; cbv); done))) | (refine AllO.cons (One.skipB ?_) ?_ <;> (first | refine AllO.pass ?_ | ((conv => lhs; cbv); done))) | refine AllO.consX ZX rfl rfl ?_) | refine Thn.exit ?_ | refine Blk.here ?_ | refine Blk.other (by decide) ?_ | refine ⟨.inl rfl, _, RetOk.ev tabOk Zc, ?_⟩ | fail)
      all_goals try (exfalso; omega)
      refine ⟨k + 1, ?_, ?_, rfl, rfl, ?_, Zk⟩ <;> (try omega)
      repeat' (first | exact subE.nil | refine subE.cons rfl ?_ | refine subE.int rfl ?_ ?_ | refine subE.bool rfl ?_ ?_ | refine subE.str rfl ?_ ?_ | refine subE.sl rfl ?_ ?_)
      all_goals first | exact Zd | skip
      refine ⟨by omega, fun j hj => ?_⟩
      rcases Nat.lt_or_ge j k with h | h
      · exact hall j h
      · obtain rfl : j = k := by omega
        exact hok
    · have hf : thereB V.length l = false := by
        unfold thereB
        cases h : allB l.length _ with
        | false => rfl
        | true => exact absurd (by simpa using allB_get h hlt) hok
      rw [hf]
      try first | refine AOLg.of [] ?_ | refine QSg.of [] ?_
      repeat' (first | (refine AWp.pass ?_; first | refine AWp.seq ?_ | refine AWp.block ?_ | refine AWp.skip ?_ | refine AWp.regG [] Zc ?_ | refine AWp.cond_t rfl ?_ | refine AWp.cond_f rfl ?_ | (refine AWp.cond rfl ?_ ?_ <;> intro hc <;> (try rw [hc]) <;> ((try simp only [zn] at hc) <;> (try simp (disch := omega) only [zz hA, zb, zy, reduceCtorEq, Bool.false_eq_true, Int.reduceLT, Int.reduceLE, Int.reduceNeg] at hc) <;> (try simp only [zw] at hc)) <;> (try (exfalso; omega))) | refine AWp.exit ?_ | refine AWp.ret ⟨.inr rfl, _, RetOk.ev tabOk Zc, ?_⟩ | refine AWp.drawVG [] rfl (by decide +kernel) Zc ?_) | (refine AOLg.pass ?_; refine AOLg.nx hA tabOk Zc ?_; first | refine NX.done ?_ | refine NX.gt ?_ | refine NX.gf ?_ | (refine NX.gs ?_ ?_ <;> intro hc <;> rw [hc] <;> ((try simp only [zn] at hc) <;> (try simp (disch := omega) only [zz hA, zb, zy, reduceCtorEq, Bool.false_eq_true, Int.reduceLT, Int.reduceLE, Int.reduceNeg] at hc) <;> (try simp only [zw] at hc)) <;> (try (exfalso; omega))) | refine NX.k 1 (NX.one Z1 ?_) | refine NX.k 7 (NX.one Z7 ?_) | refine NX.k 10 (NX.one Z10 ?_) | refine NX.k 14 (NX.one Z14 ?_) | refine NX.k 18 (NX.one Z18 ?_) | refine NX.raw ?_) | (refine TRg.pass ?_; refine TRg.nx hA tabOk Zc ?_; first | refine TX.done ?_ | refine TX.gt ?_ | refine TX.gf ?_ | (refine TX.gs ?_ ?_ <;> intro hc <;> rw [hc] <;> ((try simp only [zn] at hc) <;> (try simp (disch := omega) only [zz hA, zb, zy, reduceCtorEq, Bool.false_eq_true, Int.reduceLT, Int.reduceLE, Int.reduceNeg] at hc) <;> (try simp only [zw] at hc)) <;> (try (exfalso; omega))) | refine TX.k 1 (TX.one Z1 ?_) | refine TX.k 7 (TX.one Z7 ?_) | refine TX.k 10 (TX.one Z10 ?_) | refine TX.k 14 (TX.one Z14 ?_) | refine TX.k 18 (TX.one Z18 ?_) | refine TX.raw ?_) | refine Fin3.of Zc (by repeat' (first | exact True.intro | exact rfl | refine And.intro ?_ ?_)) ?_ ?_ | (refine AllO.pass ?_; first | exact AllO.nil | (refine AllO.cons (One.ev hA tabOk ?_) ?_ <;> (first | refine AllO.pass ?_ | ((conv => lhs; cbv); done))) | (refine AllO.cons (One.skipB ?_) ?_ <;> (first | refine AllO.pass ?_ | ((conv => lhs; cbv); done))) | refine AllO.consX ZX rfl rfl ?_) | refine Thn.exit ?_ | refine Blk.here ?_ | refine Blk.other (by decide) ?_ | refine ⟨.inl rfl, _, RetOk.ev tabOk Zc, ?_⟩ | fail)
      all_goals try (exfalso; omega)
      all_goals (refine rPV_then (by conv => lhs; cbv) ?_; simp only [hid_eq hA])
  · have hf : thereB V.length l = true := by
      unfold thereB
      exact allB_t fun j hj => by simpa using hall j (by omega)
    rw [hf]
    try first | refine AOLg.of [] ?_ | refine QSg.of [] ?_
    repeat' (first | (refine AWp.pass ?_; first | refine AWp.seq ?_ | refine AWp.block ?_ | refine AWp.skip ?_ | refine AWp.regG [] Zc ?_ | refine AWp.cond_t rfl ?_ | refine AWp.cond_f rfl ?_ | (refine AWp.cond rfl ?_ ?_ <;> intro hc <;> (try rw [hc]) <;> ((try simp only [zn] at hc) <;> (try simp (disch := omega) only [zz hA, zb, zy, reduceCtorEq, Bool.false_eq_true, Int.reduceLT, Int.reduceLE, Int.reduceNeg] at hc) <;> (try simp only [zw] at hc)) <;> (try (exfalso; omega))) | refine AWp.exit ?_ | refine AWp.ret ⟨.inr rfl, _, RetOk.ev tabOk Zc, ?_⟩ | refine AWp.drawVG [] rfl (by decide +kernel) Zc ?_) | (refine AOLg.pass ?_; refine AOLg.nx hA tabOk Zc ?_; first | refine NX.done ?_ | refine NX.gt ?_ | refine NX.gf ?_ | (refine NX.gs ?_ ?_ <;> intro hc <;> rw [hc] <;> ((try simp only [zn] at hc) <;> (try simp (disch := omega) only [zz hA, zb, zy, reduceCtorEq, Bool.false_eq_true, Int.reduceLT, Int.reduceLE, Int.reduceNeg] at hc) <;> (try simp only [zw] at hc)) <;> (try (exfalso; omega))) | refine NX.k 1 (NX.one Z1 ?_) | refine NX.k 7 (NX.one Z7 ?_) | refine NX.k 10 (NX.one Z10 ?_) | refine NX.k 14 (NX.one Z14 ?_) | refine NX.k 18 (NX.one Z18 ?_) | refine NX.raw ?_) | (refine TRg.pass ?_; refine TRg.nx hA tabOk Zc ?_; first | refine TX.done ?_ | refine TX.gt ?_ | refine TX.gf ?_ | (refine TX.gs ?_ ?_ <;> intro hc <;> rw [hc] <;> ((try simp only [zn] at hc) <;> (try simp (disch := omega) only [zz hA, zb, zy, reduceCtorEq, Bool.false_eq_true, Int.reduceLT, Int.reduceLE, Int.reduceNeg] at hc) <;> (try simp only [zw] at hc)) <;> (try (exfalso; omega))) | refine TX.k 1 (TX.one Z1 ?_) | refine TX.k 7 (TX.one Z7 ?_) | refine TX.k 10 (TX.one Z10 ?_) | refine TX.k 14 (TX.one Z14 ?_) | refine TX.k 18 (TX.one Z18 ?_) | refine TX.raw ?_) | refine Fin3.of Zc (by repeat' (first | exact True.intro | exact rfl | refine And.intro ?_ ?_)) ?_ ?_ | (refine AllO.pass ?_; first | exact AllO.nil | (refine AllO.cons (One.ev hA tabOk ?_) ?_ <;> (first | refine AllO.pass ?_ | ((conv => lhs; cbv); done))) | (refine AllO.cons (One.skipB ?_) ?_ <;> (first | refine AllO.pass ?_ | ((conv => lhs; cbv); done))) | refine AllO.consX ZX rfl rfl ?_) | refine Thn.exit ?_ | refine Blk.here ?_ | refine Blk.other (by decide) ?_ | refine ⟨.inl rfl, _, RetOk.ev tabOk Zc, ?_⟩ | fail)
    all_goals try (exfalso; omega)
    all_goals (refine rPV_then (by conv => lhs; cbv) ?_; simp only [hid_eq hA])
set_option maxHeartbeats 2000000 in
theorem of13_c (l : List Sg) (hl : FitG l) (K : List (List Int)) (S : List Int) (hk : FitsK K S) (R V : List Int) (N : List (Int × Int)) (M : List Int) (P Q : List (List Int)) (hg : FitGr R V N M P Q) :
    ∃ b : Bool, PureCalls Try.prog 19 [slP A 2 (encG A) l, keyedPV A K S, grP A R V N M P Q] (BP b) ∧ (b = true → OfG l K S R V N M P Q ∧ V.length ≤ 40) := by
  obtain ⟨k1, k2, k3⟩ := hk
  by_cases h64 : l.length ≤ 64
  · have c1 := sigRight_c hA l hl
    cases e1 : rightG l with
    | false =>
      rw [e1, hid_eq hA (α := Bool)] at c1
      refine ⟨false, ?_, fun h => by cases h⟩
      refine PureCalls.of Try.func19 rfl (by kernel_rfl) rfl ?_
      try first | refine AOLg.of [] ?_ | refine QSg.of [] ?_
      repeat' (first | (refine AWp.pass ?_; first | refine AWp.seq ?_ | refine AWp.block ?_ | refine AWp.skip ?_ | refine AWp.regG [] Zc ?_ | refine AWp.cond_t rfl ?_ | refine AWp.cond_f rfl ?_ | (refine AWp.cond rfl ?_ ?_ <;> intro hc <;> (try rw [hc]) <;> ((try simp only [zn] at hc) <;> (try simp (disch := omega) only [zz hA, zb, zy, reduceCtorEq, Bool.false_eq_true, Int.reduceLT, Int.reduceLE, Int.reduceNeg] at hc) <;> (try simp only [zw] at hc)) <;> (try (exfalso; omega))) | refine AWp.exit ?_ | refine AWp.ret ⟨.inr rfl, _, RetOk.ev tabOk Zc, ?_⟩) | (refine AOLg.pass ?_; refine AOLg.nx hA tabOk Zc ?_; first | refine NX.done ?_ | refine NX.gt ?_ | refine NX.gf ?_ | (refine NX.gs ?_ ?_ <;> intro hc <;> rw [hc] <;> ((try simp only [zn] at hc) <;> (try simp (disch := omega) only [zz hA, zb, zy, reduceCtorEq, Bool.false_eq_true, Int.reduceLT, Int.reduceLE, Int.reduceNeg] at hc) <;> (try simp only [zw] at hc)) <;> (try (exfalso; omega))) | (refine NX.kC ?_; first | (with_reducible refine NX.call (c1) ?_) | ((first | refine NX.call (c1) ?_)) | fail) | (refine NX.kO ?_; (first | refine NX.callO (c1) (by simp [allEq]) rfl ?_)) | refine NX.k 10 (NX.one Z10 ?_) | refine NX.k 14 (NX.one Z14 ?_) | refine NX.k 18 (NX.one Z18 ?_) | refine NX.raw ?_) | refine Thn.exit ?_ | refine Blk.here ?_ | refine Blk.other (by decide) ?_ | refine ⟨.inl rfl, _, RetOk.ev tabOk Zc, ?_⟩ | fail)
      all_goals exact Ze
    | true =>
      rw [e1, hid_eq hA (α := Bool)] at c1
      have c2 := refFew_c hA K S k1 k2 k3
      cases e2 : fewM K S with
      | false =>
        rw [e2, hid_eq hA (α := Bool)] at c2
        refine ⟨false, ?_, fun h => by cases h⟩
        refine PureCalls.of Try.func19 rfl (by kernel_rfl) rfl ?_
        try first | refine AOLg.of [] ?_ | refine QSg.of [] ?_
        repeat' (first | (refine AWp.pass ?_; first | refine AWp.seq ?_ | refine AWp.block ?_ | refine AWp.skip ?_ | refine AWp.regG [] Zc ?_ | refine AWp.cond_t rfl ?_ | refine AWp.cond_f rfl ?_ | (refine AWp.cond rfl ?_ ?_ <;> intro hc <;> (try rw [hc]) <;> ((try simp only [zn] at hc) <;> (try simp (disch := omega) only [zz hA, zb, zy, reduceCtorEq, Bool.false_eq_true, Int.reduceLT, Int.reduceLE, Int.reduceNeg] at hc) <;> (try simp only [zw] at hc)) <;> (try (exfalso; omega))) | refine AWp.exit ?_ | refine AWp.ret ⟨.inr rfl, _, RetOk.ev tabOk Zc, ?_⟩) | (refine AOLg.pass ?_; refine AOLg.nx hA tabOk Zc ?_; first | refine NX.done ?_ | refine NX.gt ?_ | refine NX.gf ?_ | (refine NX.gs ?_ ?_ <;> intro hc <;> rw [hc] <;> ((try simp only [zn] at hc) <;> (try simp (disch := omega) only [zz hA, zb, zy, reduceCtorEq, Bool.false_eq_true, Int.reduceLT, Int.reduceLE, Int.reduceNeg] at hc) <;> (try simp only [zw] at hc)) <;> (try (exfalso; omega))) | (refine NX.kC ?_; first | (with_reducible refine NX.call (c1) ?_) | (with_reducible refine NX.call (c2) ?_) | ((first | refine NX.call (c1) ?_ | refine NX.call (c2) ?_)) | fail) | (refine NX.kO ?_; (first | refine NX.callO (c1) (by simp [allEq]) rfl ?_ | refine NX.callO (c2) (by simp [allEq]) rfl ?_)) | refine NX.k 10 (NX.one Z10 ?_) | refine NX.k 14 (NX.one Z14 ?_) | refine NX.k 18 (NX.one Z18 ?_) | refine NX.raw ?_) | refine Thn.exit ?_ | refine Blk.here ?_ | refine Blk.other (by decide) ?_ | refine ⟨.inl rfl, _, RetOk.ev tabOk Zc, ?_⟩ | fail)
        all_goals exact Ze
      | true =>
        rw [e2, hid_eq hA (α := Bool)] at c2
        obtain ⟨b1, b2, b3⟩ := few_bounds e2
        have c3 := refTRight_c hA l K S (by omega) hl (by omega) (fun x hx => by have := b3 x hx; omega)
        cases e3 : rightT l K S with
        | false =>
          rw [e3, hid_eq hA (α := Bool)] at c3
          refine ⟨false, ?_, fun h => by cases h⟩
          refine PureCalls.of Try.func19 rfl (by kernel_rfl) rfl ?_
          try first | refine AOLg.of [] ?_ | refine QSg.of [] ?_
          repeat' (first | (refine AWp.pass ?_; first | refine AWp.seq ?_ | refine AWp.block ?_ | refine AWp.skip ?_ | refine AWp.regG [] Zc ?_ | refine AWp.cond_t rfl ?_ | refine AWp.cond_f rfl ?_ | (refine AWp.cond rfl ?_ ?_ <;> intro hc <;> (try rw [hc]) <;> ((try simp only [zn] at hc) <;> (try simp (disch := omega) only [zz hA, zb, zy, reduceCtorEq, Bool.false_eq_true, Int.reduceLT, Int.reduceLE, Int.reduceNeg] at hc) <;> (try simp only [zw] at hc)) <;> (try (exfalso; omega))) | refine AWp.exit ?_ | refine AWp.ret ⟨.inr rfl, _, RetOk.ev tabOk Zc, ?_⟩) | (refine AOLg.pass ?_; refine AOLg.nx hA tabOk Zc ?_; first | refine NX.done ?_ | refine NX.gt ?_ | refine NX.gf ?_ | (refine NX.gs ?_ ?_ <;> intro hc <;> rw [hc] <;> ((try simp only [zn] at hc) <;> (try simp (disch := omega) only [zz hA, zb, zy, reduceCtorEq, Bool.false_eq_true, Int.reduceLT, Int.reduceLE, Int.reduceNeg] at hc) <;> (try simp only [zw] at hc)) <;> (try (exfalso; omega))) | (refine NX.kC ?_; first | (with_reducible refine NX.call (c1) ?_) | (with_reducible refine NX.call (c2) ?_) | (with_reducible refine NX.call (c3) ?_) | ((first | refine NX.call (c1) ?_ | refine NX.call (c2) ?_ | refine NX.call (c3) ?_)) | fail) | (refine NX.kO ?_; (first | refine NX.callO (c1) (by simp [allEq]) rfl ?_ | refine NX.callO (c2) (by simp [allEq]) rfl ?_ | refine NX.callO (c3) (by simp [allEq]) rfl ?_)) | refine NX.k 10 (NX.one Z10 ?_) | refine NX.k 14 (NX.one Z14 ?_) | refine NX.k 18 (NX.one Z18 ?_) | refine NX.raw ?_) | refine Thn.exit ?_ | refine Blk.here ?_ | refine Blk.other (by decide) ?_ | refine ⟨.inl rfl, _, RetOk.ev tabOk Zc, ?_⟩ | fail)
          all_goals exact Ze
        | true =>
          rw [e3, hid_eq hA (α := Bool)] at c3
          obtain ⟨o1, o2, o3⟩ := okK e3
          have hst : StK K S := ⟨o1, o2, by omega, fun x hx => by have := b3 x hx; omega⟩
          have c4 := refGFew_c hA R V N M P Q hg
          cases e4 : fewGr R V N M P Q with
          | false =>
            rw [e4, hid_eq hA (α := Bool)] at c4
            refine ⟨false, ?_, fun h => by cases h⟩
            refine PureCalls.of Try.func19 rfl (by kernel_rfl) rfl ?_
            try first | refine AOLg.of [] ?_ | refine QSg.of [] ?_
            repeat' (first | (refine AWp.pass ?_; first | refine AWp.seq ?_ | refine AWp.block ?_ | refine AWp.skip ?_ | refine AWp.regG [] Zc ?_ | refine AWp.cond_t rfl ?_ | refine AWp.cond_f rfl ?_ | (refine AWp.cond rfl ?_ ?_ <;> intro hc <;> (try rw [hc]) <;> ((try simp only [zn] at hc) <;> (try simp (disch := omega) only [zz hA, zb, zy, reduceCtorEq, Bool.false_eq_true, Int.reduceLT, Int.reduceLE, Int.reduceNeg] at hc) <;> (try simp only [zw] at hc)) <;> (try (exfalso; omega))) | refine AWp.exit ?_ | refine AWp.ret ⟨.inr rfl, _, RetOk.ev tabOk Zc, ?_⟩) | (refine AOLg.pass ?_; refine AOLg.nx hA tabOk Zc ?_; first | refine NX.done ?_ | refine NX.gt ?_ | refine NX.gf ?_ | (refine NX.gs ?_ ?_ <;> intro hc <;> rw [hc] <;> ((try simp only [zn] at hc) <;> (try simp (disch := omega) only [zz hA, zb, zy, reduceCtorEq, Bool.false_eq_true, Int.reduceLT, Int.reduceLE, Int.reduceNeg] at hc) <;> (try simp only [zw] at hc)) <;> (try (exfalso; omega))) | (refine NX.kC ?_; first | (with_reducible refine NX.call (c1) ?_) | (with_reducible refine NX.call (c2) ?_) | (with_reducible refine NX.call (c3) ?_) | (with_reducible refine NX.call (c4) ?_) | ((first | refine NX.call (c1) ?_ | refine NX.call (c2) ?_ | refine NX.call (c3) ?_ | refine NX.call (c4) ?_)) | fail) | (refine NX.kO ?_; (first | refine NX.callO (c1) (by simp [allEq]) rfl ?_ | refine NX.callO (c2) (by simp [allEq]) rfl ?_ | refine NX.callO (c3) (by simp [allEq]) rfl ?_ | refine NX.callO (c4) (by simp [allEq]) rfl ?_)) | refine NX.k 10 (NX.one Z10 ?_) | refine NX.k 14 (NX.one Z14 ?_) | refine NX.k 18 (NX.one Z18 ?_) | refine NX.raw ?_) | refine Thn.exit ?_ | refine Blk.here ?_ | refine Blk.other (by decide) ?_ | refine ⟨.inl rfl, _, RetOk.ev tabOk Zc, ?_⟩ | fail)
            all_goals exact Ze
          | true =>
            rw [e4, hid_eq hA (α := Bool)] at c4
            have hfew : baseG R V N M P Q + sumL P P.length + sumL Q Q.length ≤ 1000 := by simpa [fewGr] using e4
            have hbs := hfew
            unfold baseG at hbs
            have hps : ∀ x ∈ P, x.length ≤ 1000000 := fun x hx => by have := sumL_mem P hx; omega
            have hqs : ∀ x ∈ Q, x.length ≤ 1000000 := fun x hx => by have := sumL_mem Q hx; omega
            by_cases h40 : V.length ≤ 40
            · have c5 := refGRight_c hA K S hst R V N M P Q (by omega) ⟨by simp only; omega, by simp only; omega, by simp only; omega⟩ ⟨by omega, hps⟩ ⟨by omega, hqs⟩
              cases e5 : rightGr K R V N M P Q with
              | false =>
                rw [e5, hid_eq hA (α := Bool)] at c5
                refine ⟨false, ?_, fun h => by cases h⟩
                refine PureCalls.of Try.func19 rfl (by kernel_rfl) rfl ?_
                try first | refine AOLg.of [] ?_ | refine QSg.of [] ?_
                repeat' (first | (refine AWp.pass ?_; first | refine AWp.seq ?_ | refine AWp.block ?_ | refine AWp.skip ?_ | refine AWp.regG [] Zc ?_ | refine AWp.cond_t rfl ?_ | refine AWp.cond_f rfl ?_ | (refine AWp.cond rfl ?_ ?_ <;> intro hc <;> (try rw [hc]) <;> ((try simp only [zn] at hc) <;> (try simp (disch := omega) only [zz hA, zb, zy, reduceCtorEq, Bool.false_eq_true, Int.reduceLT, Int.reduceLE, Int.reduceNeg] at hc) <;> (try simp only [zw] at hc)) <;> (try (exfalso; omega))) | refine AWp.exit ?_ | refine AWp.ret ⟨.inr rfl, _, RetOk.ev tabOk Zc, ?_⟩) | (refine AOLg.pass ?_; refine AOLg.nx hA tabOk Zc ?_; first | refine NX.done ?_ | refine NX.gt ?_ | refine NX.gf ?_ | (refine NX.gs ?_ ?_ <;> intro hc <;> rw [hc] <;> ((try simp only [zn] at hc) <;> (try simp (disch := omega) only [zz hA, zb, zy, reduceCtorEq, Bool.false_eq_true, Int.reduceLT, Int.reduceLE, Int.reduceNeg] at hc) <;> (try simp only [zw] at hc)) <;> (try (exfalso; omega))) | (refine NX.kC ?_; first | (with_reducible refine NX.call (c1) ?_) | (with_reducible refine NX.call (c2) ?_) | (with_reducible refine NX.call (c3) ?_) | (with_reducible refine NX.call (c4) ?_) | (with_reducible refine NX.call (c5) ?_) | ((first | refine NX.call (c1) ?_ | refine NX.call (c2) ?_ | refine NX.call (c3) ?_ | refine NX.call (c4) ?_ | refine NX.call (c5) ?_)) | fail) | (refine NX.kO ?_; (first | refine NX.callO (c1) (by simp [allEq]) rfl ?_ | refine NX.callO (c2) (by simp [allEq]) rfl ?_ | refine NX.callO (c3) (by simp [allEq]) rfl ?_ | refine NX.callO (c4) (by simp [allEq]) rfl ?_ | refine NX.callO (c5) (by simp [allEq]) rfl ?_)) | refine NX.k 10 (NX.one Z10 ?_) | refine NX.k 14 (NX.one Z14 ?_) | refine NX.k 18 (NX.one Z18 ?_) | refine NX.raw ?_) | refine Thn.exit ?_ | refine Blk.here ?_ | refine Blk.other (by decide) ?_ | refine ⟨.inl rfl, _, RetOk.ev tabOk Zc, ?_⟩ | fail)
                all_goals exact Ze
              | true =>
                rw [e5, hid_eq hA (α := Bool)] at c5
                have c6 := refAll_c hA K S R V N M P Q (by omega)
                have hru : RightU V R := by
                  have := e5
                  unfold rightGr at this
                  simp only [Bool.and_eq_true] at this
                  exact (rightB_iff V R).1 this.1.1
                refine ⟨allV K V.length, ?_, fun h => ⟨⟨hst, hru, h, hfew, e5⟩, h40⟩⟩
                rw [hid_eq hA (α := Bool)] at c6
                generalize allV K V.length = b at *
                refine PureCalls.of Try.func19 rfl (by kernel_rfl) rfl ?_
                try first | refine AOLg.of [] ?_ | refine QSg.of [] ?_
                repeat' (first | (refine AWp.pass ?_; first | refine AWp.seq ?_ | refine AWp.block ?_ | refine AWp.skip ?_ | refine AWp.regG [] Zc ?_ | refine AWp.cond_t rfl ?_ | refine AWp.cond_f rfl ?_ | (refine AWp.cond rfl ?_ ?_ <;> intro hc <;> (try rw [hc]) <;> ((try simp only [zn] at hc) <;> (try simp (disch := omega) only [zz hA, zb, zy, reduceCtorEq, Bool.false_eq_true, Int.reduceLT, Int.reduceLE, Int.reduceNeg] at hc) <;> (try simp only [zw] at hc)) <;> (try (exfalso; omega))) | refine AWp.exit ?_ | refine AWp.ret ⟨.inr rfl, _, RetOk.ev tabOk Zc, ?_⟩) | (refine AOLg.pass ?_; refine AOLg.nx hA tabOk Zc ?_; first | refine NX.done ?_ | refine NX.gt ?_ | refine NX.gf ?_ | (refine NX.gs ?_ ?_ <;> intro hc <;> rw [hc] <;> ((try simp only [zn] at hc) <;> (try simp (disch := omega) only [zz hA, zb, zy, reduceCtorEq, Bool.false_eq_true, Int.reduceLT, Int.reduceLE, Int.reduceNeg] at hc) <;> (try simp only [zw] at hc)) <;> (try (exfalso; omega))) | (refine NX.kC ?_; first | (with_reducible refine NX.call (c1) ?_) | (with_reducible refine NX.call (c2) ?_) | (with_reducible refine NX.call (c3) ?_) | (with_reducible refine NX.call (c4) ?_) | (with_reducible refine NX.call (c5) ?_) | (with_reducible refine NX.call (c6) ?_) | ((first | refine NX.call (c1) ?_ | refine NX.call (c2) ?_ | refine NX.call (c3) ?_ | refine NX.call (c4) ?_ | refine NX.call (c5) ?_ | refine NX.call (c6) ?_)) | fail) | (refine NX.kO ?_; (first | refine NX.callO (c1) (by simp [allEq]) rfl ?_ | refine NX.callO (c2) (by simp [allEq]) rfl ?_ | refine NX.callO (c3) (by simp [allEq]) rfl ?_ | refine NX.callO (c4) (by simp [allEq]) rfl ?_ | refine NX.callO (c5) (by simp [allEq]) rfl ?_ | refine NX.callO (c6) (by simp [allEq]) rfl ?_)) | refine NX.k 10 (NX.one Z10 ?_) | refine NX.k 14 (NX.one Z14 ?_) | refine NX.k 18 (NX.one Z18 ?_) | refine NX.raw ?_) | refine Thn.exit ?_ | refine Blk.here ?_ | refine Blk.other (by decide) ?_ | refine ⟨.inl rfl, _, RetOk.ev tabOk Zc, ?_⟩ | fail)
                all_goals first | exact Ze | (refine rPV_then (by conv => lhs; cbv) ?_; simp_all) | (refine rPV_then (by conv => lhs; cbv) ?_; rfl)
            · refine ⟨false, ?_, fun h => by cases h⟩
              refine PureCalls.of Try.func19 rfl (by kernel_rfl) rfl ?_
              try first | refine AOLg.of [] ?_ | refine QSg.of [] ?_
              repeat' (first | (refine AWp.pass ?_; first | refine AWp.seq ?_ | refine AWp.block ?_ | refine AWp.skip ?_ | refine AWp.regG [] Zc ?_ | refine AWp.cond_t rfl ?_ | refine AWp.cond_f rfl ?_ | (refine AWp.cond rfl ?_ ?_ <;> intro hc <;> (try rw [hc]) <;> ((try simp only [zn] at hc) <;> (try simp (disch := omega) only [zz hA, zb, zy, reduceCtorEq, Bool.false_eq_true, Int.reduceLT, Int.reduceLE, Int.reduceNeg] at hc) <;> (try simp only [zw] at hc)) <;> (try (exfalso; omega))) | refine AWp.exit ?_ | refine AWp.ret ⟨.inr rfl, _, RetOk.ev tabOk Zc, ?_⟩) | (refine AOLg.pass ?_; refine AOLg.nx hA tabOk Zc ?_; first | refine NX.done ?_ | refine NX.gt ?_ | refine NX.gf ?_ | (refine NX.gs ?_ ?_ <;> intro hc <;> rw [hc] <;> ((try simp only [zn] at hc) <;> (try simp (disch := omega) only [zz hA, zb, zy, reduceCtorEq, Bool.false_eq_true, Int.reduceLT, Int.reduceLE, Int.reduceNeg] at hc) <;> (try simp only [zw] at hc)) <;> (try (exfalso; omega))) | (refine NX.kC ?_; first | (with_reducible refine NX.call (c1) ?_) | (with_reducible refine NX.call (c2) ?_) | (with_reducible refine NX.call (c3) ?_) | (with_reducible refine NX.call (c4) ?_) | ((first | refine NX.call (c1) ?_ | refine NX.call (c2) ?_ | refine NX.call (c3) ?_ | refine NX.call (c4) ?_)) | fail) | (refine NX.kO ?_; (first | refine NX.callO (c1) (by simp [allEq]) rfl ?_ | refine NX.callO (c2) (by simp [allEq]) rfl ?_ | refine NX.callO (c3) (by simp [allEq]) rfl ?_ | refine NX.callO (c4) (by simp [allEq]) rfl ?_)) | refine NX.k 10 (NX.one Z10 ?_) | refine NX.k 14 (NX.one Z14 ?_) | refine NX.k 18 (NX.one Z18 ?_) | refine NX.raw ?_) | refine Thn.exit ?_ | refine Blk.here ?_ | refine Blk.other (by decide) ?_ | refine ⟨.inl rfl, _, RetOk.ev tabOk Zc, ?_⟩ | fail)
              all_goals exact Ze
  · refine ⟨false, ?_, fun h => by cases h⟩
    refine PureCalls.of Try.func19 rfl (by kernel_rfl) rfl ?_
    try first | refine AOLg.of [] ?_ | refine QSg.of [] ?_
    repeat' (first | (refine AWp.pass ?_; first | refine AWp.seq ?_ | refine AWp.block ?_ | refine AWp.skip ?_ | refine AWp.regG [] Zc ?_ | refine AWp.cond_t rfl ?_ | refine AWp.cond_f rfl ?_ | (refine AWp.cond rfl ?_ ?_ <;> intro hc <;> (try rw [hc]) <;> ((try simp only [zn] at hc) <;> (try simp (disch := omega) only [zz hA, zb, zy, reduceCtorEq, Bool.false_eq_true, Int.reduceLT, Int.reduceLE, Int.reduceNeg] at hc) <;> (try simp only [zw] at hc)) <;> (try (exfalso; omega))) | refine AWp.exit ?_ | refine AWp.ret ⟨.inr rfl, _, RetOk.ev tabOk Zc, ?_⟩) | (refine AOLg.pass ?_; refine AOLg.nx hA tabOk Zc ?_; first | refine NX.done ?_ | refine NX.gt ?_ | refine NX.gf ?_ | (refine NX.gs ?_ ?_ <;> intro hc <;> rw [hc] <;> ((try simp only [zn] at hc) <;> (try simp (disch := omega) only [zz hA, zb, zy, reduceCtorEq, Bool.false_eq_true, Int.reduceLT, Int.reduceLE, Int.reduceNeg] at hc) <;> (try simp only [zw] at hc)) <;> (try (exfalso; omega))) | refine NX.k 10 (NX.one Z10 ?_) | refine NX.k 14 (NX.one Z14 ?_) | refine NX.k 18 (NX.one Z18 ?_) | refine NX.raw ?_) | refine Thn.exit ?_ | refine Blk.here ?_ | refine Blk.other (by decide) ?_ | refine ⟨.inl rfl, _, RetOk.ev tabOk Zc, ?_⟩ | fail)
    all_goals exact Ze
end Go.Proofs.Ytkkjlmcnfoncdaa.Aw

namespace Go.Proofs.Ytkkjlmcnfoncdaa.Aw
open Go Go.RowKit
set_option maxRecDepth 10000
attribute [local irreducible] AWp AOL QS One AOLg QSg NX QX TRg TX AllO Fin3
theorem there_two (n : Nat) (x y : Int) : thereB n [x, y] = true ↔ (0 ≤ x ∧ x < n) ∧ (0 ≤ y ∧ y < n) := by
  simp [thereB, allB, List.range_succ]
variable {A : Ar} (hA : A = real)
include hA
theorem there2_c (R V : List Int) (N : List (Int × Int)) (M : List Int) (P Q : List (List Int)) (x y : Int) (b : Bool) (hb : b = thereB V.length [x, y]) :
    PureCalls Try.prog 20 [grP A R V N M P Q, .c (.sl 1 false [[.lit (.int .i64 x)], [.lit (.int .i64 y)]])] (BP b) := by
  have := there_c hA R V N M P Q [x, y] (by simp)
  rw [← hb, hid_eq hA (α := Bool)] at this
  rw [show [[IC.lit (.int .i64 x)], [IC.lit (.int .i64 y)]] = hid A (List.map encI [x, y]) from (hid_eq hA _).symm]
  exact this
theorem ints_same (q r : List Int) (h : q = r) (hq : q.length ≤ 1000000) : PureCalls Try.prog 17 [intsP A q, intsP A r] (BP true) := by
  subst h
  have := uInts_c hA q q hq hq
  rwa [decide_eq_true rfl, hid_eq hA (α := Bool)] at this
end Go.Proofs.Ytkkjlmcnfoncdaa.Aw

namespace Go.Proofs.Ytkkjlmcnfoncdaa.Aw
open Go Go.RowKit
end Go.Proofs.Ytkkjlmcnfoncdaa.Aw

namespace Go.Proofs.Ytkkjlmcnfoncdaa.Aw
open Go Go.RowKit
def keyP (nx : Int → List Int) (x : Int) (k : Nat) : List Int := (levP nx x k).1.map (·.1)
theorem visI (v : Int) : ∀ (l : List Int) (s : List (Int × Int) × List Int), ∃ ex : List (Int × Int), l.foldl (inP v) s = (s.1 ++ ex, s.2 ++ ex.map (·.1)) ∧ (∀ p ∈ ex, p.1 ∈ l ∧ p.2 = v ∧ p.1 ∉ s.1.map (·.1)) ∧ (∀ w ∈ l, w ∈ (s.1 ++ ex).map (·.1))
  | [], s => ⟨[], by simp, by simp, by simp⟩
  | w :: l, s => by
    obtain ⟨ex, h1, h2, h3⟩ := visI v l (inP v s w)
    rw [List.foldl_cons, h1]
    unfold inP at h2 h3 ⊢
    split at h2
    · rename_i hs
      simp only [hs, if_true] at h3 ⊢
      refine ⟨ex, rfl, fun p hp => ⟨List.mem_cons_of_mem _ (h2 p hp).1, (h2 p hp).2⟩, fun z hz => ?_⟩
      rcases List.mem_cons.1 hz with rfl | hz
      · rw [List.map_append, List.mem_append]; exact .inl (mapF_some.1 hs)
      · exact h3 z hz
    · rename_i hs
      simp only [hs] at h3 ⊢
      refine ⟨(w, v) :: ex, by simp, fun p hp => ?_, fun z hz => ?_⟩
      · rcases List.mem_cons.1 hp with rfl | hp
        · exact ⟨List.mem_cons_self, rfl, fun h => hs (mapF_some.2 h)⟩
        · obtain ⟨a, b, c⟩ := h2 p hp
          exact ⟨List.mem_cons_of_mem _ a, b, fun h => c (by rw [List.map_append, List.mem_append]; exact .inl h)⟩
      · rcases List.mem_cons.1 hz with rfl | hz
        · simp
        · simpa using h3 z hz
theorem visL (nx : Int → List Int) : ∀ (l : List Int) (s : List (Int × Int) × List Int), l.Pairwise (· ≤ ·) → ∃ ex : List (Int × Int), l.foldl (visP nx) s = (s.1 ++ ex, s.2 ++ ex.map (·.1)) ∧ (∀ p ∈ ex, p.2 ∈ l ∧ p.1 ∈ nx p.2 ∧ p.1 ∉ s.1.map (·.1) ∧ ∀ u ∈ l, p.1 ∈ nx u → p.2 ≤ u) ∧ (∀ v ∈ l, ∀ w ∈ nx v, w ∈ (s.1 ++ ex).map (·.1))
  | [], s, _ => ⟨[], by simp, by simp, by simp⟩
  | a :: l, s, hp => by
    obtain ⟨e1, h1, h2, h3⟩ := visI a (nx a) s
    obtain ⟨ha, hl⟩ := List.pairwise_cons.1 hp
    obtain ⟨e2, k1, k2, k3⟩ := visL nx l (visP nx s a) hl
    rw [List.foldl_cons, k1]
    unfold visP at k1 k2 k3 ⊢
    rw [h1] at k2 k3 ⊢
    refine ⟨e1 ++ e2, by simp, fun p hp => ?_, fun v hv w hw => ?_⟩
    · rcases List.mem_append.1 hp with hp | hp
      · obtain ⟨a1, a2, a3⟩ := h2 p hp
        rw [a2]
        refine ⟨List.mem_cons_self, a1, a3, fun u hu _ => ?_⟩
        rcases List.mem_cons.1 hu with rfl | hu
        · exact Int.le_refl _
        · exact ha u hu
      · obtain ⟨a1, a2, a3, a4⟩ := k2 p hp
        refine ⟨List.mem_cons_of_mem _ a1, a2, fun h => a3 (by rw [List.map_append, List.mem_append]; exact .inl h), fun u hu hm => ?_⟩
        rcases List.mem_cons.1 hu with rfl | hu
        · exact absurd (h3 _ hm) a3
        · exact a4 u hu hm
    · rw [← List.append_assoc]
      rcases List.mem_cons.1 hv with rfl | hv
      · have := h3 w hw
        rw [List.map_append, List.mem_append]
        exact .inl this
      · exact k3 v hv w hw
section
variable (nx : Int → List Int) (x : Int)
theorem lev_le : ∀ k, (levP nx x k).2.Pairwise (· ≤ ·)
  | 0 => by simp [levP]
  | k + 1 => sortZ_le _
theorem lev_succ (k : Nat) : ∃ ex : List (Int × Int), (levP nx x (k + 1)).1 = (levP nx x k).1 ++ ex ∧ (∀ w, w ∈ (levP nx x (k + 1)).2 ↔ w ∈ ex.map (·.1)) ∧ (∀ p ∈ ex, p.2 ∈ (levP nx x k).2 ∧ p.1 ∈ nx p.2 ∧ p.1 ∉ keyP nx x k ∧ ∀ u ∈ (levP nx x k).2, p.1 ∈ nx u → p.2 ≤ u) ∧ (∀ v ∈ (levP nx x k).2, ∀ w ∈ nx v, w ∈ keyP nx x (k + 1)) := by
  obtain ⟨ex, h1, h2, h3⟩ := visL nx (levP nx x k).2 ((levP nx x k).1, []) (lev_le nx x k)
  have e1 : (levP nx x (k + 1)).1 = (levP nx x k).1 ++ ex := by simp only [levP, h1]
  refine ⟨ex, e1, fun w => ?_, h2, ?_⟩
  · simp only [levP, h1, sortZ_mem, List.nil_append]
  · unfold keyP; rw [e1]; exact h3
theorem key_succ (k : Nat) {w : Int} (h : w ∈ keyP nx x k) : w ∈ keyP nx x (k + 1) := by
  obtain ⟨ex, h1, _⟩ := lev_succ nx x k
  unfold keyP at *
  rw [h1, List.map_append, List.mem_append]
  exact .inl h
theorem key_mono {k m : Nat} (hk : k ≤ m) {w : Int} (h : w ∈ keyP nx x k) : w ∈ keyP nx x m := by
  induction hk with
  | refl => exact h
  | step _ ih => exact key_succ nx x _ ih
theorem mem_lev (k : Nat) {w : Int} : w ∈ (levP nx x (k + 1)).2 ↔ w ∈ keyP nx x (k + 1) ∧ w ∉ keyP nx x k := by
  obtain ⟨ex, h1, h2, h3, _⟩ := lev_succ nx x k
  rw [h2]
  constructor
  · intro h
    refine ⟨by unfold keyP; rw [h1, List.map_append, List.mem_append]; exact .inr h, ?_⟩
    obtain ⟨p, hp, rfl⟩ := List.mem_map.1 h
    exact (h3 p hp).2.2.1
  · rintro ⟨a, b⟩
    unfold keyP at a b
    rw [h1, List.map_append, List.mem_append] at a
    exact a.resolve_left b
theorem lev_zero {w : Int} : w ∈ (levP nx x 0).2 ↔ w = x := by simp [levP]
theorem key_zero {w : Int} : w ∈ keyP nx x 0 ↔ w = x := by simp [keyP, levP]
theorem lev_key : ∀ (k : Nat) {w : Int}, w ∈ (levP nx x k).2 → w ∈ keyP nx x k
  | 0, w, h => (key_zero nx x).2 ((lev_zero nx x).1 h)
  | k + 1, w, h => ((mem_lev nx x k).1 h).1
theorem lev_not {k : Nat} {w : Int} (h : w ∈ (levP nx x k).2) {j : Nat} (hj : j < k) : w ∉ keyP nx x j := by
  cases k with
  | zero => omega
  | succ k => exact fun hw => ((mem_lev nx x k).1 h).2 (key_mono nx x (by omega) hw)
theorem lev_one {k j : Nat} {w : Int} (h : w ∈ (levP nx x k).2) (h2 : w ∈ (levP nx x j).2) : k = j := by
  rcases Nat.lt_trichotomy k j with hl | hl | hl
  · exact absurd (lev_key nx x k h) (lev_not nx x h2 hl)
  · exact hl
  · exact absurd (lev_key nx x j h2) (lev_not nx x h hl)
theorem key_lev : ∀ (k : Nat) {w : Int}, w ∈ keyP nx x k → ∃ j, j ≤ k ∧ w ∈ (levP nx x j).2
  | 0, w, h => ⟨0, Nat.le_refl _, (lev_zero nx x).2 ((key_zero nx x).1 h)⟩
  | k + 1, w, h => by
    by_cases hk : w ∈ keyP nx x k
    · obtain ⟨j, hj, hw⟩ := key_lev k hk
      exact ⟨j, by omega, hw⟩
    · exact ⟨k + 1, Nat.le_refl _, (mem_lev nx x k).2 ⟨h, hk⟩⟩
theorem mapF_left {F E : List (Int × Int)} {w : Int} (h : w ∈ F.map (·.1)) : mapF (F ++ E) w = mapF F w := by
  induction F with
  | nil => simp at h
  | cons p r ih =>
    obtain ⟨a, b⟩ := p
    simp only [List.cons_append, mapF]
    split
    · rfl
    · rename_i hne
      simp only [List.map_cons, List.mem_cons] at h
      rcases h with h | h
      · exact absurd h (by first | exact hne | exact fun h' => hne h'.symm)
      · exact ih h
theorem mapF_right {F E : List (Int × Int)} {w : Int} (h : w ∉ F.map (·.1)) : mapF (F ++ E) w = mapF E w := by
  induction F with
  | nil => rfl
  | cons p r ih =>
    obtain ⟨a, b⟩ := p
    simp only [List.map_cons, List.mem_cons, not_or] at h
    simp only [List.cons_append, mapF]
    rw [if_neg (by simpa using fun h' => h.1 (by first | exact h' | exact h'.symm))]
    exact ih h.2
def parP (k : Nat) (w : Int) : Int := (mapF (levP nx x k).1 w).getD 0
theorem par_mono {k m : Nat} (hk : k ≤ m) {w : Int} (h : w ∈ keyP nx x k) : parP nx x m w = parP nx x k w := by
  induction hk with
  | refl => rfl
  | step hk ih =>
    rename_i m
    rw [← ih]
    obtain ⟨ex, h1, _⟩ := lev_succ nx x m
    unfold parP
    rw [h1, mapF_left]
    exact key_mono nx x hk h
theorem par_lev (k : Nat) {w : Int} (h : w ∈ (levP nx x (k + 1)).2) : parP nx x (k + 1) w ∈ (levP nx x k).2 ∧ w ∈ nx (parP nx x (k + 1) w) ∧ ∀ u ∈ (levP nx x k).2, w ∈ nx u → parP nx x (k + 1) w ≤ u := by
  obtain ⟨ex, h1, h2, h3, _⟩ := lev_succ nx x k
  have hn := ((mem_lev nx x k).1 h).2
  have he := (h2 w).1 h
  have e : parP nx x (k + 1) w = (mapF ex w).getD 0 := by unfold parP; rw [h1, mapF_right (by unfold keyP at hn; exact hn)]
  obtain ⟨a, b, c⟩ := mapF_idx he
  have hm : ex.getD ((ex.map (·.1)).idxOf w) default ∈ ex := by rw [List.getD_eq_getElem?_getD, List.getElem?_eq_getElem b]; exact List.getElem_mem _
  obtain ⟨d1, d2, d3, d4⟩ := h3 _ hm
  rw [e, a, Option.getD_some]
  rw [c] at d2 d4
  exact ⟨d1, d2, d4⟩
theorem lev_len : ∀ (k : Nat) {w : Int}, w ∈ (levP nx x k).2 → k < (levP nx x k).1.length
  | 0, w, h => by simp [levP]
  | k + 1, w, h => by
    have := lev_len k (par_lev nx x k h).1
    obtain ⟨ex, h1, h2, _⟩ := lev_succ nx x k
    rw [h1, List.length_append]
    have he := (h2 w).1 h
    have : 0 < (ex.map (·.1)).length := List.length_pos_of_mem he
    rw [List.length_map] at this
    omega
def wayP : Nat → Int → List Int
  | 0, y => [y]
  | k + 1, y => wayP k (parP nx x (k + 1) y) ++ [y]
theorem rest_way : ∀ (k : Nat) {y : Int} {m f : Nat}, y ∈ (levP nx x k).2 → k ≤ m → k ≤ f → ([y] ++ restP (levP nx x m).1 x f y).reverse = wayP nx x k y
  | 0, y, m, f, h, _, _ => by
    obtain rfl := (lev_zero nx x).1 h
    rw [restP_stop]
    rfl
  | k + 1, y, m, f + 1, h, hm, hf => by
    obtain ⟨p1, p2, _⟩ := par_lev nx x k h
    have hne : y ≠ x := fun e => lev_not nx x h (j := 0) (by omega) ((key_zero nx x).2 e)
    have ih := rest_way k (m := m) (f := f) p1 (by omega) (by omega)
    have hp : (mapF (levP nx x m).1 y).getD 0 = parP nx x (k + 1) y := par_mono nx x hm (lev_key nx x (k + 1) h)
    simp only [restP, if_neg hne, hp, wayP]
    rw [← ih]
    simp
theorem lev_some : ∀ (k : Nat) {y : Int}, y ∈ (levP nx x k).2 → ∀ j, j ≤ k → (levP nx x j).2 ≠ []
  | k, y, h, j, hj => by
    rcases Nat.lt_or_ge j k with hl | hl
    · cases k with
      | zero => omega
      | succ k => exact lev_some k (par_lev nx x k h).1 j (by omega)
    · obtain rfl : j = k := by omega
      exact List.ne_nil_of_mem h
theorem stop_lev {y : Int} {j : Nat} (h : y ∈ (levP nx x j).2) (d : Int) : ∀ (f k : Nat), k + f = d.toNat → k ≤ j → stopP nx x y d f k = min j d.toNat
  | 0, k, hf, hk => by simp only [stopP]; omega
  | f + 1, k, hf, hk => by
    simp only [stopP]
    by_cases hkj : k = j
    · subst hkj
      have : goesP nx x y d k = false := by
        unfold goesP
        rw [show (mapF (levP nx x k).1 y).isSome = true from mapF_some.2 (lev_key nx x k h)]
        simp
      rw [this]
      simp only [Bool.false_eq_true, if_false]
      omega
    · have : goesP nx x y d k = true := by
        unfold goesP
        have h1 := lev_some nx x j h k hk
        have h2 : (mapF (levP nx x k).1 y).isSome = false := by
          cases hm : (mapF (levP nx x k).1 y).isSome with
          | false => rfl
          | true => exact absurd (mapF_some.1 hm) (lev_not nx x h (by omega))
        rw [h2]
        have h3 : (levP nx x k).2.length ≠ 0 := fun h => h1 (List.length_eq_zero_iff.1 h)
        simp [h3]
        omega
      rw [this, if_pos rfl]
      exact stop_lev h d f (k + 1) (by omega) (by omega)
theorem path_way {y : Int} {j : Nat} (h : y ∈ (levP nx x j).2) (d : Int) : pathM nx x y d = if j ≤ d.toNat then wayP nx x j y else [] := by
  have hs := stop_lev nx x h d d.toNat 0 (by omega) (by omega)
  unfold pathM finP
  rw [hs]
  split
  · rename_i hj
    have hk := mapF_some.1 hj
    split
    · rename_i hd
      rw [Nat.min_eq_left hd]
      exact rest_way nx x j h (Nat.le_refl _) (by have := lev_len nx x j h; omega)
    · rename_i hd
      rw [Nat.min_eq_right (by omega)] at hk
      exact absurd hk (lev_not nx x h (by omega))
  · rename_i hj
    split
    · rename_i hd
      rw [Nat.min_eq_left hd] at hj
      exact absurd (mapF_some.2 (lev_key nx x j h)) hj
    · rfl
theorem path_none {y : Int} (h : ∀ k, y ∉ keyP nx x k) (d : Int) : pathM nx x y d = [] := by
  unfold pathM finP
  rw [if_neg]
  exact fun hs => h _ (mapF_some.1 hs)
theorem way_len : ∀ (k : Nat) (y : Int), (wayP nx x k y).length = k + 1
  | 0, y => rfl
  | k + 1, y => by simp only [wayP, List.length_append, way_len k, List.length_singleton]
theorem way_get (k : Nat) (y : Int) (i : Nat) : (wayP nx x (k + 1) y).getD i default = if i ≤ k then (wayP nx x k (parP nx x (k + 1) y)).getD i default else if i = k + 1 then y else default := by
  have hl := way_len nx x k (parP nx x (k + 1) y)
  simp only [wayP, List.getD_eq_getElem?_getD]
  by_cases h : i ≤ k
  · rw [if_pos h, List.getElem?_append_left (by omega)]
  · rw [if_neg h, List.getElem?_append_right (by omega), hl]
    by_cases h2 : i = k + 1
    · subst h2; simp
    · rw [if_neg h2, List.getElem?_eq_none (by simp; omega)]; rfl
theorem way_last (k : Nat) (y : Int) : (wayP nx x k y).getD k default = y := by
  cases k with
  | zero => rfl
  | succ k => rw [way_get, if_neg (by omega), if_pos rfl]
theorem way_lev : ∀ (k : Nat) {y : Int}, y ∈ (levP nx x k).2 → ∀ i, i ≤ k → (wayP nx x k y).getD i default ∈ (levP nx x i).2
  | 0, y, h, i, hi => by
    obtain rfl : i = 0 := by omega
    exact h
  | k + 1, y, h, i, hi => by
    rw [way_get]
    by_cases h1 : i ≤ k
    · rw [if_pos h1]
      exact way_lev k (par_lev nx x k h).1 i h1
    · obtain rfl : i = k + 1 := by omega
      rw [if_neg (by omega), if_pos rfl]
      exact h
theorem way_par : ∀ (k : Nat) {y : Int}, y ∈ (levP nx x k).2 → ∀ i, i < k → (wayP nx x k y).getD i default = parP nx x (i + 1) ((wayP nx x k y).getD (i + 1) default)
  | 0, y, h, i, hi => by omega
  | k + 1, y, h, i, hi => by
    rw [way_get, way_get, if_pos (by omega)]
    by_cases h1 : i + 1 ≤ k
    · rw [if_pos h1]
      exact way_par k (par_lev nx x k h).1 i h1
    · obtain rfl : i = k := by omega
      rw [if_neg (by omega), if_pos rfl, way_last]
theorem way_step (k : Nat) {y : Int} (h : y ∈ (levP nx x k).2) (i : Nat) (hi : i < k) : (wayP nx x k y).getD (i + 1) default ∈ nx ((wayP nx x k y).getD i default) := by
  rw [way_par nx x k h i hi]
  exact (par_lev nx x i (way_lev nx x k h (i + 1) (by omega))).2.1
theorem way_zero (k : Nat) {y : Int} (h : y ∈ (levP nx x k).2) : (wayP nx x k y).getD 0 default = x := (lev_zero nx x).1 (way_lev nx x k h 0 (by omega))
theorem way_ne (k : Nat) {y : Int} (h : y ∈ (levP nx x k).2) (i j : Nat) (hi : i < j) (hj : j ≤ k) : (wayP nx x k y).getD i default ≠ (wayP nx x k y).getD j default := fun e => by
  have h1 := way_lev nx x k h i (by omega)
  have h2 := way_lev nx x k h j hj
  rw [e] at h1
  have := lev_one nx x h1 h2
  omega
end
end Go.Proofs.Ytkkjlmcnfoncdaa.Aw

namespace Go.Proofs.Ytkkjlmcnfoncdaa.Aw
open Go Go.RowKit
set_option maxRecDepth 10000
attribute [local irreducible] AWp AOL QS One AOLg QSg NX QX TRg TX AllO Fin3
def memT (L : List Int) (q : Int) (k : Nat) : Bool := decide (q ∈ L.take k)
theorem memT_succ (L : List Int) (q : Int) (k : Nat) (h : k < L.length) : memT L q (k + 1) = (memT L q k || decide (L.getD k default = q)) := by
  unfold memT
  rw [takeS L k h, Bool.eq_iff_iff]
  simp only [decide_eq_true_eq, Bool.or_eq_true, List.mem_append, List.mem_singleton]
  exact ⟨fun h => h.imp id Eq.symm, fun h => h.imp id Eq.symm⟩
variable {A : Ar} (hA : A = real)
include hA
end Go.Proofs.Ytkkjlmcnfoncdaa.Aw

namespace Go.Proofs.Ytkkjlmcnfoncdaa.Aw
open Go Go.RowKit
set_option maxRecDepth 10000
attribute [local irreducible] AWp AOL QS One AOLg QSg NX QX TRg TX AllO Fin3
variable {A : Ar} (hA : A = real)
include hA
set_option maxHeartbeats 4000000 in
theorem cways_none (l : List Sg) (K : List (List Int)) (S : List Int) (R V : List Int) (N : List (Int × Int)) (M : List Int) (P Q : List (List Int)) (x y depth : Int) (hd : 0 ≤ depth ∧ depth ≤ 255) (W : List Int) (hWl : W.length ≤ 1000000)
    (hof : PureCalls Try.prog 19 [slP A 2 (encG A) l, keyedPV A K S, grP A R V N M P Q] (BP true)) (hth : PureCalls Try.prog 20 [grP A R V N M P Q, .c (.sl 1 false [[.lit (.int .i64 x)], [.lit (.int .i64 y)]])] (BP true))
    (hp : ∀ z : Int, z = depth % 50 → PureCalls Try.prog 21 [keyedPV A K S, grP A R V N M P Q, IP x, IP y, IP z] (intsP A []))
    (hq : ∀ z : Int, z = depth % 50 + 1 → PureCalls Try.prog 21 [keyedPV A K S, grP A R V N M P Q, IP x, IP y, IP z] (intsP A W))
    (hW : W.length = 0 ∨ (W.length : Int) = depth % 50 + 2) :
    PureCalls Try.prog 5 [.agg [.sl 2 false (hid A (List.map (encG A) l)), .sl 1 false (hid A (List.map (encK A) K)), .sl 1 false (hid A (List.map encI S)), .sl 1 false (hid A (List.map encI R)), .sl 1 false (hid A (List.map encI V)), .sl 2 false (hid A (List.map encN N)), .sl 1 false (hid A (List.map encI M)), .sl 1 false (hid A (List.map (encK A) P)), .sl 1 false (hid A (List.map (encK A) Q)), .lit (.int .i64 x), .lit (.int .i64 y), .lit (.int .u8 depth)]] (BP true) := by
  have hsh := shown13_c hA
  refine PureCalls.of Try.func5 rfl (by kernel_rfl) rfl ?_
  try first | refine AOLg.of [] ?_ | refine QSg.of [] ?_
  repeat' (first | (refine AWp.pass ?_; first | refine AWp.seq ?_ | refine AWp.block ?_ | refine AWp.skip ?_ | refine AWp.regG [] Zc ?_ | refine AWp.cond_t rfl ?_ | refine AWp.cond_f rfl ?_ | (refine AWp.cond rfl ?_ ?_ <;> intro hc <;> (try rw [hc]) <;> ((try simp only [zn] at hc) <;> (try simp (disch := omega) only [zz hA, zb, zy, reduceCtorEq, Bool.false_eq_true, Int.reduceLT, Int.reduceLE, Int.reduceNeg] at hc) <;> (try simp only [zw] at hc)) <;> (try (exfalso; omega))) | refine AWp.exit ?_ | refine AWp.ret ⟨.inr rfl, _, RetOk.ev tabOk Zc, ?_⟩ | refine AWp.drawVG [] rfl (by decide +kernel) Zc ?_) | (refine AOLg.pass ?_; refine AOLg.nx hA tabOk Zc ?_; first | refine NX.done ?_ | refine NX.gt ?_ | refine NX.gf ?_ | (refine NX.gs ?_ ?_ <;> intro hc <;> rw [hc] <;> ((try simp only [zn] at hc) <;> (try simp (disch := omega) only [zz hA, zb, zy, reduceCtorEq, Bool.false_eq_true, Int.reduceLT, Int.reduceLE, Int.reduceNeg] at hc) <;> (try simp only [zw] at hc)) <;> (try (exfalso; omega))) | (refine NX.kC ?_; first | (with_reducible refine NX.call (hsh) ?_) | (with_reducible refine NX.call (hof) ?_) | (with_reducible refine NX.call (hth) ?_) | ((with_reducible refine NX.call (hp _ ?_) ?_) <;> (first | refine AOLg.pass ?_ | exact Zd)) | ((with_reducible refine NX.call (hq _ ?_) ?_) <;> (first | refine AOLg.pass ?_ | exact Zd)) | ((first | refine NX.call (hsh) ?_ | refine NX.call (hof) ?_ | refine NX.call (hth) ?_ | refine NX.call (hp _ ?_) ?_ | refine NX.call (hq _ ?_) ?_) <;> (first | refine AOLg.pass ?_ | exact Zd)) | fail) | (refine NX.kO ?_; (first | refine NX.callO (hsh) (by simp [allEq]) rfl ?_ | refine NX.callO (hof) (by simp [allEq]) rfl ?_ | refine NX.callO (hth) (by simp [allEq]) rfl ?_ | refine NX.callO (hp _ ?_) (by simp [allEq]) rfl ?_ | refine NX.callO (hq _ ?_) (by simp [allEq]) rfl ?_) <;> (first | refine AOLg.pass ?_ | exact Zd)) | refine NX.k 1 (NX.one Z1 ?_) | refine NX.k 4 (NX.one Z4 ?_) | refine NX.k 7 (NX.one Z7 ?_) | refine NX.k 8 (NX.one Z8 ?_) | refine NX.k 9 (NX.one Z9 ?_) | refine NX.k 10 (NX.one Z10 ?_) | refine NX.k 14 (NX.one Z14 ?_) | refine NX.k 15 (NX.one Z15 ?_) | refine NX.k 17 (NX.one Z17 ?_) | refine NX.k 18 (NX.one Z18 ?_) | refine NX.raw ?_) | (refine TRg.pass ?_; refine TRg.nx hA tabOk Zc ?_; first | refine TX.done ?_ | refine TX.gt ?_ | refine TX.gf ?_ | (refine TX.gs ?_ ?_ <;> intro hc <;> rw [hc] <;> ((try simp only [zn] at hc) <;> (try simp (disch := omega) only [zz hA, zb, zy, reduceCtorEq, Bool.false_eq_true, Int.reduceLT, Int.reduceLE, Int.reduceNeg] at hc) <;> (try simp only [zw] at hc)) <;> (try (exfalso; omega))) | (refine TX.kC ?_; first | (with_reducible refine TX.call (hsh) ?_) | (with_reducible refine TX.call (hof) ?_) | (with_reducible refine TX.call (hth) ?_) | ((with_reducible refine TX.call (hp _ ?_) ?_) <;> (first | refine TRg.pass ?_ | exact Zd)) | ((with_reducible refine TX.call (hq _ ?_) ?_) <;> (first | refine TRg.pass ?_ | exact Zd)) | ((first | refine TX.call (hsh) ?_ | refine TX.call (hof) ?_ | refine TX.call (hth) ?_ | refine TX.call (hp _ ?_) ?_ | refine TX.call (hq _ ?_) ?_) <;> (first | refine TRg.pass ?_ | exact Zd)) | fail) | (refine TX.kO ?_; (first | refine TX.callO (hsh) (by simp [allEq]) rfl ?_ | refine TX.callO (hof) (by simp [allEq]) rfl ?_ | refine TX.callO (hth) (by simp [allEq]) rfl ?_ | refine TX.callO (hp _ ?_) (by simp [allEq]) rfl ?_ | refine TX.callO (hq _ ?_) (by simp [allEq]) rfl ?_) <;> (first | refine TRg.pass ?_ | exact Zd)) | refine TX.k 1 (TX.one Z1 ?_) | refine TX.k 4 (TX.one Z4 ?_) | refine TX.k 7 (TX.one Z7 ?_) | refine TX.k 8 (TX.one Z8 ?_) | refine TX.k 9 (TX.one Z9 ?_) | refine TX.k 10 (TX.one Z10 ?_) | refine TX.k 14 (TX.one Z14 ?_) | refine TX.k 15 (TX.one Z15 ?_) | refine TX.k 17 (TX.one Z17 ?_) | refine TX.k 18 (TX.one Z18 ?_) | refine TX.raw ?_) | refine Fin3.of Zc (by repeat' (first | exact True.intro | exact rfl | refine And.intro ?_ ?_)) ?_ ?_ | (refine AllO.pass ?_; first | exact AllO.nil | (refine AllO.cons (One.ev hA tabOk ?_) ?_ <;> (first | refine AllO.pass ?_ | ((conv => lhs; cbv); done))) | (refine AllO.cons (One.skipB ?_) ?_ <;> (first | refine AllO.pass ?_ | ((conv => lhs; cbv); done))) | ((with_reducible refine AllO.call Zc (hsh) ?_ ?_) <;> (first | refine AllO.pass ?_ | exact rfl | exact Zd)) | ((with_reducible refine AllO.call Zc (hof) ?_ ?_) <;> (first | refine AllO.pass ?_ | exact rfl | exact Zd)) | ((with_reducible refine AllO.call Zc (hth) ?_ ?_) <;> (first | refine AllO.pass ?_ | exact rfl | exact Zd)) | ((with_reducible refine AllO.call Zc (hp _ ?_) ?_ ?_) <;> (first | refine AllO.pass ?_ | exact rfl | exact Zd)) | ((with_reducible refine AllO.call Zc (hq _ ?_) ?_ ?_) <;> (first | refine AllO.pass ?_ | exact rfl | exact Zd)) | refine AllO.consX ZX rfl rfl ?_) | refine Thn.exit ?_ | refine Blk.here ?_ | refine Blk.other (by decide) ?_ | refine ⟨.inl rfl, _, RetOk.ev tabOk Zc, ?_⟩ | fail)
  all_goals exact Ze
set_option maxHeartbeats 4000000 in
theorem cways_some (l : List Sg) (K : List (List Int)) (S : List Int) (R V : List Int) (N : List (Int × Int)) (M : List Int) (P Q : List (List Int)) (x y depth p q : Int) (hd : 0 ≤ depth ∧ depth ≤ 255) (W : List Int) (hW0 : 0 < W.length) (hWl : (W.length : Int) ≤ depth % 50 + 1) (nx : Int → List Int)
    (hof : PureCalls Try.prog 19 [slP A 2 (encG A) l, keyedPV A K S, grP A R V N M P Q] (BP true)) (hth : PureCalls Try.prog 20 [grP A R V N M P Q, .c (.sl 1 false [[.lit (.int .i64 x)], [.lit (.int .i64 y)]])] (BP true))
    (hp : ∀ z : Int, z = depth % 50 → PureCalls Try.prog 21 [keyedPV A K S, grP A R V N M P Q, IP x, IP y, IP z] (intsP A W))
    (hq : ∀ z : Int, z = depth % 50 + 1 → PureCalls Try.prog 21 [keyedPV A K S, grP A R V N M P Q, IP x, IP y, IP z] (intsP A W))
    (fx : PureCalls Try.prog 15 [clP A V N M, IP x] (IP (hid A p))) (fy : PureCalls Try.prog 15 [clP A V N M, IP y] (IP (hid A q)))
    (hin : PureCalls Try.prog 17 [intsP A W, intsP A W] (BP true))
    (hx : W.getD 0 default = p) (hy : W.getD (W.length - 1) default = q)
    (hn : ∀ (i : Nat) (z : Int), i < W.length → z = W.getD i default → PureCalls Try.prog 22 [keyedPV A K S, grP A R V N M P Q, IP z] (intsP A (nx (W.getD i default))))
    (hnl : ∀ i : Nat, i < W.length → (nx (W.getD i default)).length ≤ 1000000)
    (hst : ∀ i : Nat, i + 1 < W.length → W.getD (i + 1) default ∈ nx (W.getD i default))
    (hne : ∀ i j : Nat, i < j → j < W.length → W.getD i default ≠ W.getD j default) :
    PureCalls Try.prog 5 [.agg [.sl 2 false (hid A (List.map (encG A) l)), .sl 1 false (hid A (List.map (encK A) K)), .sl 1 false (hid A (List.map encI S)), .sl 1 false (hid A (List.map encI R)), .sl 1 false (hid A (List.map encI V)), .sl 2 false (hid A (List.map encN N)), .sl 1 false (hid A (List.map encI M)), .sl 1 false (hid A (List.map (encK A) P)), .sl 1 false (hid A (List.map (encK A) Q)), .lit (.int .i64 x), .lit (.int .i64 y), .lit (.int .u8 depth)]] (BP true) := by
  have hsh := shown13_c hA
  have hy' : ∀ z : Int, z = (W.length : Int) - 1 → W.getD z.toNat default = q := fun z hz => by rw [← hy]; congr 1; omega
  refine PureCalls.of Try.func5 rfl (by kernel_rfl) rfl ?_
  try first | refine AOLg.of [] ?_ | refine QSg.of [] ?_
  repeat' (first | (refine AWp.pass ?_; first | refine AWp.seq ?_ | refine AWp.block ?_ | refine AWp.skip ?_ | refine AWp.regG [] Zc ?_ | refine AWp.cond_t rfl ?_ | refine AWp.cond_f rfl ?_ | (refine AWp.cond rfl ?_ ?_ <;> intro hc <;> (try rw [hc]) <;> ((try simp only [zn] at hc) <;> (try simp (disch := omega) only [zz hA, zb, zy, reduceCtorEq, Bool.false_eq_true, Int.reduceLT, Int.reduceLE, Int.reduceNeg] at hc) <;> (try simp only [zw] at hc)) <;> (try (exfalso; omega))) | refine AWp.exit ?_ | refine AWp.ret ⟨.inr rfl, _, RetOk.ev tabOk Zc, ?_⟩ | refine AWp.drawVG [] rfl (by decide +kernel) Zc ?_) | (refine AOLg.pass ?_; refine AOLg.nx hA tabOk Zc ?_; first | refine NX.done ?_ | refine NX.gt ?_ | refine NX.gf ?_ | (refine NX.gs ?_ ?_ <;> intro hc <;> rw [hc] <;> ((try simp only [zn] at hc) <;> (try simp (disch := omega) only [zz hA, zb, zy, reduceCtorEq, Bool.false_eq_true, Int.reduceLT, Int.reduceLE, Int.reduceNeg] at hc) <;> (try simp only [zw] at hc)) <;> (try (exfalso; omega))) | (refine NX.kC ?_; first | (with_reducible refine NX.call (hsh) ?_) | (with_reducible refine NX.call (hof) ?_) | (with_reducible refine NX.call (hth) ?_) | ((with_reducible refine NX.call (hp _ ?_) ?_) <;> (first | refine AOLg.pass ?_ | exact Zd)) | ((with_reducible refine NX.call (hq _ ?_) ?_) <;> (first | refine AOLg.pass ?_ | exact Zd)) | (with_reducible refine NX.call (fx) ?_) | (with_reducible refine NX.call (fy) ?_) | (with_reducible refine NX.call (hin) ?_) | ((first | refine NX.call (hsh) ?_ | refine NX.call (hof) ?_ | refine NX.call (hth) ?_ | refine NX.call (hp _ ?_) ?_ | refine NX.call (hq _ ?_) ?_ | refine NX.call (fx) ?_ | refine NX.call (fy) ?_ | refine NX.call (hin) ?_) <;> (first | refine AOLg.pass ?_ | exact Zd)) | fail) | (refine NX.kO ?_; (first | refine NX.callO (hsh) (by simp [allEq]) rfl ?_ | refine NX.callO (hof) (by simp [allEq]) rfl ?_ | refine NX.callO (hth) (by simp [allEq]) rfl ?_ | refine NX.callO (hp _ ?_) (by simp [allEq]) rfl ?_ | refine NX.callO (hq _ ?_) (by simp [allEq]) rfl ?_ | refine NX.callO (fx) (by simp [allEq]) rfl ?_ | refine NX.callO (fy) (by simp [allEq]) rfl ?_ | refine NX.callO (hin) (by simp [allEq]) rfl ?_) <;> (first | refine AOLg.pass ?_ | exact Zd)) | refine NX.k 1 (NX.one Z1 ?_) | refine NX.k 4 (NX.one Z4 ?_) | refine NX.k 7 (NX.one Z7 ?_) | refine NX.k 8 (NX.one Z8 ?_) | refine NX.k 9 (NX.one Z9 ?_) | refine NX.k 10 (NX.one Z10 ?_) | refine NX.k 14 (NX.one Z14 ?_) | refine NX.k 15 (NX.one Z15 ?_) | refine NX.k 17 (NX.one Z17 ?_) | refine NX.k 18 (NX.one Z18 ?_) | refine NX.raw ?_) | (refine TRg.pass ?_; refine TRg.nx hA tabOk Zc ?_; first | refine TX.done ?_ | refine TX.gt ?_ | refine TX.gf ?_ | (refine TX.gs ?_ ?_ <;> intro hc <;> rw [hc] <;> ((try simp only [zn] at hc) <;> (try simp (disch := omega) only [zz hA, zb, zy, reduceCtorEq, Bool.false_eq_true, Int.reduceLT, Int.reduceLE, Int.reduceNeg] at hc) <;> (try simp only [zw] at hc)) <;> (try (exfalso; omega))) | (refine TX.kC ?_; first | (with_reducible refine TX.call (hsh) ?_) | (with_reducible refine TX.call (hof) ?_) | (with_reducible refine TX.call (hth) ?_) | ((with_reducible refine TX.call (hp _ ?_) ?_) <;> (first | refine TRg.pass ?_ | exact Zd)) | ((with_reducible refine TX.call (hq _ ?_) ?_) <;> (first | refine TRg.pass ?_ | exact Zd)) | (with_reducible refine TX.call (fx) ?_) | (with_reducible refine TX.call (fy) ?_) | (with_reducible refine TX.call (hin) ?_) | ((first | refine TX.call (hsh) ?_ | refine TX.call (hof) ?_ | refine TX.call (hth) ?_ | refine TX.call (hp _ ?_) ?_ | refine TX.call (hq _ ?_) ?_ | refine TX.call (fx) ?_ | refine TX.call (fy) ?_ | refine TX.call (hin) ?_) <;> (first | refine TRg.pass ?_ | exact Zd)) | fail) | (refine TX.kO ?_; (first | refine TX.callO (hsh) (by simp [allEq]) rfl ?_ | refine TX.callO (hof) (by simp [allEq]) rfl ?_ | refine TX.callO (hth) (by simp [allEq]) rfl ?_ | refine TX.callO (hp _ ?_) (by simp [allEq]) rfl ?_ | refine TX.callO (hq _ ?_) (by simp [allEq]) rfl ?_ | refine TX.callO (fx) (by simp [allEq]) rfl ?_ | refine TX.callO (fy) (by simp [allEq]) rfl ?_ | refine TX.callO (hin) (by simp [allEq]) rfl ?_) <;> (first | refine TRg.pass ?_ | exact Zd)) | refine TX.k 1 (TX.one Z1 ?_) | refine TX.k 4 (TX.one Z4 ?_) | refine TX.k 7 (TX.one Z7 ?_) | refine TX.k 8 (TX.one Z8 ?_) | refine TX.k 9 (TX.one Z9 ?_) | refine TX.k 10 (TX.one Z10 ?_) | refine TX.k 14 (TX.one Z14 ?_) | refine TX.k 15 (TX.one Z15 ?_) | refine TX.k 17 (TX.one Z17 ?_) | refine TX.k 18 (TX.one Z18 ?_) | refine TX.raw ?_) | refine Fin3.of Zc (by repeat' (first | exact True.intro | exact rfl | refine And.intro ?_ ?_)) ?_ ?_ | (refine AllO.pass ?_; first | exact AllO.nil | (refine AllO.cons (One.ev hA tabOk ?_) ?_ <;> (first | refine AllO.pass ?_ | ((conv => lhs; cbv); done))) | (refine AllO.cons (One.skipB ?_) ?_ <;> (first | refine AllO.pass ?_ | ((conv => lhs; cbv); done))) | ((with_reducible refine AllO.call Zc (hsh) ?_ ?_) <;> (first | refine AllO.pass ?_ | exact rfl | exact Zd)) | ((with_reducible refine AllO.call Zc (hof) ?_ ?_) <;> (first | refine AllO.pass ?_ | exact rfl | exact Zd)) | ((with_reducible refine AllO.call Zc (hth) ?_ ?_) <;> (first | refine AllO.pass ?_ | exact rfl | exact Zd)) | ((with_reducible refine AllO.call Zc (hp _ ?_) ?_ ?_) <;> (first | refine AllO.pass ?_ | exact rfl | exact Zd)) | ((with_reducible refine AllO.call Zc (hq _ ?_) ?_ ?_) <;> (first | refine AllO.pass ?_ | exact rfl | exact Zd)) | ((with_reducible refine AllO.call Zc (fx) ?_ ?_) <;> (first | refine AllO.pass ?_ | exact rfl | exact Zd)) | ((with_reducible refine AllO.call Zc (fy) ?_ ?_) <;> (first | refine AllO.pass ?_ | exact rfl | exact Zd)) | ((with_reducible refine AllO.call Zc (hin) ?_ ?_) <;> (first | refine AllO.pass ?_ | exact rfl | exact Zd)) | refine AllO.consX ZX rfl rfl ?_) | refine Thn.exit ?_ | refine Blk.here ?_ | refine Blk.other (by decide) ?_ | refine ⟨.inl rfl, _, RetOk.ev tabOk Zc, ?_⟩ | fail)
  all_goals try first | (exfalso; exact hc hx) | (exfalso; exact hc (hy' _ rfl))
  refine AWp.loopU (fun k : Nat => [(13, .ic (.lit (.int .i64 (hid A (cN k)))))]) (fun _ => _) (fun k => W.length - k) (fun k => 1 ≤ k ∧ k ≤ W.length) 1 (by conv => lhs; cbv) ⟨Nat.le_refl _, hW0⟩ (by ((repeat' (first | exact subE.nil | refine subE.cons rfl ?_ | refine subE.int rfl ?_ ?_ | refine subE.bool rfl ?_ ?_ | refine subE.str rfl ?_ ?_ | refine subE.sl rfl ?_ ?_))) <;> simp [hA, real, hid, cN]) rfl ?_
  rintro k ⟨hk1, hk⟩
  by_cases hkl : k < W.length
  · have hmem := hst (k - 1) (by omega)
    have hLl := hnl (k - 1) (by omega)
    have hnk : ∀ j : Int, j = (k : Int) - 1 → PureCalls Try.prog 22 [keyedPV A K S, grP A R V N M P Q, IP (hid A (W.getD j.toNat default))] (intsP A (nx (W.getD (k - 1) default))) := fun j hj => hn (k - 1) _ (by omega) (by rw [hid_eq hA, show j.toNat = k - 1 by omega])
    have hnj := fun (j : Nat) (hj : j < k) => hne j k hj hkl
    rw [show k - 1 + 1 = k by omega] at hmem
    obtain ⟨t, ht⟩ : ∃ t, W.getD k default = t := ⟨_, rfl⟩
    rw [ht] at hmem hnj
    generalize nx (W.getD (k - 1) default) = L at *
    clear hn hnl hst hne
    try first | refine AOLg.of [] ?_ | refine QSg.of [] ?_
    repeat' (first | (refine AWp.pass ?_; first | refine AWp.seq ?_ | refine AWp.block ?_ | refine AWp.skip ?_ | refine AWp.regG [] Zc ?_ | refine AWp.cond_t rfl ?_ | refine AWp.cond_f rfl ?_ | (refine AWp.cond rfl ?_ ?_ <;> intro hc <;> (try rw [hc]) <;> ((try simp only [zn] at hc) <;> (try simp (disch := omega) only [zz hA, zb, zy, reduceCtorEq, Bool.false_eq_true, Int.reduceLT, Int.reduceLE, Int.reduceNeg] at hc) <;> (try simp only [zw] at hc)) <;> (try (exfalso; omega))) | refine AWp.exit ?_ | refine AWp.ret ⟨.inr rfl, _, RetOk.ev tabOk Zc, ?_⟩ | refine AWp.drawVG [] rfl (by decide +kernel) Zc ?_) | (refine AOLg.pass ?_; refine AOLg.nx hA tabOk Zc ?_; first | refine NX.done ?_ | refine NX.gt ?_ | refine NX.gf ?_ | (refine NX.gs ?_ ?_ <;> intro hc <;> rw [hc] <;> ((try simp only [zn] at hc) <;> (try simp (disch := omega) only [zz hA, zb, zy, reduceCtorEq, Bool.false_eq_true, Int.reduceLT, Int.reduceLE, Int.reduceNeg] at hc) <;> (try simp only [zw] at hc)) <;> (try (exfalso; omega))) | (refine NX.kC ?_; first | ((with_reducible refine NX.call (hnk _ ?_) ?_) <;> (first | refine AOLg.pass ?_ | exact Zd)) | ((first | refine NX.call (hnk _ ?_) ?_) <;> (first | refine AOLg.pass ?_ | exact Zd)) | fail) | (refine NX.kO ?_; (first | refine NX.callO (hnk _ ?_) (by simp [allEq]) rfl ?_) <;> (first | refine AOLg.pass ?_ | exact Zd)) | refine NX.k 1 (NX.one Z1 ?_) | refine NX.k 4 (NX.one Z4 ?_) | refine NX.k 7 (NX.one Z7 ?_) | refine NX.k 8 (NX.one Z8 ?_) | refine NX.k 9 (NX.one Z9 ?_) | refine NX.k 10 (NX.one Z10 ?_) | refine NX.k 14 (NX.one Z14 ?_) | refine NX.k 15 (NX.one Z15 ?_) | refine NX.k 17 (NX.one Z17 ?_) | refine NX.k 18 (NX.one Z18 ?_) | refine NX.raw ?_) | (refine TRg.pass ?_; refine TRg.nx hA tabOk Zc ?_; first | refine TX.done ?_ | refine TX.gt ?_ | refine TX.gf ?_ | (refine TX.gs ?_ ?_ <;> intro hc <;> rw [hc] <;> ((try simp only [zn] at hc) <;> (try simp (disch := omega) only [zz hA, zb, zy, reduceCtorEq, Bool.false_eq_true, Int.reduceLT, Int.reduceLE, Int.reduceNeg] at hc) <;> (try simp only [zw] at hc)) <;> (try (exfalso; omega))) | (refine TX.kC ?_; first | ((with_reducible refine TX.call (hnk _ ?_) ?_) <;> (first | refine TRg.pass ?_ | exact Zd)) | ((first | refine TX.call (hnk _ ?_) ?_) <;> (first | refine TRg.pass ?_ | exact Zd)) | fail) | (refine TX.kO ?_; (first | refine TX.callO (hnk _ ?_) (by simp [allEq]) rfl ?_) <;> (first | refine TRg.pass ?_ | exact Zd)) | refine TX.k 1 (TX.one Z1 ?_) | refine TX.k 4 (TX.one Z4 ?_) | refine TX.k 7 (TX.one Z7 ?_) | refine TX.k 8 (TX.one Z8 ?_) | refine TX.k 9 (TX.one Z9 ?_) | refine TX.k 10 (TX.one Z10 ?_) | refine TX.k 14 (TX.one Z14 ?_) | refine TX.k 15 (TX.one Z15 ?_) | refine TX.k 17 (TX.one Z17 ?_) | refine TX.k 18 (TX.one Z18 ?_) | refine TX.raw ?_) | refine Fin3.of Zc (by repeat' (first | exact True.intro | exact rfl | refine And.intro ?_ ?_)) ?_ ?_ | (refine AllO.pass ?_; first | exact AllO.nil | (refine AllO.cons (One.ev hA tabOk ?_) ?_ <;> (first | refine AllO.pass ?_ | ((conv => lhs; cbv); done))) | (refine AllO.cons (One.skipB ?_) ?_ <;> (first | refine AllO.pass ?_ | ((conv => lhs; cbv); done))) | ((with_reducible refine AllO.call Zc (hnk _ ?_) ?_ ?_) <;> (first | refine AllO.pass ?_ | exact rfl | exact Zd)) | refine AllO.consX ZX rfl rfl ?_) | refine Thn.exit ?_ | refine Blk.here ?_ | refine Blk.other (by decide) ?_ | refine ⟨.inl rfl, _, RetOk.ev tabOk Zc, ?_⟩ | fail)
    all_goals try (exfalso; omega)
    refine AWp.loopU (fun j : Nat => [(16, .ic (.lit (.int .i64 (hid A (cN j))))), (15, .ic (.lit (.bool (hid A (memT L t j)))))]) (fun _ => _) (fun j => L.length - j) (fun j => j ≤ L.length) 0 (by conv => lhs; cbv) (Nat.zero_le _) (by ((repeat' (first | exact subE.nil | refine subE.cons rfl ?_ | refine subE.int rfl ?_ ?_ | refine subE.bool rfl ?_ ?_ | refine subE.str rfl ?_ ?_ | refine subE.sl rfl ?_ ?_))) <;> simp [hA, real, hid, cN, memT]) rfl ?_
    intro j hj
    by_cases hjl : j < L.length
    · have hs := memT_succ L t j hjl
      obtain ⟨m, hm⟩ : ∃ m, m = memT L t j := ⟨_, rfl⟩
      rw [← hm] at hs ⊢
      clear hm
      cases m
      all_goals
        rw [hid_eq hA (α := Bool)]
        try first | refine AOLg.of [] ?_ | refine QSg.of [] ?_
        repeat' (first | (refine AWp.pass ?_; first | refine AWp.seq ?_ | refine AWp.block ?_ | refine AWp.skip ?_ | refine AWp.regG [] Zc ?_ | refine AWp.cond_t rfl ?_ | refine AWp.cond_f rfl ?_ | (refine AWp.cond rfl ?_ ?_ <;> intro hc <;> (try rw [hc]) <;> ((try simp only [zn] at hc) <;> (try simp (disch := omega) only [zz hA, zb, zy, reduceCtorEq, Bool.false_eq_true, Int.reduceLT, Int.reduceLE, Int.reduceNeg] at hc) <;> (try simp only [zw] at hc)) <;> (try (exfalso; omega))) | refine AWp.exit ?_ | refine AWp.ret ⟨.inr rfl, _, RetOk.ev tabOk Zc, ?_⟩ | refine AWp.drawVG [] rfl (by decide +kernel) Zc ?_) | (refine AOLg.pass ?_; refine AOLg.nx hA tabOk Zc ?_; first | refine NX.done ?_ | refine NX.gt ?_ | refine NX.gf ?_ | (refine NX.gs ?_ ?_ <;> intro hc <;> rw [hc] <;> ((try simp only [zn] at hc) <;> (try simp (disch := omega) only [zz hA, zb, zy, reduceCtorEq, Bool.false_eq_true, Int.reduceLT, Int.reduceLE, Int.reduceNeg] at hc) <;> (try simp only [zw] at hc)) <;> (try (exfalso; omega))) | refine NX.k 1 (NX.one Z1 ?_) | refine NX.k 4 (NX.one Z4 ?_) | refine NX.k 7 (NX.one Z7 ?_) | refine NX.k 8 (NX.one Z8 ?_) | refine NX.k 9 (NX.one Z9 ?_) | refine NX.k 10 (NX.one Z10 ?_) | refine NX.k 14 (NX.one Z14 ?_) | refine NX.k 15 (NX.one Z15 ?_) | refine NX.k 17 (NX.one Z17 ?_) | refine NX.k 18 (NX.one Z18 ?_) | refine NX.raw ?_) | (refine TRg.pass ?_; refine TRg.nx hA tabOk Zc ?_; first | refine TX.done ?_ | refine TX.gt ?_ | refine TX.gf ?_ | (refine TX.gs ?_ ?_ <;> intro hc <;> rw [hc] <;> ((try simp only [zn] at hc) <;> (try simp (disch := omega) only [zz hA, zb, zy, reduceCtorEq, Bool.false_eq_true, Int.reduceLT, Int.reduceLE, Int.reduceNeg] at hc) <;> (try simp only [zw] at hc)) <;> (try (exfalso; omega))) | refine TX.k 1 (TX.one Z1 ?_) | refine TX.k 4 (TX.one Z4 ?_) | refine TX.k 7 (TX.one Z7 ?_) | refine TX.k 8 (TX.one Z8 ?_) | refine TX.k 9 (TX.one Z9 ?_) | refine TX.k 10 (TX.one Z10 ?_) | refine TX.k 14 (TX.one Z14 ?_) | refine TX.k 15 (TX.one Z15 ?_) | refine TX.k 17 (TX.one Z17 ?_) | refine TX.k 18 (TX.one Z18 ?_) | refine TX.raw ?_) | refine Fin3.of Zc (by repeat' (first | exact True.intro | exact rfl | refine And.intro ?_ ?_)) ?_ ?_ | (refine AllO.pass ?_; first | exact AllO.nil | (refine AllO.cons (One.ev hA tabOk ?_) ?_ <;> (first | refine AllO.pass ?_ | ((conv => lhs; cbv); done))) | (refine AllO.cons (One.skipB ?_) ?_ <;> (first | refine AllO.pass ?_ | ((conv => lhs; cbv); done))) | refine AllO.consX ZX rfl rfl ?_) | refine Thn.exit ?_ | refine Blk.here ?_ | refine Blk.other (by decide) ?_ | refine ⟨.inl rfl, _, RetOk.ev tabOk Zc, ?_⟩ | fail)
        all_goals try (exfalso; omega)
        all_goals
          refine ⟨j + 1, ?_, ?_, rfl, rfl, ?_, Zk⟩
          · omega
          · omega
          · (repeat' (first | exact subE.nil | refine subE.cons rfl ?_ | refine subE.int rfl ?_ ?_ | refine subE.bool rfl ?_ ?_ | refine subE.str rfl ?_ ?_ | refine subE.sl rfl ?_ ?_))
            · exact Zd
            · rw [hs]
              simp only [hid_eq hA, rhid hA, cN, Int.toNat_natCast, ht]
              try (by_cases he : L.getD j default = t <;> simp [hA, real, he])
    · have hmf : memT L t j = true := by unfold memT; rw [List.take_of_length_le (by omega)]; exact decide_eq_true hmem
      rw [hmf, hid_eq hA (α := Bool)]
      try first | refine AOLg.of [] ?_ | refine QSg.of [] ?_
      repeat' (first | (refine AWp.pass ?_; first | refine AWp.seq ?_ | refine AWp.block ?_ | refine AWp.skip ?_ | refine AWp.regG [] Zc ?_ | refine AWp.cond_t rfl ?_ | refine AWp.cond_f rfl ?_ | (refine AWp.cond rfl ?_ ?_ <;> intro hc <;> (try rw [hc]) <;> ((try simp only [zn] at hc) <;> (try simp (disch := omega) only [zz hA, zb, zy, reduceCtorEq, Bool.false_eq_true, Int.reduceLT, Int.reduceLE, Int.reduceNeg] at hc) <;> (try simp only [zw] at hc)) <;> (try (exfalso; omega))) | refine AWp.exit ?_ | refine AWp.ret ⟨.inr rfl, _, RetOk.ev tabOk Zc, ?_⟩ | refine AWp.drawVG [] rfl (by decide +kernel) Zc ?_) | (refine AOLg.pass ?_; refine AOLg.nx hA tabOk Zc ?_; first | refine NX.done ?_ | refine NX.gt ?_ | refine NX.gf ?_ | (refine NX.gs ?_ ?_ <;> intro hc <;> rw [hc] <;> ((try simp only [zn] at hc) <;> (try simp (disch := omega) only [zz hA, zb, zy, reduceCtorEq, Bool.false_eq_true, Int.reduceLT, Int.reduceLE, Int.reduceNeg] at hc) <;> (try simp only [zw] at hc)) <;> (try (exfalso; omega))) | refine NX.k 1 (NX.one Z1 ?_) | refine NX.k 4 (NX.one Z4 ?_) | refine NX.k 7 (NX.one Z7 ?_) | refine NX.k 8 (NX.one Z8 ?_) | refine NX.k 9 (NX.one Z9 ?_) | refine NX.k 10 (NX.one Z10 ?_) | refine NX.k 14 (NX.one Z14 ?_) | refine NX.k 15 (NX.one Z15 ?_) | refine NX.k 17 (NX.one Z17 ?_) | refine NX.k 18 (NX.one Z18 ?_) | refine NX.raw ?_) | (refine TRg.pass ?_; refine TRg.nx hA tabOk Zc ?_; first | refine TX.done ?_ | refine TX.gt ?_ | refine TX.gf ?_ | (refine TX.gs ?_ ?_ <;> intro hc <;> rw [hc] <;> ((try simp only [zn] at hc) <;> (try simp (disch := omega) only [zz hA, zb, zy, reduceCtorEq, Bool.false_eq_true, Int.reduceLT, Int.reduceLE, Int.reduceNeg] at hc) <;> (try simp only [zw] at hc)) <;> (try (exfalso; omega))) | refine TX.k 1 (TX.one Z1 ?_) | refine TX.k 4 (TX.one Z4 ?_) | refine TX.k 7 (TX.one Z7 ?_) | refine TX.k 8 (TX.one Z8 ?_) | refine TX.k 9 (TX.one Z9 ?_) | refine TX.k 10 (TX.one Z10 ?_) | refine TX.k 14 (TX.one Z14 ?_) | refine TX.k 15 (TX.one Z15 ?_) | refine TX.k 17 (TX.one Z17 ?_) | refine TX.k 18 (TX.one Z18 ?_) | refine TX.raw ?_) | refine Fin3.of Zc (by repeat' (first | exact True.intro | exact rfl | refine And.intro ?_ ?_)) ?_ ?_ | (refine AllO.pass ?_; first | exact AllO.nil | (refine AllO.cons (One.ev hA tabOk ?_) ?_ <;> (first | refine AllO.pass ?_ | ((conv => lhs; cbv); done))) | (refine AllO.cons (One.skipB ?_) ?_ <;> (first | refine AllO.pass ?_ | ((conv => lhs; cbv); done))) | refine AllO.consX ZX rfl rfl ?_) | refine Thn.exit ?_ | refine Blk.here ?_ | refine Blk.other (by decide) ?_ | refine ⟨.inl rfl, _, RetOk.ev tabOk Zc, ?_⟩ | fail)
      all_goals try (exfalso; omega)
      refine AWp.loopU (fun j : Nat => [(17, .ic (.lit (.int .i64 (hid A (cN j))))), (15, .ic (.lit (.bool true)))]) (fun _ => _) (fun j => k - j) (fun j => j ≤ k) 0 (by conv => lhs; cbv) (Nat.zero_le _) (by ((repeat' (first | exact subE.nil | refine subE.cons rfl ?_ | refine subE.int rfl ?_ ?_ | refine subE.bool rfl ?_ ?_ | refine subE.str rfl ?_ ?_ | refine subE.sl rfl ?_ ?_))) <;> simp [hA, real, hid, cN]) rfl ?_
      intro j hj
      by_cases hjl : j < k
      · have hne := hnj j hjl
        try first | refine AOLg.of [] ?_ | refine QSg.of [] ?_
        repeat' (first | (refine AWp.pass ?_; first | refine AWp.seq ?_ | refine AWp.block ?_ | refine AWp.skip ?_ | refine AWp.regG [] Zc ?_ | refine AWp.cond_t rfl ?_ | refine AWp.cond_f rfl ?_ | (refine AWp.cond rfl ?_ ?_ <;> intro hc <;> (try rw [hc]) <;> ((try simp only [zn] at hc) <;> (try simp (disch := omega) only [zz hA, zb, zy, reduceCtorEq, Bool.false_eq_true, Int.reduceLT, Int.reduceLE, Int.reduceNeg] at hc) <;> (try simp only [zw] at hc)) <;> (try (exfalso; omega))) | refine AWp.exit ?_ | refine AWp.ret ⟨.inr rfl, _, RetOk.ev tabOk Zc, ?_⟩ | refine AWp.drawVG [] rfl (by decide +kernel) Zc ?_) | (refine AOLg.pass ?_; refine AOLg.nx hA tabOk Zc ?_; first | refine NX.done ?_ | refine NX.gt ?_ | refine NX.gf ?_ | (refine NX.gs ?_ ?_ <;> intro hc <;> rw [hc] <;> ((try simp only [zn] at hc) <;> (try simp (disch := omega) only [zz hA, zb, zy, reduceCtorEq, Bool.false_eq_true, Int.reduceLT, Int.reduceLE, Int.reduceNeg] at hc) <;> (try simp only [zw] at hc)) <;> (try (exfalso; omega))) | refine NX.k 1 (NX.one Z1 ?_) | refine NX.k 4 (NX.one Z4 ?_) | refine NX.k 7 (NX.one Z7 ?_) | refine NX.k 8 (NX.one Z8 ?_) | refine NX.k 9 (NX.one Z9 ?_) | refine NX.k 10 (NX.one Z10 ?_) | refine NX.k 14 (NX.one Z14 ?_) | refine NX.k 15 (NX.one Z15 ?_) | refine NX.k 17 (NX.one Z17 ?_) | refine NX.k 18 (NX.one Z18 ?_) | refine NX.raw ?_) | (refine TRg.pass ?_; refine TRg.nx hA tabOk Zc ?_; first | refine TX.done ?_ | refine TX.gt ?_ | refine TX.gf ?_ | (refine TX.gs ?_ ?_ <;> intro hc <;> rw [hc] <;> ((try simp only [zn] at hc) <;> (try simp (disch := omega) only [zz hA, zb, zy, reduceCtorEq, Bool.false_eq_true, Int.reduceLT, Int.reduceLE, Int.reduceNeg] at hc) <;> (try simp only [zw] at hc)) <;> (try (exfalso; omega))) | refine TX.k 1 (TX.one Z1 ?_) | refine TX.k 4 (TX.one Z4 ?_) | refine TX.k 7 (TX.one Z7 ?_) | refine TX.k 8 (TX.one Z8 ?_) | refine TX.k 9 (TX.one Z9 ?_) | refine TX.k 10 (TX.one Z10 ?_) | refine TX.k 14 (TX.one Z14 ?_) | refine TX.k 15 (TX.one Z15 ?_) | refine TX.k 17 (TX.one Z17 ?_) | refine TX.k 18 (TX.one Z18 ?_) | refine TX.raw ?_) | refine Fin3.of Zc (by repeat' (first | exact True.intro | exact rfl | refine And.intro ?_ ?_)) ?_ ?_ | (refine AllO.pass ?_; first | exact AllO.nil | (refine AllO.cons (One.ev hA tabOk ?_) ?_ <;> (first | refine AllO.pass ?_ | ((conv => lhs; cbv); done))) | (refine AllO.cons (One.skipB ?_) ?_ <;> (first | refine AllO.pass ?_ | ((conv => lhs; cbv); done))) | refine AllO.consX ZX rfl rfl ?_) | refine Thn.exit ?_ | refine Blk.here ?_ | refine Blk.other (by decide) ?_ | refine ⟨.inl rfl, _, RetOk.ev tabOk Zc, ?_⟩ | fail)
        all_goals try (exfalso; omega)
        all_goals
          refine ⟨j + 1, ?_, ?_, rfl, rfl, ?_, Zk⟩
          · omega
          · omega
          · (repeat' (first | exact subE.nil | refine subE.cons rfl ?_ | refine subE.int rfl ?_ ?_ | refine subE.bool rfl ?_ ?_ | refine subE.str rfl ?_ ?_ | refine subE.sl rfl ?_ ?_))
            · exact Zd
            · simp only [hid_eq hA, rhid hA, cN, Int.toNat_natCast, ht]
              simp [hA, real]
              exact hne
      · try first | refine AOLg.of [] ?_ | refine QSg.of [] ?_
        repeat' (first | (refine AWp.pass ?_; first | refine AWp.seq ?_ | refine AWp.block ?_ | refine AWp.skip ?_ | refine AWp.regG [] Zc ?_ | refine AWp.cond_t rfl ?_ | refine AWp.cond_f rfl ?_ | (refine AWp.cond rfl ?_ ?_ <;> intro hc <;> (try rw [hc]) <;> ((try simp only [zn] at hc) <;> (try simp (disch := omega) only [zz hA, zb, zy, reduceCtorEq, Bool.false_eq_true, Int.reduceLT, Int.reduceLE, Int.reduceNeg] at hc) <;> (try simp only [zw] at hc)) <;> (try (exfalso; omega))) | refine AWp.exit ?_ | refine AWp.ret ⟨.inr rfl, _, RetOk.ev tabOk Zc, ?_⟩ | refine AWp.drawVG [] rfl (by decide +kernel) Zc ?_) | (refine AOLg.pass ?_; refine AOLg.nx hA tabOk Zc ?_; first | refine NX.done ?_ | refine NX.gt ?_ | refine NX.gf ?_ | (refine NX.gs ?_ ?_ <;> intro hc <;> rw [hc] <;> ((try simp only [zn] at hc) <;> (try simp (disch := omega) only [zz hA, zb, zy, reduceCtorEq, Bool.false_eq_true, Int.reduceLT, Int.reduceLE, Int.reduceNeg] at hc) <;> (try simp only [zw] at hc)) <;> (try (exfalso; omega))) | refine NX.k 1 (NX.one Z1 ?_) | refine NX.k 4 (NX.one Z4 ?_) | refine NX.k 7 (NX.one Z7 ?_) | refine NX.k 8 (NX.one Z8 ?_) | refine NX.k 9 (NX.one Z9 ?_) | refine NX.k 10 (NX.one Z10 ?_) | refine NX.k 14 (NX.one Z14 ?_) | refine NX.k 15 (NX.one Z15 ?_) | refine NX.k 17 (NX.one Z17 ?_) | refine NX.k 18 (NX.one Z18 ?_) | refine NX.raw ?_) | (refine TRg.pass ?_; refine TRg.nx hA tabOk Zc ?_; first | refine TX.done ?_ | refine TX.gt ?_ | refine TX.gf ?_ | (refine TX.gs ?_ ?_ <;> intro hc <;> rw [hc] <;> ((try simp only [zn] at hc) <;> (try simp (disch := omega) only [zz hA, zb, zy, reduceCtorEq, Bool.false_eq_true, Int.reduceLT, Int.reduceLE, Int.reduceNeg] at hc) <;> (try simp only [zw] at hc)) <;> (try (exfalso; omega))) | refine TX.k 1 (TX.one Z1 ?_) | refine TX.k 4 (TX.one Z4 ?_) | refine TX.k 7 (TX.one Z7 ?_) | refine TX.k 8 (TX.one Z8 ?_) | refine TX.k 9 (TX.one Z9 ?_) | refine TX.k 10 (TX.one Z10 ?_) | refine TX.k 14 (TX.one Z14 ?_) | refine TX.k 15 (TX.one Z15 ?_) | refine TX.k 17 (TX.one Z17 ?_) | refine TX.k 18 (TX.one Z18 ?_) | refine TX.raw ?_) | refine Fin3.of Zc (by repeat' (first | exact True.intro | exact rfl | refine And.intro ?_ ?_)) ?_ ?_ | (refine AllO.pass ?_; first | exact AllO.nil | (refine AllO.cons (One.ev hA tabOk ?_) ?_ <;> (first | refine AllO.pass ?_ | ((conv => lhs; cbv); done))) | (refine AllO.cons (One.skipB ?_) ?_ <;> (first | refine AllO.pass ?_ | ((conv => lhs; cbv); done))) | refine AllO.consX ZX rfl rfl ?_) | refine Thn.exit ?_ | refine Blk.here ?_ | refine Blk.other (by decide) ?_ | refine ⟨.inl rfl, _, RetOk.ev tabOk Zc, ?_⟩ | fail)
        all_goals try (exfalso; omega)
        all_goals (refine ⟨k + 1, ?_, ?_, rfl, rfl, ?_, Zk⟩ <;> first | omega | (((repeat' (first | exact subE.nil | refine subE.cons rfl ?_ | refine subE.int rfl ?_ ?_ | refine subE.bool rfl ?_ ?_ | refine subE.str rfl ?_ ?_ | refine subE.sl rfl ?_ ?_))) <;> exact Zd))
  · clear hn hnl hst hne
    try first | refine AOLg.of [] ?_ | refine QSg.of [] ?_
    repeat' (first | (refine AWp.pass ?_; first | refine AWp.seq ?_ | refine AWp.block ?_ | refine AWp.skip ?_ | refine AWp.regG [] Zc ?_ | refine AWp.cond_t rfl ?_ | refine AWp.cond_f rfl ?_ | (refine AWp.cond rfl ?_ ?_ <;> intro hc <;> (try rw [hc]) <;> ((try simp only [zn] at hc) <;> (try simp (disch := omega) only [zz hA, zb, zy, reduceCtorEq, Bool.false_eq_true, Int.reduceLT, Int.reduceLE, Int.reduceNeg] at hc) <;> (try simp only [zw] at hc)) <;> (try (exfalso; omega))) | refine AWp.exit ?_ | refine AWp.ret ⟨.inr rfl, _, RetOk.ev tabOk Zc, ?_⟩ | refine AWp.drawVG [] rfl (by decide +kernel) Zc ?_) | (refine AOLg.pass ?_; refine AOLg.nx hA tabOk Zc ?_; first | refine NX.done ?_ | refine NX.gt ?_ | refine NX.gf ?_ | (refine NX.gs ?_ ?_ <;> intro hc <;> rw [hc] <;> ((try simp only [zn] at hc) <;> (try simp (disch := omega) only [zz hA, zb, zy, reduceCtorEq, Bool.false_eq_true, Int.reduceLT, Int.reduceLE, Int.reduceNeg] at hc) <;> (try simp only [zw] at hc)) <;> (try (exfalso; omega))) | refine NX.k 1 (NX.one Z1 ?_) | refine NX.k 4 (NX.one Z4 ?_) | refine NX.k 7 (NX.one Z7 ?_) | refine NX.k 8 (NX.one Z8 ?_) | refine NX.k 9 (NX.one Z9 ?_) | refine NX.k 10 (NX.one Z10 ?_) | refine NX.k 14 (NX.one Z14 ?_) | refine NX.k 15 (NX.one Z15 ?_) | refine NX.k 17 (NX.one Z17 ?_) | refine NX.k 18 (NX.one Z18 ?_) | refine NX.raw ?_) | (refine TRg.pass ?_; refine TRg.nx hA tabOk Zc ?_; first | refine TX.done ?_ | refine TX.gt ?_ | refine TX.gf ?_ | (refine TX.gs ?_ ?_ <;> intro hc <;> rw [hc] <;> ((try simp only [zn] at hc) <;> (try simp (disch := omega) only [zz hA, zb, zy, reduceCtorEq, Bool.false_eq_true, Int.reduceLT, Int.reduceLE, Int.reduceNeg] at hc) <;> (try simp only [zw] at hc)) <;> (try (exfalso; omega))) | refine TX.k 1 (TX.one Z1 ?_) | refine TX.k 4 (TX.one Z4 ?_) | refine TX.k 7 (TX.one Z7 ?_) | refine TX.k 8 (TX.one Z8 ?_) | refine TX.k 9 (TX.one Z9 ?_) | refine TX.k 10 (TX.one Z10 ?_) | refine TX.k 14 (TX.one Z14 ?_) | refine TX.k 15 (TX.one Z15 ?_) | refine TX.k 17 (TX.one Z17 ?_) | refine TX.k 18 (TX.one Z18 ?_) | refine TX.raw ?_) | refine Fin3.of Zc (by repeat' (first | exact True.intro | exact rfl | refine And.intro ?_ ?_)) ?_ ?_ | (refine AllO.pass ?_; first | exact AllO.nil | (refine AllO.cons (One.ev hA tabOk ?_) ?_ <;> (first | refine AllO.pass ?_ | ((conv => lhs; cbv); done))) | (refine AllO.cons (One.skipB ?_) ?_ <;> (first | refine AllO.pass ?_ | ((conv => lhs; cbv); done))) | refine AllO.consX ZX rfl rfl ?_) | refine Thn.exit ?_ | refine Blk.here ?_ | refine Blk.other (by decide) ?_ | refine ⟨.inl rfl, _, RetOk.ev tabOk Zc, ?_⟩ | fail)
    all_goals exact Ze
theorem cways_law (l : List Sg) (hl : FitG l) (K : List (List Int)) (S : List Int) (hk : FitsK K S) (R V : List Int) (N : List (Int × Int)) (M : List Int) (P Q : List (List Int)) (hg : FitGr R V N M P Q) (x y depth : Int) (hd : 0 ≤ depth ∧ depth ≤ 255) :
    PureCalls Try.prog 5 [.agg [.sl 2 false (hid A (List.map (encG A) l)), .sl 1 false (hid A (List.map (encK A) K)), .sl 1 false (hid A (List.map encI S)), .sl 1 false (hid A (List.map encI R)), .sl 1 false (hid A (List.map encI V)), .sl 2 false (hid A (List.map encN N)), .sl 1 false (hid A (List.map encI M)), .sl 1 false (hid A (List.map (encK A) P)), .sl 1 false (hid A (List.map (encK A) Q)), .lit (.int .i64 x), .lit (.int .i64 y), .lit (.int .u8 depth)]] (BP true) := by
  have hsh := shown13_c hA
  obtain ⟨b, hof, hb⟩ := of13_c hA l hl K S hk R V N M P Q hg
  cases b with
  | false =>
    refine PureCalls.of Try.func5 rfl (by kernel_rfl) rfl ?_
    try first | refine AOLg.of [] ?_ | refine QSg.of [] ?_
    repeat' (first | (refine AWp.pass ?_; first | refine AWp.seq ?_ | refine AWp.block ?_ | refine AWp.skip ?_ | refine AWp.regG [] Zc ?_ | refine AWp.cond_t rfl ?_ | refine AWp.cond_f rfl ?_ | (refine AWp.cond rfl ?_ ?_ <;> intro hc <;> (try rw [hc]) <;> ((try simp only [zn] at hc) <;> (try simp (disch := omega) only [zz hA, zb, zy, reduceCtorEq, Bool.false_eq_true, Int.reduceLT, Int.reduceLE, Int.reduceNeg] at hc) <;> (try simp only [zw] at hc)) <;> (try (exfalso; omega))) | refine AWp.exit ?_ | refine AWp.ret ⟨.inr rfl, _, RetOk.ev tabOk Zc, ?_⟩ | refine AWp.drawVG [] rfl (by decide +kernel) Zc ?_) | (refine AOLg.pass ?_; refine AOLg.nx hA tabOk Zc ?_; first | refine NX.done ?_ | refine NX.gt ?_ | refine NX.gf ?_ | (refine NX.gs ?_ ?_ <;> intro hc <;> rw [hc] <;> ((try simp only [zn] at hc) <;> (try simp (disch := omega) only [zz hA, zb, zy, reduceCtorEq, Bool.false_eq_true, Int.reduceLT, Int.reduceLE, Int.reduceNeg] at hc) <;> (try simp only [zw] at hc)) <;> (try (exfalso; omega))) | (refine NX.kC ?_; first | (with_reducible refine NX.call (hsh) ?_) | (with_reducible refine NX.call (hof) ?_) | ((first | refine NX.call (hsh) ?_ | refine NX.call (hof) ?_)) | fail) | (refine NX.kO ?_; (first | refine NX.callO (hsh) (by simp [allEq]) rfl ?_ | refine NX.callO (hof) (by simp [allEq]) rfl ?_)) | refine NX.k 1 (NX.one Z1 ?_) | refine NX.k 4 (NX.one Z4 ?_) | refine NX.k 7 (NX.one Z7 ?_) | refine NX.k 8 (NX.one Z8 ?_) | refine NX.k 9 (NX.one Z9 ?_) | refine NX.k 10 (NX.one Z10 ?_) | refine NX.k 14 (NX.one Z14 ?_) | refine NX.k 15 (NX.one Z15 ?_) | refine NX.k 17 (NX.one Z17 ?_) | refine NX.k 18 (NX.one Z18 ?_) | refine NX.raw ?_) | (refine TRg.pass ?_; refine TRg.nx hA tabOk Zc ?_; first | refine TX.done ?_ | refine TX.gt ?_ | refine TX.gf ?_ | (refine TX.gs ?_ ?_ <;> intro hc <;> rw [hc] <;> ((try simp only [zn] at hc) <;> (try simp (disch := omega) only [zz hA, zb, zy, reduceCtorEq, Bool.false_eq_true, Int.reduceLT, Int.reduceLE, Int.reduceNeg] at hc) <;> (try simp only [zw] at hc)) <;> (try (exfalso; omega))) | (refine TX.kC ?_; first | (with_reducible refine TX.call (hsh) ?_) | (with_reducible refine TX.call (hof) ?_) | ((first | refine TX.call (hsh) ?_ | refine TX.call (hof) ?_)) | fail) | (refine TX.kO ?_; (first | refine TX.callO (hsh) (by simp [allEq]) rfl ?_ | refine TX.callO (hof) (by simp [allEq]) rfl ?_)) | refine TX.k 1 (TX.one Z1 ?_) | refine TX.k 4 (TX.one Z4 ?_) | refine TX.k 7 (TX.one Z7 ?_) | refine TX.k 8 (TX.one Z8 ?_) | refine TX.k 9 (TX.one Z9 ?_) | refine TX.k 10 (TX.one Z10 ?_) | refine TX.k 14 (TX.one Z14 ?_) | refine TX.k 15 (TX.one Z15 ?_) | refine TX.k 17 (TX.one Z17 ?_) | refine TX.k 18 (TX.one Z18 ?_) | refine TX.raw ?_) | refine Fin3.of Zc (by repeat' (first | exact True.intro | exact rfl | refine And.intro ?_ ?_)) ?_ ?_ | (refine AllO.pass ?_; first | exact AllO.nil | (refine AllO.cons (One.ev hA tabOk ?_) ?_ <;> (first | refine AllO.pass ?_ | ((conv => lhs; cbv); done))) | (refine AllO.cons (One.skipB ?_) ?_ <;> (first | refine AllO.pass ?_ | ((conv => lhs; cbv); done))) | ((with_reducible refine AllO.call Zc (hsh) ?_ ?_) <;> (first | refine AllO.pass ?_ | exact rfl | exact Zd)) | ((with_reducible refine AllO.call Zc (hof) ?_ ?_) <;> (first | refine AllO.pass ?_ | exact rfl | exact Zd)) | refine AllO.consX ZX rfl rfl ?_) | refine Thn.exit ?_ | refine Blk.here ?_ | refine Blk.other (by decide) ?_ | refine ⟨.inl rfl, _, RetOk.ev tabOk Zc, ?_⟩ | fail)
    all_goals exact Ze
  | true =>
    by_cases hxy : (0 ≤ x ∧ x < V.length) ∧ (0 ≤ y ∧ y < V.length)
    · obtain ⟨ho, h40⟩ := hb rfl
      obtain ⟨b1, b2, b3, b4, b5, b6, b7, b8⟩ := ho.len
      have hst := ho.st
      have hru := ho.ru
      clear hb ho
      have hth := there2_c hA R V N M P Q x y true ((there_two V.length x y).2 hxy).symm
      obtain ⟨⟨x0, x1⟩, ⟨y0, y1⟩⟩ := hxy
      have fx := refFind_c hA V N M R hru x x0 x1 (by omega)
      have fy := refFind_c hA V N M R hru y y0 y1 (by omega)
      have rx := find_range hru x0 x1
      have ry := find_range hru y0 y1
      have hpc := fun d (d0 : 0 ≤ d) (d1 : d ≤ 60) => path_c hA K S hst R V N M P Q hru (by omega) b5 b6 (fun z hz => by have := b7 z hz; omega) (fun z hz => by have := b8 z hz; omega) x y x0 x1 y0 y1 d (by omega) (by omega)
      have hnc := fun v v0 v1 => next_c hA K S hst R V N M P Q hru (by omega) b5 b6 (fun z hz => by have := b7 z hz; omega) (fun z hz => by have := b8 z hz; omega) v v0 v1
      have hnl : ∀ v, (nxG K V P Q v).length ≤ V.length := fun v => nodup_len V.length _ ((comp_lt (sortZ_le _)).imp fun h => by omega) (fun w hw => next_range hst.ok hru P Q _ w hw)
      have hkr : ∀ k, ∀ w ∈ keyP (nxG K V P Q) (findU V x) k, 0 ≤ w ∧ w < (V.length : Int) := fun k w hw => (levP_ok (nx := nxG K V P Q) (fun v _ _ w hw => next_range hst.ok hru P Q _ w hw) rx k).f.rng w hw
      by_cases hr : ∃ k, findU V y ∈ keyP (nxG K V P Q) (findU V x) k
      · obtain ⟨k, hk⟩ := hr
        obtain ⟨j, _, hj⟩ := key_lev _ _ k hk
        have e1 := path_way _ _ hj (depth % 50)
        have e2 := path_way _ _ hj (depth % 50 + 1)
        by_cases hjd : j ≤ (depth % 50).toNat
        · rw [if_pos hjd] at e1
          rw [if_pos (by omega)] at e2
          have wl := way_len (nxG K V P Q) (findU V x) j (findU V y)
          have w0 := way_zero _ _ j hj
          have wk := way_last (nxG K V P Q) (findU V x) j (findU V y)
          have ws := way_step _ _ j hj
          have wn := way_ne _ _ j hj
          have wm := way_lev _ _ j hj
          generalize wayP (nxG K V P Q) (findU V x) j (findU V y) = W at *
          refine cways_some hA l K S R V N M P Q x y depth (findU V x) (findU V y) hd W (by omega) (by omega) (nxG K V P Q) hof hth
            (fun z hz => by subst hz; have := hpc (depth % 50) (by omega) (by omega); rwa [e1] at this)
            (fun z hz => by subst hz; have := hpc (depth % 50 + 1) (by omega) (by omega); rwa [e2] at this)
            fx fy (ints_same hA W W rfl (by omega)) w0 (by rw [wl]; exact wk)
            (fun i z hi hz => by subst hz; have h := hkr i _ (lev_key _ _ i (wm i (by omega))); exact hnc _ h.1 h.2)
            (fun i hi => by have := hnl (W.getD i default); omega)
            (fun i hi => ws i (by omega)) (fun i k hik hk => wn i k hik (by omega))
        · rw [if_neg hjd] at e1
          refine cways_none hA l K S R V N M P Q x y depth hd (pathM (nxG K V P Q) (findU V x) (findU V y) (depth % 50 + 1)) ?_ hof hth
            (fun z hz => by subst hz; have := hpc (depth % 50) (by omega) (by omega); rwa [e1] at this)
            (fun z hz => by subst hz; exact hpc (depth % 50 + 1) (by omega) (by omega)) ?_
          · rw [e2]
            split
            · rw [way_len]; omega
            · simp
          · rw [e2]
            split
            · rw [way_len]; omega
            · simp
      · have e1 := path_none (nxG K V P Q) (findU V x) (y := findU V y) (fun k hk => hr ⟨k, hk⟩)
        refine cways_none hA l K S R V N M P Q x y depth hd [] (by simp) hof hth
          (fun z hz => by subst hz; have := hpc (depth % 50) (by omega) (by omega); rwa [e1] at this)
          (fun z hz => by subst hz; have := hpc (depth % 50 + 1) (by omega) (by omega); rwa [e1] at this) (.inl rfl)
    · have hth := there2_c hA R V N M P Q x y false (by
        cases h : thereB V.length [x, y] with
        | false => rfl
        | true => exact absurd ((there_two V.length x y).1 h) hxy)
      refine PureCalls.of Try.func5 rfl (by kernel_rfl) rfl ?_
      try first | refine AOLg.of [] ?_ | refine QSg.of [] ?_
      repeat' (first | (refine AWp.pass ?_; first | refine AWp.seq ?_ | refine AWp.block ?_ | refine AWp.skip ?_ | refine AWp.regG [] Zc ?_ | refine AWp.cond_t rfl ?_ | refine AWp.cond_f rfl ?_ | (refine AWp.cond rfl ?_ ?_ <;> intro hc <;> (try rw [hc]) <;> ((try simp only [zn] at hc) <;> (try simp (disch := omega) only [zz hA, zb, zy, reduceCtorEq, Bool.false_eq_true, Int.reduceLT, Int.reduceLE, Int.reduceNeg] at hc) <;> (try simp only [zw] at hc)) <;> (try (exfalso; omega))) | refine AWp.exit ?_ | refine AWp.ret ⟨.inr rfl, _, RetOk.ev tabOk Zc, ?_⟩ | refine AWp.drawVG [] rfl (by decide +kernel) Zc ?_) | (refine AOLg.pass ?_; refine AOLg.nx hA tabOk Zc ?_; first | refine NX.done ?_ | refine NX.gt ?_ | refine NX.gf ?_ | (refine NX.gs ?_ ?_ <;> intro hc <;> rw [hc] <;> ((try simp only [zn] at hc) <;> (try simp (disch := omega) only [zz hA, zb, zy, reduceCtorEq, Bool.false_eq_true, Int.reduceLT, Int.reduceLE, Int.reduceNeg] at hc) <;> (try simp only [zw] at hc)) <;> (try (exfalso; omega))) | (refine NX.kC ?_; first | (with_reducible refine NX.call (hsh) ?_) | (with_reducible refine NX.call (hof) ?_) | (with_reducible refine NX.call (hth) ?_) | ((first | refine NX.call (hsh) ?_ | refine NX.call (hof) ?_ | refine NX.call (hth) ?_)) | fail) | (refine NX.kO ?_; (first | refine NX.callO (hsh) (by simp [allEq]) rfl ?_ | refine NX.callO (hof) (by simp [allEq]) rfl ?_ | refine NX.callO (hth) (by simp [allEq]) rfl ?_)) | refine NX.k 1 (NX.one Z1 ?_) | refine NX.k 4 (NX.one Z4 ?_) | refine NX.k 7 (NX.one Z7 ?_) | refine NX.k 8 (NX.one Z8 ?_) | refine NX.k 9 (NX.one Z9 ?_) | refine NX.k 10 (NX.one Z10 ?_) | refine NX.k 14 (NX.one Z14 ?_) | refine NX.k 15 (NX.one Z15 ?_) | refine NX.k 17 (NX.one Z17 ?_) | refine NX.k 18 (NX.one Z18 ?_) | refine NX.raw ?_) | (refine TRg.pass ?_; refine TRg.nx hA tabOk Zc ?_; first | refine TX.done ?_ | refine TX.gt ?_ | refine TX.gf ?_ | (refine TX.gs ?_ ?_ <;> intro hc <;> rw [hc] <;> ((try simp only [zn] at hc) <;> (try simp (disch := omega) only [zz hA, zb, zy, reduceCtorEq, Bool.false_eq_true, Int.reduceLT, Int.reduceLE, Int.reduceNeg] at hc) <;> (try simp only [zw] at hc)) <;> (try (exfalso; omega))) | (refine TX.kC ?_; first | (with_reducible refine TX.call (hsh) ?_) | (with_reducible refine TX.call (hof) ?_) | (with_reducible refine TX.call (hth) ?_) | ((first | refine TX.call (hsh) ?_ | refine TX.call (hof) ?_ | refine TX.call (hth) ?_)) | fail) | (refine TX.kO ?_; (first | refine TX.callO (hsh) (by simp [allEq]) rfl ?_ | refine TX.callO (hof) (by simp [allEq]) rfl ?_ | refine TX.callO (hth) (by simp [allEq]) rfl ?_)) | refine TX.k 1 (TX.one Z1 ?_) | refine TX.k 4 (TX.one Z4 ?_) | refine TX.k 7 (TX.one Z7 ?_) | refine TX.k 8 (TX.one Z8 ?_) | refine TX.k 9 (TX.one Z9 ?_) | refine TX.k 10 (TX.one Z10 ?_) | refine TX.k 14 (TX.one Z14 ?_) | refine TX.k 15 (TX.one Z15 ?_) | refine TX.k 17 (TX.one Z17 ?_) | refine TX.k 18 (TX.one Z18 ?_) | refine TX.raw ?_) | refine Fin3.of Zc (by repeat' (first | exact True.intro | exact rfl | refine And.intro ?_ ?_)) ?_ ?_ | (refine AllO.pass ?_; first | exact AllO.nil | (refine AllO.cons (One.ev hA tabOk ?_) ?_ <;> (first | refine AllO.pass ?_ | ((conv => lhs; cbv); done))) | (refine AllO.cons (One.skipB ?_) ?_ <;> (first | refine AllO.pass ?_ | ((conv => lhs; cbv); done))) | ((with_reducible refine AllO.call Zc (hsh) ?_ ?_) <;> (first | refine AllO.pass ?_ | exact rfl | exact Zd)) | ((with_reducible refine AllO.call Zc (hof) ?_ ?_) <;> (first | refine AllO.pass ?_ | exact rfl | exact Zd)) | ((with_reducible refine AllO.call Zc (hth) ?_ ?_) <;> (first | refine AllO.pass ?_ | exact rfl | exact Zd)) | refine AllO.consX ZX rfl rfl ?_) | refine Thn.exit ?_ | refine Blk.here ?_ | refine Blk.other (by decide) ?_ | refine ⟨.inl rfl, _, RetOk.ev tabOk Zc, ?_⟩ | fail)
      all_goals exact Ze
end Go.Proofs.Ytkkjlmcnfoncdaa.Aw

namespace Go.Proofs.Ytkkjlmcnfoncdaa.Aw
open Go Go.RowKit
set_option maxRecDepth 10000
attribute [local irreducible] AWp AOL QS One AOLg QSg NX QX TRg TX AllO Fin3
attribute [local irreducible] W.TRg W.TX W.AllO W.Fin3
abbrev gP2 (A : Ar) (P : List (List Int)) : PV := grP A [] [0, 1] [(-1, 0), (-1, 0)] [] P K2
variable {A : Ar} (hA : A = real)
include hA
end Go.Proofs.Ytkkjlmcnfoncdaa.Aw

namespace Go.Proofs.Ytkkjlmcnfoncdaa.Aw
open Go Go.RowKit
set_option maxRecDepth 10000
attribute [local irreducible] AWp AOL QS One AOLg QSg NX QX TRg TX AllO Fin3
attribute [local irreducible] W.TRg W.TX W.AllO W.Fin3
abbrev st3 (A : Ar) (f : AV) : List AObj := [.var true 26 [.ic (.sl 1 false (hid A (List.map (encK A) K4))), .ic (.sl 1 false (hid A (List.map encI (layM K4))))], .var true 31 [.ic (.sl 1 false (hid A (List.map encI []))), .ic (.sl 1 false (hid A (List.map encI [0, 1]))), .ic (.sl 2 false (hid A (List.map encN [(-1, 0), (-1, 0)]))), .ic (.sl 1 false (hid A (List.map encI []))), .ic (.sl 1 false (hid A (List.map (encK A) K2'))), .ic (.sl 1 false (hid A (List.map (encK A) K2)))], .var true 3 [.ic (.lit (.int .i64 1))], .var true 106 [f]]
variable {A : Ar} (hA : A = real)
include hA
end Go.Proofs.Ytkkjlmcnfoncdaa.Aw

namespace Go.Proofs.Ytkkjlmcnfoncdaa.Aw
open Go Go.RowKit
set_option maxRecDepth 10000
attribute [local irreducible] AWp AOL QS One AOLg QSg NX QX TRg TX AllO Fin3
variable {A : Ar} (hA : A = real)
include hA
end Go.Proofs.Ytkkjlmcnfoncdaa.Aw

namespace Go.Proofs.Ytkkjlmcnfoncdaa.Aw
open Go Go.RowKit
set_option maxRecDepth 10000
attribute [local irreducible] AWp AOL QS One AOLg QSg NX QX TRg TX AllO Fin3
variable {A : Ar} (hA : A = real)
include hA
end Go.Proofs.Ytkkjlmcnfoncdaa.Aw

namespace Go.Proofs.Ytkkjlmcnfoncdaa.Aw
open Go Go.RowKit
set_option maxRecDepth 10000
theorem decSgs {rows : List (List IC)} (h : ∀ r ∈ rows, Dec (.st [.str, .str]) r) : ∃ l : List Sg, rows = hid real (List.map (encG real) l) ∧ FitG l := by
  induction rows with
  | nil => exact ⟨[], rfl, by simp [FitG]⟩
  | cons r rs ih =>
    obtain ⟨l, hl, hb⟩ := ih fun x hx => h x (List.mem_cons_of_mem _ hx)
    obtain ⟨a1, b1, rfl, ⟨n, rfl, hn⟩, a2, b2, rfl, ⟨g, rfl, hg⟩, rfl⟩ := h r List.mem_cons_self
    refine ⟨(n, g) :: l, by rw [hl]; rfl, fun x hx => ?_⟩
    rcases List.mem_cons.1 hx with rfl | hx
    · exact ⟨by show n.size ≤ _; omega, by show g.size ≤ _; omega⟩
    · exact hb x hx
theorem decKeys2 {rows : List (List IC)} (h : ∀ r ∈ rows, Dec (.sl 8 (.int .i64)) r) : ∃ K : List (List Int), rows = hid real (List.map (encK real) K) ∧ ∀ x ∈ K, x.length ≤ 140737488351232 := by
  induction rows with
  | nil => exact ⟨[], rfl, by simp⟩
  | cons r rs ih =>
    obtain ⟨K, hK, hb⟩ := ih fun x hx => h x (List.mem_cons_of_mem _ hx)
    obtain ⟨q, e, h1, h2⟩ := h r List.mem_cons_self
    obtain ⟨l, rfl, _⟩ := decInts h1
    simp only [List.length_map] at h2
    refine ⟨l :: K, by rw [hK, e]; rfl, fun x hx => ?_⟩
    rcases List.mem_cons.1 hx with rfl | hx
    · omega
    · exact hb x hx
def shGraph : List Sh := [.sl 8 (.int .i64), .st shCells, .sl 24 (.sl 8 (.int .i64)), .sl 24 (.sl 8 (.int .i64))]
theorem decGraph {ics : List IC} (h : Decs shGraph ics) : ∃ (R V : List Int) (N : List (Int × Int)) (M : List Int) (P Q : List (List Int)), ics = [.sl 1 false (List.map encI R), .sl 1 false (List.map encI V), .sl 2 false (List.map encN N), .sl 1 false (List.map encI M), .sl 1 false (hid real (List.map (encK real) P)), .sl 1 false (hid real (List.map (encK real) Q))] ∧ FitGr R V N M P Q := by
  obtain ⟨a0, b0, rfl, ⟨r, rfl, h3, h4⟩, a1, b1, rfl, h1, a2, b2, rfl, ⟨r2, e2, g2, k2⟩, a3, b3, rfl, ⟨r3, e3, g3, k3⟩, rfl⟩ := h
  obtain ⟨c, rfl, hf⟩ := decCells h1
  obtain ⟨R, rfl, _⟩ := decInts h3
  obtain ⟨P, rfl, p2⟩ := decKeys2 g2
  obtain ⟨Q, rfl, q2⟩ := decKeys2 g3
  subst e2 e3
  have e1 : (List.map (encK real) P).length * 24 ≤ 140737488351232 := k2
  have e4 : (List.map (encK real) Q).length * 24 ≤ 140737488351232 := k3
  rw [List.length_map] at e1 e4
  simp only [List.length_map] at h4
  exact ⟨R, c.V, c.N, c.M, P, Q, rfl, ⟨by omega, hf.v, hf.n, hf.m, by omega, by omega, p2, q2⟩⟩
def shReps : List Sh := [.sl 32 (.st [.str, .str]), .st shKeyed, .st shGraph, .int .i64, .int .i64]
def shMore : List Sh := [.sl 32 (.st [.str, .str]), .st shKeyed, .st shGraph, .int .u8]
variable {A : Ar} (hA : A = real)
include hA
end Go.Proofs.Ytkkjlmcnfoncdaa.Aw

namespace Go.Proofs.Ytkkjlmcnfoncdaa.Aw
open Go Go.RowKit
set_option maxRecDepth 10000
def shWays : List Sh := [.sl 32 (.st [.str, .str]), .st shKeyed, .st shGraph, .int .i64, .int .i64, .int .u8]
theorem decWays {ics : List IC} (h : Decs shWays ics) : ∃ (l : List Sg) (K : List (List Int)) (S R V : List Int) (N : List (Int × Int)) (M : List Int) (P Q : List (List Int)) (x y z : Int), ics = [.sl 2 false (hid real (List.map (encG real) l)), .sl 1 false (hid real (List.map (encK real) K)), .sl 1 false (hid real (List.map encI S)), .sl 1 false (List.map encI R), .sl 1 false (List.map encI V), .sl 2 false (List.map encN N), .sl 1 false (List.map encI M), .sl 1 false (hid real (List.map (encK real) P)), .sl 1 false (hid real (List.map (encK real) Q)), I x, I y, .lit (.int .u8 z)] ∧ FitG l ∧ FitsK K S ∧ FitGr R V N M P Q ∧ (0 ≤ z ∧ z ≤ 255) := by
  obtain ⟨a0, b0, rfl, ⟨r, rfl, h0, _⟩, a1, b1, rfl, h1, a2, b2, rfl, h2, a3, b3, rfl, ⟨x, rfl, _⟩, a4, b4, rfl, ⟨y, rfl, _⟩, a5, b5, rfl, ⟨z, rfl, hz⟩, rfl⟩ := h
  obtain ⟨l, rfl, hl⟩ := decSgs h0
  obtain ⟨K, S, rfl, hf⟩ := decKeyed h1
  obtain ⟨R, V, N, M, P, Q, rfl, hg⟩ := decGraph h2
  refine ⟨l, K, S, R, V, N, M, P, Q, x, y, z, rfl, hl, hf, hg, ?_⟩
  simp only [Lit.wf, Bool.and_eq_true, decide_eq_true_eq] at hz
  exact hz
variable {A : Ar} (hA : A = real)
include hA
theorem cwaysL (l : List Sg) (hl : FitG l) (K : List (List Int)) (S : List Int) (hk : FitsK K S) (R V : List Int) (N : List (Int × Int)) (M : List Int) (P Q : List (List Int)) (hg : FitGr R V N M P Q) (x y z : Int) (hz : 0 ≤ z ∧ z ≤ 255) :
    PureCalls Try.prog 5 [.agg [.sl 2 false (hid A (List.map (encG A) l)), .sl 1 false (hid A (List.map (encK A) K)), .sl 1 false (hid A (List.map encI S)), .sl 1 false (List.map encI R), .sl 1 false (List.map encI V), .sl 2 false (List.map encN N), .sl 1 false (List.map encI M), .sl 1 false (hid A (List.map (encK A) P)), .sl 1 false (hid A (List.map (encK A) Q)), I x, I y, .lit (.int .u8 z)]] (BP true) := by
  have := cways_law hA l hl K S hk R V N M P Q hg x y z hz
  rwa [hid_eq hA (List.map encI R), hid_eq hA (List.map encI V), hid_eq hA (List.map encN N), hid_eq hA (List.map encI M)] at this
end Go.Proofs.Ytkkjlmcnfoncdaa.Aw
