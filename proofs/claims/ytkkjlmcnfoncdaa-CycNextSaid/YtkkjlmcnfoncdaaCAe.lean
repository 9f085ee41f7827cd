/- Texts of the proof, put together: the abstract walk, contracts of the functions that the statement reaches, plain laws, part 5 of 6. -/
import Derived.Test.YtkkjlmcnfoncdaaCAd
/- Contracts of the document's answer for package ifg: more variables; a place laid in a rising row. -/
set_option linter.unusedVariables false
set_option linter.unusedSimpArgs false
set_option linter.unusedSectionVars false
namespace Go.Proofs.Ytkkjlmcnfoncdaa.Aw
open Go Go.RowKit
set_option maxRecDepth 10000
attribute [local irreducible] AWp AOL QS One AOLg QSg NX QX TRg TX AllO Fin3
attribute [local irreducible] W.TRg W.TX W.AllO W.Fin3
/-- How many of a row's first ones are less. -/
def kM (l : List Int) (id : Int) : Nat := (l.takeWhile fun z => decide (z < id)).length
theorem kM_of : ∀ (l : List Int) (id : Int) (k : Nat), k ≤ l.length → (∀ j, j < k → l.getD j default < id) → (k = l.length ∨ ¬ l.getD k default < id) → kM l id = k
  | [], id, k, h, _, _ => by simp [kM] at *; omega
  | a :: r, id, 0, _, _, h => by
    have : ¬ a < id := by
      rcases h with h | h
      · simp at h
      · simpa using h
    simp [kM, List.takeWhile_cons, this]
  | a :: r, id, k + 1, h1, h2, h3 => by
    have h0 := h2 0 (by omega)
    simp only [List.getD_cons_zero] at h0
    have ih := kM_of r id k (by simpa using h1) (fun j hj => by simpa using h2 (j + 1) (by omega)) (by simpa using h3)
    unfold kM at ih ⊢
    simp [List.takeWhile_cons, h0, ih]
theorem kM_le (l : List Int) (id : Int) : kM l id ≤ l.length := by
  unfold kM
  exact (List.takeWhile_prefix _).length_le
/-- A place, laid in a rising row. -/
def layI (l : List Int) (id : Int) : List Int := if kM l id < l.length ∧ l.getD (kM l id) default = id then l else l.take (kM l id) ++ [id] ++ l.drop (kM l id)
def layB (l : List Int) (id : Int) : Bool := !decide (kM l id < l.length ∧ l.getD (kM l id) default = id)
theorem takeS (l : List Int) (k : Nat) (h : k < l.length) : l.take (k + 1) = l.take k ++ [l.getD k default] := by
  rw [List.take_add_one, List.getD_eq_getElem?_getD, List.getElem?_eq_getElem h]
  rfl
theorem rPV_cells {st : List AObj} {i j v u e e' sz sz' : Nat} {m m' : Bool} {xs ys : List (List IC)} {c : IC} (h2 : st[i]? = some (.row m v e sz xs)) (h3 : st[j]? = some (.row m' u e' sz' ys)) :
    rPV st (.agg [.own i v, .own j u, .ic c]) = some (.agg [.sl sz false xs, .sl sz' false ys, c]) := by
  simp [rPV, rPVs, rICs, rIC, toIC, h2, h3]
variable {A : Ar} (hA : A = real)
include hA
theorem refLay12_c (l : List Int) (id : Int) (hl : l.length ≤ 1000000) : PureCalls Try.prog 54 [intsP A l, IP id] (.tup [intsP A (layI l id), BP (hid A (layB l id))]) := by
  refine PureCalls.of Try.func54 rfl (by kernel_rfl) rfl ?_
  try first | refine AOLg.of [6] ?_ | refine QSg.of [6] ?_
  repeat' (first | (refine AWp.pass ?_; first | refine AWp.seq ?_ | refine AWp.block ?_ | refine AWp.skip ?_ | refine AWp.regG [6] Zc ?_ | refine AWp.cond_t rfl ?_ | refine AWp.cond_f rfl ?_ | (refine AWp.cond rfl ?_ ?_ <;> intro hc <;> (try rw [hc]) <;> ((try simp only [zn] at hc) <;> (try simp (disch := omega) only [zz hA, zb, zy, reduceCtorEq, Bool.false_eq_true, Int.reduceLT, Int.reduceLE, Int.reduceNeg] at hc) <;> (try simp only [zw] at hc)) <;> (try (exfalso; omega))) | refine AWp.exit ?_ | refine AWp.ret ⟨.inr rfl, _, RetOk.ev tabOk Zc, ?_⟩) | (refine AOLg.pass ?_; refine AOLg.nx hA tabOk Zc ?_; first | refine NX.done ?_ | refine NX.gt ?_ | refine NX.gf ?_ | (refine NX.gs ?_ ?_ <;> intro hc <;> rw [hc] <;> ((try simp only [zn] at hc) <;> (try simp (disch := omega) only [zz hA, zb, zy, reduceCtorEq, Bool.false_eq_true, Int.reduceLT, Int.reduceLE, Int.reduceNeg] at hc) <;> (try simp only [zw] at hc)) <;> (try (exfalso; omega))) | refine NX.k 1 (NX.one Z1 ?_) | refine NX.k 2 (NX.one Z2 ?_) | refine NX.k 7 (NX.one Z7 ?_) | refine NX.k 8 (NX.one Z8 ?_) | refine NX.k 10 (NX.one Z10 ?_) | refine NX.k 11 (NX.one Z11 ?_) | refine NX.k 14 (NX.one Z14 ?_) | refine NX.k 17 (NX.one Z17 ?_) | (refine NX.one (One.nilOwn tabOk 6 24 rfl rfl rfl) ?_) | refine NX.raw ?_) | refine Thn.exit ?_ | refine Blk.here ?_ | refine Blk.other (by decide) ?_ | refine ⟨.inl rfl, _, RetOk.ev tabOk Zc, ?_⟩ | fail)
  refine AWp.loopU (fun x : Nat × Nat => [(7, .ic (.lit (.int .i64 (hid A (cN x.1))))), (6, .own 0 x.2)]) (fun x => [.row true x.2 3 1 (hid A (List.map encI (l.take x.1)))]) (fun x => l.length - x.1) (fun x => x.1 ≤ l.length ∧ ∀ j, j < x.1 → l.getD j default < id) (0, 0) (by conv => lhs; cbv) ⟨Nat.zero_le _, by simp⟩ (by ((repeat' (first | exact subE.nil | refine subE.cons rfl ?_ | refine subE.int rfl ?_ ?_ | refine subE.bool rfl ?_ ?_ | refine subE.str rfl ?_ ?_ | refine subE.sl rfl ?_ ?_))) <;> first | rfl | simp [hA, real, hid, cN]) (by simp [hA, real, hid]) ?_
  rintro ⟨k, u⟩ ⟨hk, hless⟩
  simp only at hk hless ⊢
  by_cases hg : k < l.length ∧ l.getD k default < id
  · have ht := takeS l k hg.1
    have hkl : (l.take k).length = k := by rw [List.length_take]; omega
    generalize hT2 : l.take (k + 1) = T2 at *
    generalize l.take k = T at *
    try first | refine AOLg.of [] ?_ | refine QSg.of [] ?_
    repeat' (first | (refine AWp.pass ?_; first | refine AWp.seq ?_ | refine AWp.block ?_ | refine AWp.skip ?_ | refine AWp.regG [] Zc ?_ | refine AWp.cond_t rfl ?_ | refine AWp.cond_f rfl ?_ | (refine AWp.cond rfl ?_ ?_ <;> intro hc <;> (try rw [hc]) <;> ((try simp only [zn] at hc) <;> (try simp (disch := omega) only [zz hA, zb, zy, reduceCtorEq, Bool.false_eq_true, Int.reduceLT, Int.reduceLE, Int.reduceNeg] at hc) <;> (try simp only [zw] at hc)) <;> (try (exfalso; omega))) | refine AWp.exit ?_ | refine AWp.ret ⟨.inr rfl, _, RetOk.ev tabOk Zc, ?_⟩) | (refine AOLg.pass ?_; refine AOLg.nx hA tabOk Zc ?_; first | refine NX.done ?_ | refine NX.gt ?_ | refine NX.gf ?_ | (refine NX.gs ?_ ?_ <;> intro hc <;> rw [hc] <;> ((try simp only [zn] at hc) <;> (try simp (disch := omega) only [zz hA, zb, zy, reduceCtorEq, Bool.false_eq_true, Int.reduceLT, Int.reduceLE, Int.reduceNeg] at hc) <;> (try simp only [zw] at hc)) <;> (try (exfalso; omega))) | refine NX.k 1 (NX.one Z1 ?_) | refine NX.k 2 (NX.one Z2 ?_) | refine NX.k 7 (NX.one Z7 ?_) | refine NX.k 8 (NX.one Z8 ?_) | refine NX.k 10 (NX.one Z10 ?_) | refine NX.k 11 (NX.one Z11 ?_) | refine NX.k 14 (NX.one Z14 ?_) | refine NX.k 17 (NX.one Z17 ?_) | refine NX.raw ?_) | refine Thn.exit ?_ | refine Blk.here ?_ | refine Blk.other (by decide) ?_ | refine ⟨.inl rfl, _, RetOk.ev tabOk Zc, ?_⟩ | fail)
    all_goals try (exfalso; omega)
    refine ⟨(k + 1, u + 1), ⟨by simp only; omega, fun j hj => ?_⟩, by simp only; omega, rfl, ?_, ?_, Zk⟩
    · simp only at hj
      rcases Nat.lt_or_ge j k with h | h
      · exact hless j h
      · obtain rfl : j = k := by omega
        exact hg.2
    · simp only [hT2, ht, rhid hA, hid_eq hA, cN, Int.toNat_natCast]
    · (repeat' (first | exact subE.nil | refine subE.cons rfl ?_ | refine subE.int rfl ?_ ?_ | refine subE.bool rfl ?_ ?_ | refine subE.str rfl ?_ ?_ | refine subE.sl rfl ?_ ?_))
      all_goals first | rfl | exact Zd
  · have hkm := kM_of l id k hk hless (by omega)
    have hkl : (l.take k).length = k := by rw [List.length_take]; omega
    have hdl : (l.drop k).length = l.length - k := List.length_drop
    unfold layI layB
    rw [hkm]
    by_cases he : k < l.length ∧ l.getD k default = id
    · rw [if_pos he, decide_eq_true he]
      generalize l.take k = T at *
      try first | refine AOLg.of [] ?_ | refine QSg.of [] ?_
      repeat' (first | (refine AWp.pass ?_; first | refine AWp.seq ?_ | refine AWp.block ?_ | refine AWp.skip ?_ | refine AWp.regG [] Zc ?_ | refine AWp.cond_t rfl ?_ | refine AWp.cond_f rfl ?_ | (refine AWp.cond rfl ?_ ?_ <;> intro hc <;> (try rw [hc]) <;> ((try simp only [zn] at hc) <;> (try simp (disch := omega) only [zz hA, zb, zy, reduceCtorEq, Bool.false_eq_true, Int.reduceLT, Int.reduceLE, Int.reduceNeg] at hc) <;> (try simp only [zw] at hc)) <;> (try (exfalso; omega))) | refine AWp.exit ?_ | refine AWp.ret ⟨.inr rfl, _, RetOk.ev tabOk Zc, ?_⟩) | (refine AOLg.pass ?_; refine AOLg.nx hA tabOk Zc ?_; first | refine NX.done ?_ | refine NX.gt ?_ | refine NX.gf ?_ | (refine NX.gs ?_ ?_ <;> intro hc <;> rw [hc] <;> ((try simp only [zn] at hc) <;> (try simp (disch := omega) only [zz hA, zb, zy, reduceCtorEq, Bool.false_eq_true, Int.reduceLT, Int.reduceLE, Int.reduceNeg] at hc) <;> (try simp only [zw] at hc)) <;> (try (exfalso; omega))) | refine NX.k 1 (NX.one Z1 ?_) | refine NX.k 2 (NX.one Z2 ?_) | refine NX.k 7 (NX.one Z7 ?_) | refine NX.k 8 (NX.one Z8 ?_) | refine NX.k 10 (NX.one Z10 ?_) | refine NX.k 11 (NX.one Z11 ?_) | refine NX.k 14 (NX.one Z14 ?_) | refine NX.k 17 (NX.one Z17 ?_) | refine NX.raw ?_) | refine Thn.exit ?_ | refine Blk.here ?_ | refine Blk.other (by decide) ?_ | refine ⟨.inl rfl, _, RetOk.ev tabOk Zc, ?_⟩ | fail)
      all_goals try (exfalso; omega)
      all_goals (refine rPV_then (by conv => lhs; cbv) ?_; show _ = PV.tup [.c (.sl 1 false (hid A (List.map encI l))), .c (.lit (.bool (hid A (!true))))]; simp only [hid_eq hA]; rfl)
    · rw [if_neg he, decide_eq_false he]
      generalize l.take k = T at *
      try first | refine AOLg.of [] ?_ | refine QSg.of [] ?_
      repeat' (first | (refine AWp.pass ?_; first | refine AWp.seq ?_ | refine AWp.block ?_ | refine AWp.skip ?_ | refine AWp.regG [] Zc ?_ | refine AWp.cond_t rfl ?_ | refine AWp.cond_f rfl ?_ | (refine AWp.cond rfl ?_ ?_ <;> intro hc <;> (try rw [hc]) <;> ((try simp only [zn] at hc) <;> (try simp (disch := omega) only [zz hA, zb, zy, reduceCtorEq, Bool.false_eq_true, Int.reduceLT, Int.reduceLE, Int.reduceNeg] at hc) <;> (try simp only [zw] at hc)) <;> (try (exfalso; omega))) | refine AWp.exit ?_ | refine AWp.ret ⟨.inr rfl, _, RetOk.ev tabOk Zc, ?_⟩) | (refine AOLg.pass ?_; refine AOLg.nx hA tabOk Zc ?_; first | refine NX.done ?_ | refine NX.gt ?_ | refine NX.gf ?_ | (refine NX.gs ?_ ?_ <;> intro hc <;> rw [hc] <;> ((try simp only [zn] at hc) <;> (try simp (disch := omega) only [zz hA, zb, zy, reduceCtorEq, Bool.false_eq_true, Int.reduceLT, Int.reduceLE, Int.reduceNeg] at hc) <;> (try simp only [zw] at hc)) <;> (try (exfalso; omega))) | refine NX.k 1 (NX.one Z1 ?_) | refine NX.k 2 (NX.one Z2 ?_) | refine NX.k 7 (NX.one Z7 ?_) | refine NX.k 8 (NX.one Z8 ?_) | refine NX.k 10 (NX.one Z10 ?_) | refine NX.k 11 (NX.one Z11 ?_) | refine NX.k 14 (NX.one Z14 ?_) | refine NX.k 17 (NX.one Z17 ?_) | refine NX.raw ?_) | refine Thn.exit ?_ | refine Blk.here ?_ | refine Blk.other (by decide) ?_ | refine ⟨.inl rfl, _, RetOk.ev tabOk Zc, ?_⟩ | fail)
      all_goals try (exfalso; omega)
      all_goals
        show rPV _ _ = some _
        rw [rPV_own2 (i := 0) rfl rfl]
        show _ = some (PV.tup [.c (.sl 1 false (hid A (List.map encI (T ++ [id] ++ l.drop k)))), .c (.lit (.bool (hid A (!false))))])
        simp only [rhid hA, hid_eq hA, cN, Int.toNat_natCast]
        rfl
theorem refGrow_c (V : List Int) (N : List (Int × Int)) (M : List Int) (v : Int) (hV : V.length ≤ 1000000) (hN : N.length ≤ 1000000) : PureCalls Try.prog 130 [clP A V N M, IP v] (clP A (V ++ [v]) (N ++ [(-1, 0)]) M) := by
  refine PureCalls.of Try.func130 rfl (by kernel_rfl) rfl ?_
  try first | refine AOLg.of [] ?_ | refine QSg.of [] ?_
  repeat' (first | (refine AWp.pass ?_; first | refine AWp.seq ?_ | refine AWp.block ?_ | refine AWp.skip ?_ | refine AWp.regG [] Zc ?_ | refine AWp.cond_t rfl ?_ | refine AWp.cond_f rfl ?_ | (refine AWp.cond rfl ?_ ?_ <;> intro hc <;> (try rw [hc]) <;> ((try simp only [zn] at hc) <;> (try simp (disch := omega) only [zz hA, zb, zy, reduceCtorEq, Bool.false_eq_true, Int.reduceLT, Int.reduceLE, Int.reduceNeg] at hc) <;> (try simp only [zw] at hc)) <;> (try (exfalso; omega))) | refine AWp.exit ?_ | refine AWp.ret ⟨.inr rfl, _, RetOk.ev tabOk Zc, ?_⟩ | refine W.AWp.drawVG [] rfl (by decide +kernel) Zc ?_) | (refine AOLg.pass ?_; refine AOLg.nx hA tabOk Zc ?_; first | refine NX.done ?_ | refine NX.gt ?_ | refine NX.gf ?_ | (refine NX.gs ?_ ?_ <;> intro hc <;> rw [hc] <;> ((try simp only [zn] at hc) <;> (try simp (disch := omega) only [zz hA, zb, zy, reduceCtorEq, Bool.false_eq_true, Int.reduceLT, Int.reduceLE, Int.reduceNeg] at hc) <;> (try simp only [zw] at hc)) <;> (try (exfalso; omega))) | refine NX.k 11 (NX.one Z11 ?_) | refine NX.k 14 (NX.one Z14 ?_) | refine NX.k 15 (NX.one Z15 ?_) | refine NX.k 17 (NX.one Z17 ?_) | refine NX.k 18 (NX.one Z18 ?_) | (refine NX.one (One.appendOwnM hA tabOk (f := encN) (-1, 0) rfl rfl rfl rfl rfl rfl rfl Zd Zd) ?_) | (refine NX.one (One.appendOwnM hA tabOk (f := encI) v rfl rfl rfl rfl rfl rfl rfl Zd Zd) ?_) | refine NX.raw ?_) | (refine W.TRg.pass ?_; refine W.TRg.nx hA tabOk Zc ?_; first | refine W.TX.done ?_ | refine W.TX.gt ?_ | refine W.TX.gf ?_ | (refine W.TX.gs ?_ ?_ <;> intro hc <;> rw [hc] <;> ((try simp only [zn] at hc) <;> (try simp (disch := omega) only [zz hA, zb, zy, reduceCtorEq, Bool.false_eq_true, Int.reduceLT, Int.reduceLE, Int.reduceNeg] at hc) <;> (try simp only [zw] at hc)) <;> (try (exfalso; omega))) | refine W.TX.k 11 (W.TX.one Z11 ?_) | refine W.TX.k 14 (W.TX.one Z14 ?_) | refine W.TX.k 15 (W.TX.one Z15 ?_) | refine W.TX.k 17 (W.TX.one Z17 ?_) | refine W.TX.k 18 (W.TX.one Z18 ?_) | (refine W.TX.one (One.appendOwnM hA tabOk (f := encN) (-1, 0) rfl rfl rfl rfl rfl rfl rfl Zd Zd) ?_) | (refine W.TX.one (One.appendOwnM hA tabOk (f := encI) v rfl rfl rfl rfl rfl rfl rfl Zd Zd) ?_) | refine W.TX.raw ?_) | refine W.Fin3.of Zc (by repeat' (first | exact True.intro | exact rfl | refine And.intro ?_ ?_)) ?_ ?_ | (refine W.AllO.pass ?_; first | exact W.AllO.nil | (refine W.AllO.cons (One.ev hA tabOk ?_) ?_ <;> (first | refine W.AllO.pass ?_ | ((conv => lhs; cbv); done))) | (refine W.AllO.cons (One.skipB ?_) ?_ <;> (first | refine W.AllO.pass ?_ | ((conv => lhs; cbv); done))) | refine W.AllO.consX ZX rfl rfl ?_) | refine Thn.exit ?_ | refine Blk.here ?_ | refine Blk.other (by decide) ?_ | refine ⟨.inl rfl, _, RetOk.ev tabOk Zc, ?_⟩ | fail)
  all_goals
    show rPV _ _ = some _
    rw [rPV_cells (i := 3) (j := 2) rfl rfl]
theorem refAdd5_c (V : List Int) (N : List (Int × Int)) (M : List Int) (hV : V.length ≤ 1000000) (hN : N.length ≤ 1000000) : PureCalls Try.prog 106 [clP A V N M] (clP A (V ++ [(V.length : Int)]) (N ++ [(-1, 0)]) M) := by
  have hg := refGrow_c hA V N M (A .len (hid A (List.map encI V))) hV hN
  rw [show (A .len (hid A (List.map encI V)) : Int) = V.length by simp [hA, real, hid]] at hg
  have e : (A .len (hid A (List.map encI V)) : Int) = V.length := by simp [hA, real, hid]
  rw [← e] at hg ⊢
  refine PureCalls.of Try.func106 rfl (by kernel_rfl) rfl ?_
  try first | refine AOLg.of [] ?_ | refine QSg.of [] ?_
  repeat' (first | (refine AWp.pass ?_; first | refine AWp.seq ?_ | refine AWp.block ?_ | refine AWp.skip ?_ | refine AWp.regG [] Zc ?_ | refine AWp.cond_t rfl ?_ | refine AWp.cond_f rfl ?_ | (refine AWp.cond rfl ?_ ?_ <;> intro hc <;> (try rw [hc]) <;> ((try simp only [zn] at hc) <;> (try simp (disch := omega) only [zz hA, zb, zy, reduceCtorEq, Bool.false_eq_true, Int.reduceLT, Int.reduceLE, Int.reduceNeg] at hc) <;> (try simp only [zw] at hc)) <;> (try (exfalso; omega))) | refine AWp.exit ?_ | refine AWp.ret ⟨.inr rfl, _, RetOk.ev tabOk Zc, ?_⟩) | (refine AOLg.pass ?_; refine AOLg.nx hA tabOk Zc ?_; first | refine NX.done ?_ | refine NX.gt ?_ | refine NX.gf ?_ | (refine NX.gs ?_ ?_ <;> intro hc <;> rw [hc] <;> ((try simp only [zn] at hc) <;> (try simp (disch := omega) only [zz hA, zb, zy, reduceCtorEq, Bool.false_eq_true, Int.reduceLT, Int.reduceLE, Int.reduceNeg] at hc) <;> (try simp only [zw] at hc)) <;> (try (exfalso; omega))) | (refine NX.kC ?_; first | (with_reducible refine NX.call (hg) ?_) | ((first | refine NX.call (hg) ?_)) | fail) | (refine NX.kO ?_; (first | refine NX.callO (hg) (by simp [allEq]) rfl ?_)) | refine NX.k 10 (NX.one Z10 ?_) | refine NX.k 14 (NX.one Z14 ?_) | refine NX.k 15 (NX.one Z15 ?_) | refine NX.k 18 (NX.one Z18 ?_) | refine NX.raw ?_) | refine Thn.exit ?_ | refine Blk.here ?_ | refine Blk.other (by decide) ?_ | refine ⟨.inl rfl, _, RetOk.ev tabOk Zc, ?_⟩ | fail)
  all_goals (refine rPV_then (by conv => lhs; cbv) ?_; rfl)
set_option maxHeartbeats 4000000 in
theorem refMore12_c (R V : List Int) (N : List (Int × Int)) (M : List Int) (P Q : List (List Int)) (n : Int) (hV : V.length ≤ 100000) (hN : N.length ≤ 100000) (hP : P.length ≤ 100000) (hQ : Q.length ≤ 100000) (hn : n ≤ 100000) :
    PureCalls Try.prog 85 [grP A R V N M P Q, IP n] (grP A R (moreV V (n - V.length).toNat) (moreN N (n - V.length).toNat) M (moreP P (n - V.length).toNat) (moreP Q (n - V.length).toNat)) := by
  refine PureCalls.of Try.func85 rfl (by kernel_rfl) rfl ?_
  try first | refine AOLg.of [] ?_ | refine QSg.of [] ?_
  repeat' (first | (refine AWp.pass ?_; first | refine AWp.seq ?_ | refine AWp.block ?_ | refine AWp.skip ?_ | refine AWp.regG [] Zc ?_ | refine AWp.cond_t rfl ?_ | refine AWp.cond_f rfl ?_ | (refine AWp.cond rfl ?_ ?_ <;> intro hc <;> (try rw [hc]) <;> ((try simp only [zn] at hc) <;> (try simp (disch := omega) only [zz hA, zb, zy, reduceCtorEq, Bool.false_eq_true, Int.reduceLT, Int.reduceLE, Int.reduceNeg] at hc) <;> (try simp only [zw] at hc)) <;> (try (exfalso; omega))) | refine AWp.exit ?_ | refine AWp.ret ⟨.inr rfl, _, RetOk.ev tabOk Zc, ?_⟩) | (refine AOLg.pass ?_; refine AOLg.nx hA tabOk Zc ?_; first | refine NX.done ?_ | refine NX.gt ?_ | refine NX.gf ?_ | (refine NX.gs ?_ ?_ <;> intro hc <;> rw [hc] <;> ((try simp only [zn] at hc) <;> (try simp (disch := omega) only [zz hA, zb, zy, reduceCtorEq, Bool.false_eq_true, Int.reduceLT, Int.reduceLE, Int.reduceNeg] at hc) <;> (try simp only [zw] at hc)) <;> (try (exfalso; omega))) | refine NX.k 10 (NX.one Z10 ?_) | refine NX.k 11 (NX.one Z11 ?_) | refine NX.k 14 (NX.one Z14 ?_) | refine NX.k 15 (NX.one Z15 ?_) | refine NX.k 17 (NX.one Z17 ?_) | refine NX.k 18 (NX.one Z18 ?_) | (refine NX.one (One.build0 tabOk rfl rfl) ?_) | (refine NX.one (One.appendOwn0 hA tabOk rfl rfl rfl rfl rfl rfl Zd Zd) ?_) | refine NX.raw ?_) | refine Thn.exit ?_ | refine Blk.here ?_ | refine Blk.other (by decide) ?_ | refine ⟨.inl rfl, _, RetOk.ev tabOk Zc, ?_⟩ | fail)
  generalize hK : (n - (V.length : Int)).toNat = K
  refine AWp.loopU (fun x : Nat × Nat => [(6, .own 3 x.2), (7, .own 4 x.2)]) (fun x => [.var true 31 [.ic (.sl 1 false (hid A (List.map encI R))), .ic (.sl 1 false (hid A (List.map encI V))), .ic (.sl 2 false (hid A (List.map encN N))), .ic (.sl 1 false (hid A (List.map encI M))), .ic (.sl 1 false (hid A (List.map (encK A) P))), .ic (.sl 1 false (hid A (List.map (encK A) Q)))], .var true 31 [.ic (.sl 0 true []), .ic (.sl 0 true []), .ic (.sl 0 true []), .ic (.sl 0 true []), .ic (.sl 0 true []), .ic (.sl 0 true [])], .var true 29 [.ic (.sl 1 false (hid A (List.map encI (moreV V x.1)))), .ic (.sl 2 false (hid A (List.map encN (moreN N x.1)))), .ic (.sl 1 false (hid A (List.map encI M)))],
    .row true x.2 24 1 (hid A (List.map (encK A) (moreP P x.1))), .row true x.2 24 1 (hid A (List.map (encK A) (moreP Q x.1)))]) (fun x => K - x.1) (fun x => x.1 ≤ K) (0, 1) (by conv => lhs; cbv) (Nat.zero_le _) (by ((repeat' (first | exact subE.nil | refine subE.cons rfl ?_ | refine subE.int rfl ?_ ?_ | refine subE.bool rfl ?_ ?_ | refine subE.str rfl ?_ ?_ | refine subE.sl rfl ?_ ?_))) <;> rfl) rfl ?_
  rintro ⟨k, v⟩ hk
  simp only at hk ⊢
  have l1 := moreV_len V k
  have l2 := moreN_len N k
  have l3 := moreP_len P k
  have l4 := moreP_len Q k
  by_cases hlt : k < K
  · have e1 : moreV V (k + 1) = moreV V k ++ [((moreV V k).length : Int)] := rfl
    have e2 : moreN N (k + 1) = moreN N k ++ [(-1, 0)] := rfl
    have e3 : moreP P (k + 1) = moreP P k ++ [[]] := rfl
    have e4 : moreP Q (k + 1) = moreP Q k ++ [[]] := rfl
    generalize hV2 : moreV V (k + 1) = V2 at *
    generalize hV1 : moreV V k = V1 at *
    generalize hN2 : moreN N (k + 1) = N2 at *
    generalize hN1 : moreN N k = N1 at *
    generalize hP2 : moreP P (k + 1) = P2 at *
    generalize hP1 : moreP P k = P1 at *
    generalize hQ2 : moreP Q (k + 1) = Q2 at *
    generalize hQ1 : moreP Q k = Q1 at *
    have hadd := refAdd5_c hA V1 N1 M (by omega) (by omega)
    try first | refine AOLg.of [26, 29] ?_ | refine QSg.of [26, 29] ?_
    repeat' (first | (refine AWp.pass ?_; first | refine AWp.seq ?_ | refine AWp.block ?_ | refine AWp.skip ?_ | refine AWp.regG [26, 29] Zc ?_ | refine AWp.cond_t rfl ?_ | refine AWp.cond_f rfl ?_ | (refine AWp.cond rfl ?_ ?_ <;> intro hc <;> (try rw [hc]) <;> ((try simp only [zn] at hc) <;> (try simp (disch := omega) only [zz hA, zb, zy, reduceCtorEq, Bool.false_eq_true, Int.reduceLT, Int.reduceLE, Int.reduceNeg] at hc) <;> (try simp only [zw] at hc)) <;> (try (exfalso; omega))) | refine AWp.exit ?_ | refine AWp.ret ⟨.inr rfl, _, RetOk.ev tabOk Zc, ?_⟩) | (refine AOLg.pass ?_; refine AOLg.nx hA tabOk Zc ?_; first | refine NX.done ?_ | refine NX.gt ?_ | refine NX.gf ?_ | (refine NX.gs ?_ ?_ <;> intro hc <;> rw [hc] <;> ((try simp only [zn] at hc) <;> (try simp (disch := omega) only [zz hA, zb, zy, reduceCtorEq, Bool.false_eq_true, Int.reduceLT, Int.reduceLE, Int.reduceNeg] at hc) <;> (try simp only [zw] at hc)) <;> (try (exfalso; omega))) | (refine NX.kC ?_; first | (with_reducible refine NX.call (hadd) ?_) | ((first | refine NX.call (hadd) ?_)) | fail) | (refine NX.kO ?_; (first | refine NX.callO (hadd) (by simp [allEq]) rfl ?_)) | refine NX.k 10 (NX.one Z10 ?_) | refine NX.k 11 (NX.one Z11 ?_) | refine NX.k 14 (NX.one Z14 ?_) | refine NX.k 15 (NX.one Z15 ?_) | refine NX.k 17 (NX.one Z17 ?_) | refine NX.k 18 (NX.one Z18 ?_) | (refine NX.one (One.weak (ys := [encK A []]) (One.ev hA tabOk Zc) (.cons (.cons (ILe.nilM hA encI 0 1 true) .nil) .nil)) ?_) | (refine NX.one (One.weak (ys := [encK A []]) (One.ev hA tabOk Zc) (.cons (.cons (ILe.nilM hA encI 0 1 true) .nil) .nil)) ?_) | (refine NX.one (One.appendOwnM hA tabOk (f := encK A) [] rfl rfl rfl rfl rfl rfl rfl Zd Zd) ?_) | refine NX.raw ?_) | refine Thn.exit ?_ | refine Blk.here ?_ | refine Blk.other (by decide) ?_ | refine ⟨.inl rfl, _, RetOk.ev tabOk Zc, ?_⟩ | fail)
    refine ⟨(k + 1, v + 1), by simp only; omega, by simp only; omega, rfl, ?_, (by ((repeat' (first | exact subE.nil | refine subE.cons rfl ?_ | refine subE.int rfl ?_ ?_ | refine subE.bool rfl ?_ ?_ | refine subE.str rfl ?_ ?_ | refine subE.sl rfl ?_ ?_))) <;> rfl), Zk⟩
    simp only [hV2, hN2, hP2, hQ2, e1, e2, e3, e4]
  · try first | refine AOLg.of [] ?_ | refine QSg.of [] ?_
    repeat' (first | (refine AWp.pass ?_; first | refine AWp.seq ?_ | refine AWp.block ?_ | refine AWp.skip ?_ | refine AWp.regG [] Zc ?_ | refine AWp.cond_t rfl ?_ | refine AWp.cond_f rfl ?_ | (refine AWp.cond rfl ?_ ?_ <;> intro hc <;> (try rw [hc]) <;> ((try simp only [zn] at hc) <;> (try simp (disch := omega) only [zz hA, zb, zy, reduceCtorEq, Bool.false_eq_true, Int.reduceLT, Int.reduceLE, Int.reduceNeg] at hc) <;> (try simp only [zw] at hc)) <;> (try (exfalso; omega))) | refine AWp.exit ?_ | refine AWp.ret ⟨.inr rfl, _, RetOk.ev tabOk Zc, ?_⟩) | (refine AOLg.pass ?_; refine AOLg.nx hA tabOk Zc ?_; first | refine NX.done ?_ | refine NX.gt ?_ | refine NX.gf ?_ | (refine NX.gs ?_ ?_ <;> intro hc <;> rw [hc] <;> ((try simp only [zn] at hc) <;> (try simp (disch := omega) only [zz hA, zb, zy, reduceCtorEq, Bool.false_eq_true, Int.reduceLT, Int.reduceLE, Int.reduceNeg] at hc) <;> (try simp only [zw] at hc)) <;> (try (exfalso; omega))) | refine NX.k 10 (NX.one Z10 ?_) | refine NX.k 11 (NX.one Z11 ?_) | refine NX.k 14 (NX.one Z14 ?_) | refine NX.k 15 (NX.one Z15 ?_) | refine NX.k 17 (NX.one Z17 ?_) | refine NX.k 18 (NX.one Z18 ?_) | refine NX.raw ?_) | refine Thn.exit ?_ | refine Blk.here ?_ | refine Blk.other (by decide) ?_ | refine ⟨.inl rfl, _, RetOk.ev tabOk Zc, ?_⟩ | fail)
    all_goals try (exfalso; omega)
    rw [show k = K by omega]
    exact rPV_gr rfl rfl
theorem refNew12_c : PureCalls Try.prog 46 [.c (.sl 0 false []), IP 2] (grP A [] [0, 1] [(-1, 0), (-1, 0)] [] [[], []] [[], []]) := by
  have hm := refMore12_c hA [] [] [] [] [] [] 2 (by decide) (by decide) (by decide) (by decide) (by decide)
  have e : (grP A [] (moreV [] (2 - (([] : List Int).length : Int)).toNat) (moreN [] (2 - (([] : List Int).length : Int)).toNat) [] (moreP [] (2 - (([] : List Int).length : Int)).toNat) (moreP [] (2 - (([] : List Int).length : Int)).toNat)) = grP A [] [0, 1] [(-1, 0), (-1, 0)] [] [[], []] [[], []] := rfl
  rw [e] at hm
  refine PureCalls.of Try.func46 rfl (by kernel_rfl) rfl ?_
  try first | refine AOLg.of [] ?_ | refine QSg.of [] ?_
  repeat' (first | (refine AWp.pass ?_; first | refine AWp.seq ?_ | refine AWp.block ?_ | refine AWp.skip ?_ | refine AWp.regG [] Zc ?_ | refine AWp.cond_t rfl ?_ | refine AWp.cond_f rfl ?_ | (refine AWp.cond rfl ?_ ?_ <;> intro hc <;> (try rw [hc]) <;> ((try simp only [zn] at hc) <;> (try simp (disch := omega) only [zz hA, zb, zy, reduceCtorEq, Bool.false_eq_true, Int.reduceLT, Int.reduceLE, Int.reduceNeg] at hc) <;> (try simp only [zw] at hc)) <;> (try (exfalso; omega))) | refine AWp.exit ?_ | refine AWp.ret ⟨.inr rfl, _, RetOk.ev tabOk Zc, ?_⟩) | (refine AOLg.pass ?_; refine AOLg.nx hA tabOk Zc ?_; first | refine NX.done ?_ | refine NX.gt ?_ | refine NX.gf ?_ | (refine NX.gs ?_ ?_ <;> intro hc <;> rw [hc] <;> ((try simp only [zn] at hc) <;> (try simp (disch := omega) only [zz hA, zb, zy, reduceCtorEq, Bool.false_eq_true, Int.reduceLT, Int.reduceLE, Int.reduceNeg] at hc) <;> (try simp only [zw] at hc)) <;> (try (exfalso; omega))) | (refine NX.kC ?_; first | (with_reducible refine NX.call (hm) ?_) | (refine NX.call (PureCalls.weaken (hm) ?_) ?_ <;> (first | refine AOLg.pass ?_ | ((with_reducible repeat' (first | exact PLes.nil | exact ILes.nil | refine PLes.cons (PLe.refl _) ?_ | refine PLes.cons (PLe.c (ILe.nilM hA _ _ _ _)) ?_ | refine PLes.cons (PLe.agg ?_) ?_ | refine ILes.cons (ILe.refl _) ?_ | refine ILes.cons (ILe.nilM hA _ _ _ _) ?_)); done) | exact Zd)) | ((first | refine NX.call (hm) ?_)) | fail) | (refine NX.kO ?_; (first | refine NX.callO (hm) (by simp [allEq]) rfl ?_)) | refine NX.k 15 (NX.one Z15 ?_) | refine NX.raw ?_) | refine Thn.exit ?_ | refine Blk.here ?_ | refine Blk.other (by decide) ?_ | refine ⟨.inl rfl, _, RetOk.ev tabOk Zc, ?_⟩ | fail)
  all_goals first | (refine rPV_then (by conv => lhs; cbv) ?_; rfl) | fail
end Go.Proofs.Ytkkjlmcnfoncdaa.Aw

/- Contracts of the document's answer for package ifg, part 4: which graphs are right. -/
set_option linter.unusedVariables false
set_option linter.unusedSimpArgs false
set_option linter.unusedSectionVars false
namespace Go.Proofs.Ytkkjlmcnfoncdaa.Aw
open Go Go.RowKit
set_option maxRecDepth 10000
attribute [local irreducible] AWp AOL QS One AOLg QSg NX QX TRg TX AllO Fin3
def mayG (K : List (List Int)) (R : List Int) (n : Nat) (id v : Int) (less : Bool) : Bool :=
  if 0 ≤ numM K n id then lessM R (numM K n id) v
  else if less then decide (kindM K id = 1 ∨ kindM K id = 3) else decide (kindM K id = 0 ∨ kindM K id = 3 ∨ kindM K id = 6)
def rowB (K : List (List Int)) (R : List Int) (n : Nat) (l : List Int) (v : Int) (less : Bool) : Bool :=
  allB l.length fun i => mayG K R n (l.getD i default) v less && (decide (i = 0) || decide (l.getD (i - 1) default < l.getD i default))
def nodeB (K : List (List Int)) (R V : List Int) (P Q : List (List Int)) (v : Nat) : Bool :=
  rowB K R V.length (P.getD v default) v true && (rowB K R V.length (Q.getD v default) v false && (decide (V.getD v default = (v : Int)) || decide ((P.getD v default).length = 0 ∧ (Q.getD v default).length = 0)))
def rightGr (K : List (List Int)) (R V : List Int) (N : List (Int × Int)) (M : List Int) (P Q : List (List Int)) : Bool :=
  (rightB V R && (⟨V, N, M⟩ : Cl).right) && (decide (M.length = 0 ∧ P.length = V.length ∧ Q.length = V.length) && allB V.length (nodeB K R V P Q))
variable {A : Ar} (hA : A = real)
include hA
theorem refMayG_c (K : List (List Int)) (S : List Int) (h : StK K S) (R V : List Int) (N : List (Int × Int)) (M : List Int) (P Q : List (List Int)) (hr : R.length ≤ 1000000) (id v : Int) (less : Bool) :
    PureCalls Try.prog 53 [keyedPV A K S, grP A R V N M P Q, IP id, IP v, BP less] (BP (hid A (mayG K R V.length id v less))) := by
  have hnum := refNumber_c hA K S h.ok h.keys R V N M P Q id
  have hless := refLess_c hA R (numM K V.length id) v hr
  unfold mayG
  refine PureCalls.of Try.func53 rfl (by kernel_rfl) rfl ?_
  by_cases hn : 0 ≤ numM K V.length id
  · rw [if_pos hn]
    generalize lessM R (numM K V.length id) v = b at *
    generalize numM K V.length id = x at *
    rw [← hid_eq hA x] at hless
    try first | refine AOLg.of [] ?_ | refine QSg.of [] ?_
    repeat' (first | (refine AWp.pass ?_; first | refine AWp.seq ?_ | refine AWp.block ?_ | refine AWp.skip ?_ | refine AWp.regG [] Zc ?_ | refine AWp.cond_t rfl ?_ | refine AWp.cond_f rfl ?_ | (refine AWp.cond rfl ?_ ?_ <;> intro hc <;> (try rw [hc]) <;> ((try simp only [zn] at hc) <;> (try simp (disch := omega) only [zz hA, zb, zy, reduceCtorEq, Bool.false_eq_true, Int.reduceLT, Int.reduceLE, Int.reduceNeg] at hc) <;> (try simp only [zw] at hc)) <;> (try (exfalso; omega))) | refine AWp.exit ?_ | refine AWp.ret ⟨.inr rfl, _, RetOk.ev tabOk Zc, ?_⟩) | (refine AOLg.pass ?_; refine AOLg.nx hA tabOk Zc ?_; first | refine NX.done ?_ | refine NX.gt ?_ | refine NX.gf ?_ | (refine NX.gs ?_ ?_ <;> intro hc <;> rw [hc] <;> ((try simp only [zn] at hc) <;> (try simp (disch := omega) only [zz hA, zb, zy, reduceCtorEq, Bool.false_eq_true, Int.reduceLT, Int.reduceLE, Int.reduceNeg] at hc) <;> (try simp only [zw] at hc)) <;> (try (exfalso; omega))) | (refine NX.kC ?_; first | (with_reducible refine NX.call (hnum) ?_) | (with_reducible refine NX.call (hless) ?_) | ((first | refine NX.call (hnum) ?_ | refine NX.call (hless) ?_)) | fail) | (refine NX.kO ?_; (first | refine NX.callO (hnum) (by simp [allEq]) rfl ?_ | refine NX.callO (hless) (by simp [allEq]) rfl ?_)) | refine NX.k 8 (NX.one Z8 ?_) | refine NX.k 14 (NX.one Z14 ?_) | refine NX.k 15 (NX.one Z15 ?_) | refine NX.k 18 (NX.one Z18 ?_) | refine NX.raw ?_) | refine Thn.exit ?_ | refine Blk.here ?_ | refine Blk.other (by decide) ?_ | refine ⟨.inl rfl, _, RetOk.ev tabOk Zc, ?_⟩ | fail)
    all_goals first | (exfalso; omega) | (refine rPV_then (by conv => lhs; cbv) ?_; rfl)
  · rw [if_neg hn]
    clear hless
    by_cases hi : id < 0 ∨ (K.length : Int) ≤ id
    · have hof := refOf_c0 hA K S id hi
      have hk := (sym_out hi).2
      rw [hk, show (if less = true then decide ((-1 : Int) = 1 ∨ (-1 : Int) = 3) else decide ((-1 : Int) = 0 ∨ (-1 : Int) = 3 ∨ (-1 : Int) = 6)) = false by cases less <;> rfl]
      generalize numM K V.length id = x at *
      try first | refine AOLg.of [] ?_ | refine QSg.of [] ?_
      repeat' (first | (refine AWp.pass ?_; first | refine AWp.seq ?_ | refine AWp.block ?_ | refine AWp.skip ?_ | refine AWp.regG [] Zc ?_ | refine AWp.cond_t rfl ?_ | refine AWp.cond_f rfl ?_ | (refine AWp.cond rfl ?_ ?_ <;> intro hc <;> (try rw [hc]) <;> ((try simp only [zn] at hc) <;> (try simp (disch := omega) only [zz hA, zb, zy, reduceCtorEq, Bool.false_eq_true, Int.reduceLT, Int.reduceLE, Int.reduceNeg] at hc) <;> (try simp only [zw] at hc)) <;> (try (exfalso; omega))) | refine AWp.exit ?_ | refine AWp.ret ⟨.inr rfl, _, RetOk.ev tabOk Zc, ?_⟩) | (refine AOLg.pass ?_; refine AOLg.nx hA tabOk Zc ?_; first | refine NX.done ?_ | refine NX.gt ?_ | refine NX.gf ?_ | (refine NX.gs ?_ ?_ <;> intro hc <;> rw [hc] <;> ((try simp only [zn] at hc) <;> (try simp (disch := omega) only [zz hA, zb, zy, reduceCtorEq, Bool.false_eq_true, Int.reduceLT, Int.reduceLE, Int.reduceNeg] at hc) <;> (try simp only [zw] at hc)) <;> (try (exfalso; omega))) | (refine NX.kC ?_; first | (with_reducible refine NX.call (hnum) ?_) | (with_reducible refine NX.call (hof) ?_) | ((first | refine NX.call (hnum) ?_ | refine NX.call (hof) ?_)) | fail) | (refine NX.kO ?_; (first | refine NX.callO (hnum) (by simp [allEq]) rfl ?_ | refine NX.callO (hof) (by simp [allEq]) rfl ?_)) | refine NX.k 8 (NX.one Z8 ?_) | refine NX.k 14 (NX.one Z14 ?_) | refine NX.k 15 (NX.one Z15 ?_) | refine NX.k 18 (NX.one Z18 ?_) | refine NX.raw ?_) | refine Thn.exit ?_ | refine Blk.here ?_ | refine Blk.other (by decide) ?_ | refine ⟨.inl rfl, _, RetOk.ev tabOk Zc, ?_⟩ | fail)
      all_goals first | (exfalso; omega) | (refine rPV_then (by conv => lhs; cbv) ?_; simp only [hid_eq hA]; done) | (refine rPV_then (by conv => lhs; cbv) ?_; simp only [hid_eq hA]; rfl)
    · obtain ⟨i, rfl⟩ : ∃ i : Nat, id = i := ⟨id.toNat, by omega⟩
      have hil : i < K.length := by omega
      obtain ⟨k, s, p, l, hk, hll⟩ := key_at h.ok h.keys hil
      have hof := refOf_c1 hA K S i k s p l hil hk hll
      rw [(sym_key hil hk).2]
      obtain ⟨z, hz⟩ : ∃ z : Int, z = (i : Int) := ⟨_, rfl⟩
      rw [← hz] at hnum hn ⊢
      have hof := hof z hz
      clear hk
      generalize numM K V.length z = x at *
      cases less with
      | true =>
        simp only [if_true]
        try first | refine AOLg.of [] ?_ | refine QSg.of [] ?_
        repeat' (first | (refine AWp.pass ?_; first | refine AWp.seq ?_ | refine AWp.block ?_ | refine AWp.skip ?_ | refine AWp.regG [] Zc ?_ | refine AWp.cond_t rfl ?_ | refine AWp.cond_f rfl ?_ | (refine AWp.cond rfl ?_ ?_ <;> intro hc <;> (try rw [hc]) <;> ((try simp only [zn] at hc) <;> (try simp (disch := omega) only [zz hA, zb, zy, reduceCtorEq, Bool.false_eq_true, Int.reduceLT, Int.reduceLE, Int.reduceNeg] at hc) <;> (try simp only [zw] at hc)) <;> (try (exfalso; omega))) | refine AWp.exit ?_ | refine AWp.ret ⟨.inr rfl, _, RetOk.ev tabOk Zc, ?_⟩) | (refine AOLg.pass ?_; refine AOLg.nx hA tabOk Zc ?_; first | refine NX.done ?_ | refine NX.gt ?_ | refine NX.gf ?_ | (refine NX.gs ?_ ?_ <;> intro hc <;> rw [hc] <;> ((try simp only [zn] at hc) <;> (try simp (disch := omega) only [zz hA, zb, zy, reduceCtorEq, Bool.false_eq_true, Int.reduceLT, Int.reduceLE, Int.reduceNeg] at hc) <;> (try simp only [zw] at hc)) <;> (try (exfalso; omega))) | (refine NX.kC ?_; first | (with_reducible refine NX.call (hnum) ?_) | (with_reducible refine NX.call (hof) ?_) | ((first | refine NX.call (hnum) ?_ | refine NX.call (hof) ?_)) | fail) | (refine NX.kO ?_; (first | refine NX.callO (hnum) (by simp [allEq]) rfl ?_ | refine NX.callO (hof) (by simp [allEq]) rfl ?_)) | refine NX.k 8 (NX.one Z8 ?_) | refine NX.k 14 (NX.one Z14 ?_) | refine NX.k 15 (NX.one Z15 ?_) | refine NX.k 18 (NX.one Z18 ?_) | refine NX.raw ?_) | refine Thn.exit ?_ | refine Blk.here ?_ | refine Blk.other (by decide) ?_ | refine ⟨.inl rfl, _, RetOk.ev tabOk Zc, ?_⟩ | fail)
        all_goals first | (exfalso; omega) | (refine rPV_then (by conv => lhs; cbv) ?_; simp only [hid_eq hA]; simp [hA, real]; omega) | (refine rPV_then (by conv => lhs; cbv) ?_; simp only [hid_eq hA]; simp [hA, real]; done) | (refine rPV_then (by conv => lhs; cbv) ?_; simp only [hid_eq hA]; simp [hA, real, *]; done)
      | false =>
        simp only [Bool.false_eq_true, if_false]
        try first | refine AOLg.of [] ?_ | refine QSg.of [] ?_
        repeat' (first | (refine AWp.pass ?_; first | refine AWp.seq ?_ | refine AWp.block ?_ | refine AWp.skip ?_ | refine AWp.regG [] Zc ?_ | refine AWp.cond_t rfl ?_ | refine AWp.cond_f rfl ?_ | (refine AWp.cond rfl ?_ ?_ <;> intro hc <;> (try rw [hc]) <;> ((try simp only [zn] at hc) <;> (try simp (disch := omega) only [zz hA, zb, zy, reduceCtorEq, Bool.false_eq_true, Int.reduceLT, Int.reduceLE, Int.reduceNeg] at hc) <;> (try simp only [zw] at hc)) <;> (try (exfalso; omega))) | refine AWp.exit ?_ | refine AWp.ret ⟨.inr rfl, _, RetOk.ev tabOk Zc, ?_⟩) | (refine AOLg.pass ?_; refine AOLg.nx hA tabOk Zc ?_; first | refine NX.done ?_ | refine NX.gt ?_ | refine NX.gf ?_ | (refine NX.gs ?_ ?_ <;> intro hc <;> rw [hc] <;> ((try simp only [zn] at hc) <;> (try simp (disch := omega) only [zz hA, zb, zy, reduceCtorEq, Bool.false_eq_true, Int.reduceLT, Int.reduceLE, Int.reduceNeg] at hc) <;> (try simp only [zw] at hc)) <;> (try (exfalso; omega))) | (refine NX.kC ?_; first | (with_reducible refine NX.call (hnum) ?_) | (with_reducible refine NX.call (hof) ?_) | ((first | refine NX.call (hnum) ?_ | refine NX.call (hof) ?_)) | fail) | (refine NX.kO ?_; (first | refine NX.callO (hnum) (by simp [allEq]) rfl ?_ | refine NX.callO (hof) (by simp [allEq]) rfl ?_)) | refine NX.k 8 (NX.one Z8 ?_) | refine NX.k 14 (NX.one Z14 ?_) | refine NX.k 15 (NX.one Z15 ?_) | refine NX.k 18 (NX.one Z18 ?_) | refine NX.raw ?_) | refine Thn.exit ?_ | refine Blk.here ?_ | refine Blk.other (by decide) ?_ | refine ⟨.inl rfl, _, RetOk.ev tabOk Zc, ?_⟩ | fail)
        all_goals first | (exfalso; omega) | (refine rPV_then (by conv => lhs; cbv) ?_; simp only [hid_eq hA]; simp [hA, real]; omega) | (refine rPV_then (by conv => lhs; cbv) ?_; simp only [hid_eq hA]; simp [hA, real]; done) | (refine rPV_then (by conv => lhs; cbv) ?_; simp only [hid_eq hA]; simp [hA, real, *]; done)
theorem refRow_c (K : List (List Int)) (S : List Int) (h : StK K S) (R V : List Int) (N : List (Int × Int)) (M : List Int) (P Q : List (List Int)) (hr : R.length ≤ 1000000) (l : List Int) (hl : l.length ≤ 1000000) (v : Int) (less : Bool) :
    PureCalls Try.prog 61 [keyedPV A K S, grP A R V N M P Q, intsP A l, IP v, BP less] (BP (hid A (rowB K R V.length l v less))) := by
  refine PureCalls.of Try.func61 rfl (by kernel_rfl) rfl ?_
  try first | refine AOLg.of [] ?_ | refine QSg.of [] ?_
  repeat' (first | (refine AWp.pass ?_; first | refine AWp.seq ?_ | refine AWp.block ?_ | refine AWp.skip ?_ | refine AWp.regG [] Zc ?_ | refine AWp.cond_t rfl ?_ | refine AWp.cond_f rfl ?_ | (refine AWp.cond rfl ?_ ?_ <;> intro hc <;> (try rw [hc]) <;> ((try simp only [zn] at hc) <;> (try simp (disch := omega) only [zz hA, zb, zy, reduceCtorEq, Bool.false_eq_true, Int.reduceLT, Int.reduceLE, Int.reduceNeg] at hc) <;> (try simp only [zw] at hc)) <;> (try (exfalso; omega))) | refine AWp.exit ?_ | refine AWp.ret ⟨.inr rfl, _, RetOk.ev tabOk Zc, ?_⟩ | refine AWp.drawVG [] rfl (by decide +kernel) Zc ?_) | (refine AOLg.pass ?_; refine AOLg.nx hA tabOk Zc ?_; first | refine NX.done ?_ | refine NX.gt ?_ | refine NX.gf ?_ | (refine NX.gs ?_ ?_ <;> intro hc <;> rw [hc] <;> ((try simp only [zn] at hc) <;> (try simp (disch := omega) only [zz hA, zb, zy, reduceCtorEq, Bool.false_eq_true, Int.reduceLT, Int.reduceLE, Int.reduceNeg] at hc) <;> (try simp only [zw] at hc)) <;> (try (exfalso; omega))) | refine NX.k 1 (NX.one Z1 ?_) | refine NX.k 7 (NX.one Z7 ?_) | refine NX.k 10 (NX.one Z10 ?_) | refine NX.k 14 (NX.one Z14 ?_) | refine NX.raw ?_) | (refine TRg.pass ?_; refine TRg.nx hA tabOk Zc ?_; first | refine TX.done ?_ | refine TX.gt ?_ | refine TX.gf ?_ | (refine TX.gs ?_ ?_ <;> intro hc <;> rw [hc] <;> ((try simp only [zn] at hc) <;> (try simp (disch := omega) only [zz hA, zb, zy, reduceCtorEq, Bool.false_eq_true, Int.reduceLT, Int.reduceLE, Int.reduceNeg] at hc) <;> (try simp only [zw] at hc)) <;> (try (exfalso; omega))) | refine TX.k 1 (TX.one Z1 ?_) | refine TX.k 7 (TX.one Z7 ?_) | refine TX.k 10 (TX.one Z10 ?_) | refine TX.k 14 (TX.one Z14 ?_) | refine TX.raw ?_) | refine Fin3.of Zc (by repeat' (first | exact True.intro | exact rfl | refine And.intro ?_ ?_)) ?_ ?_ | (refine AllO.pass ?_; first | exact AllO.nil | (refine AllO.cons (One.ev hA tabOk ?_) ?_ <;> (first | refine AllO.pass ?_ | ((conv => lhs; cbv); done))) | (refine AllO.cons (One.skipB ?_) ?_ <;> (first | refine AllO.pass ?_ | ((conv => lhs; cbv); done))) | refine AllO.consX ZX rfl rfl ?_) | refine Thn.exit ?_ | refine Blk.here ?_ | refine Blk.other (by decide) ?_ | refine ⟨.inl rfl, _, RetOk.ev tabOk Zc, ?_⟩ | fail)
  refine AWp.loopU (fun k : Nat => [(11, .ic (.lit (.int .i64 (hid A (cN k)))))]) (fun _ => _) (fun k => l.length - k) (fun k => k ≤ l.length ∧ ∀ i, i < k → (mayG K R V.length (l.getD i default) v less && (decide (i = 0) || decide (l.getD (i - 1) default < l.getD i default))) = true) 0 (by conv => lhs; cbv) ⟨Nat.zero_le _, by simp⟩ (by ((repeat' (first | exact subE.nil | refine subE.cons rfl ?_ | refine subE.int rfl ?_ ?_ | refine subE.bool rfl ?_ ?_ | refine subE.str rfl ?_ ?_ | refine subE.sl rfl ?_ ?_))) <;> simp [hA, real, hid, cN]) rfl ?_
  rintro k ⟨hk, hok⟩
  by_cases hlt : k < l.length
  · have hm : ∀ q, q = l.getD k default → PureCalls Try.prog 53 [keyedPV A K S, grP A R V N M P Q, IP q, IP v, BP less] (BP (hid A (mayG K R V.length (l.getD k default) v less))) := by rintro q rfl; exact refMayG_c hA K S h R V N M P Q hr _ v less
    have hno : (mayG K R V.length (l.getD k default) v less && (decide (k = 0) || decide (l.getD (k - 1) default < l.getD k default))) = false → rowB K R V.length l v less = false := fun h => allB_f hlt h
    generalize hmd : mayG K R V.length (l.getD k default) v less = m at *
    have hp : ((k : Int) - 1).toNat = k - 1 := by omega
    have hno2 : m = false ∨ (0 < k ∧ l.getD k default ≤ l.getD (k - 1) default) → rowB K R V.length l v less = false := fun h => hno (by
      rcases h with h | ⟨h1, h2⟩
      · rw [h]; rfl
      · rw [decide_eq_false (show ¬ k = 0 by omega), decide_eq_false (show ¬ l.getD (k - 1) default < l.getD k default by omega)]; simp)
    have hyes : m = true → (k = 0 ∨ l.getD (k - 1) default < l.getD k default) → (m && (decide (k = 0) || decide (l.getD (k - 1) default < l.getD k default))) = true := fun h1 h2 => by
      rw [h1]; simpa using h2
    have hok2 : (m && (decide (k = 0) || decide (l.getD (k - 1) default < l.getD k default))) = true → ∀ i, i < k + 1 → (mayG K R V.length (l.getD i default) v less && (decide (i = 0) || decide (l.getD (i - 1) default < l.getD i default))) = true := fun h i hi => by
      rcases Nat.lt_or_ge i k with h1 | h1
      · exact hok i h1
      · obtain rfl : i = k := by omega
        rw [hmd]; exact h
    try first | refine AOLg.of [] ?_ | refine QSg.of [] ?_
    repeat' (first | (refine AWp.pass ?_; first | refine AWp.seq ?_ | refine AWp.block ?_ | refine AWp.skip ?_ | refine AWp.regG [] Zc ?_ | refine AWp.cond_t rfl ?_ | refine AWp.cond_f rfl ?_ | (refine AWp.cond rfl ?_ ?_ <;> intro hc <;> (try rw [hc]) <;> ((try simp only [zn] at hc) <;> (try simp (disch := omega) only [zz hA, zb, zy, reduceCtorEq, Bool.false_eq_true, Int.reduceLT, Int.reduceLE, Int.reduceNeg] at hc) <;> (try simp only [zw] at hc)) <;> (try (exfalso; omega))) | refine AWp.exit ?_ | refine AWp.ret ⟨.inr rfl, _, RetOk.ev tabOk Zc, ?_⟩ | refine AWp.drawVG [] rfl (by decide +kernel) Zc ?_) | (refine AOLg.pass ?_; refine AOLg.nx hA tabOk Zc ?_; first | refine NX.done ?_ | refine NX.gt ?_ | refine NX.gf ?_ | (refine NX.gs ?_ ?_ <;> intro hc <;> rw [hc] <;> ((try simp only [zn] at hc) <;> (try simp (disch := omega) only [zz hA, zb, zy, reduceCtorEq, Bool.false_eq_true, Int.reduceLT, Int.reduceLE, Int.reduceNeg] at hc) <;> (try simp only [zw] at hc)) <;> (try (exfalso; omega))) | (refine NX.kC ?_; first | (with_reducible refine NX.call (hm _ (by simp only [hid_eq hA, cN, Int.toNat_natCast])) ?_) | ((first | refine NX.call (hm _ (by simp only [hid_eq hA, cN, Int.toNat_natCast])) ?_)) | fail) | (refine NX.kO ?_; (first | refine NX.callO (hm _ (by simp only [hid_eq hA, cN, Int.toNat_natCast])) (by simp [allEq]) rfl ?_)) | refine NX.k 1 (NX.one Z1 ?_) | refine NX.k 7 (NX.one Z7 ?_) | refine NX.k 10 (NX.one Z10 ?_) | refine NX.k 14 (NX.one Z14 ?_) | refine NX.raw ?_) | (refine TRg.pass ?_; refine TRg.nx hA tabOk Zc ?_; first | refine TX.done ?_ | refine TX.gt ?_ | refine TX.gf ?_ | (refine TX.gs ?_ ?_ <;> intro hc <;> rw [hc] <;> ((try simp only [zn] at hc) <;> (try simp (disch := omega) only [zz hA, zb, zy, reduceCtorEq, Bool.false_eq_true, Int.reduceLT, Int.reduceLE, Int.reduceNeg] at hc) <;> (try simp only [zw] at hc)) <;> (try (exfalso; omega))) | (refine TX.kC ?_; first | (with_reducible refine TX.call (hm _ (by simp only [hid_eq hA, cN, Int.toNat_natCast])) ?_) | ((first | refine TX.call (hm _ (by simp only [hid_eq hA, cN, Int.toNat_natCast])) ?_)) | fail) | (refine TX.kO ?_; (first | refine TX.callO (hm _ (by simp only [hid_eq hA, cN, Int.toNat_natCast])) (by simp [allEq]) rfl ?_)) | refine TX.k 1 (TX.one Z1 ?_) | refine TX.k 7 (TX.one Z7 ?_) | refine TX.k 10 (TX.one Z10 ?_) | refine TX.k 14 (TX.one Z14 ?_) | refine TX.raw ?_) | refine Fin3.of Zc (by repeat' (first | exact True.intro | exact rfl | refine And.intro ?_ ?_)) ?_ ?_ | (refine AllO.pass ?_; first | exact AllO.nil | (refine AllO.cons (One.ev hA tabOk ?_) ?_ <;> (first | refine AllO.pass ?_ | ((conv => lhs; cbv); done))) | (refine AllO.cons (One.skipB ?_) ?_ <;> (first | refine AllO.pass ?_ | ((conv => lhs; cbv); done))) | ((with_reducible refine AllO.call Zc (hm _ (by simp only [hid_eq hA, cN, Int.toNat_natCast])) ?_ ?_) <;> (first | refine AllO.pass ?_ | exact rfl | exact Zd)) | refine AllO.consX ZX rfl rfl ?_) | refine Thn.exit ?_ | refine Blk.here ?_ | refine Blk.other (by decide) ?_ | refine ⟨.inl rfl, _, RetOk.ev tabOk Zc, ?_⟩ | fail)
    · refine rPV_then (by conv => lhs; cbv) ?_
      rw [hno2 (.inl hc), hid_eq hA]
    · refine rPV_then (by conv => lhs; cbv) ?_
      rw [hno2 (.inr (by rw [hp] at hc; omega)), hid_eq hA]
    · refine ⟨k + 1, ?_, ?_, rfl, rfl, ?_, Zk⟩ <;> (try omega)
      repeat' (first | exact subE.nil | refine subE.cons rfl ?_ | refine subE.int rfl ?_ ?_ | refine subE.bool rfl ?_ ?_ | refine subE.str rfl ?_ ?_ | refine subE.sl rfl ?_ ?_)
      · exact ⟨by omega, hok2 (hyes (by assumption) (.inr (by rw [hp] at hc; omega)))⟩
      · exact Zd
    · refine ⟨k + 1, ?_, ?_, rfl, rfl, ?_, Zk⟩ <;> (try omega)
      repeat' (first | exact subE.nil | refine subE.cons rfl ?_ | refine subE.int rfl ?_ ?_ | refine subE.bool rfl ?_ ?_ | refine subE.str rfl ?_ ?_ | refine subE.sl rfl ?_ ?_)
      · exact ⟨by omega, hok2 (hyes (by assumption) (.inl (by omega)))⟩
      · exact Zd
  · try first | refine AOLg.of [] ?_ | refine QSg.of [] ?_
    repeat' (first | (refine AWp.pass ?_; first | refine AWp.seq ?_ | refine AWp.block ?_ | refine AWp.skip ?_ | refine AWp.regG [] Zc ?_ | refine AWp.cond_t rfl ?_ | refine AWp.cond_f rfl ?_ | (refine AWp.cond rfl ?_ ?_ <;> intro hc <;> (try rw [hc]) <;> ((try simp only [zn] at hc) <;> (try simp (disch := omega) only [zz hA, zb, zy, reduceCtorEq, Bool.false_eq_true, Int.reduceLT, Int.reduceLE, Int.reduceNeg] at hc) <;> (try simp only [zw] at hc)) <;> (try (exfalso; omega))) | refine AWp.exit ?_ | refine AWp.ret ⟨.inr rfl, _, RetOk.ev tabOk Zc, ?_⟩ | refine AWp.drawVG [] rfl (by decide +kernel) Zc ?_) | (refine AOLg.pass ?_; refine AOLg.nx hA tabOk Zc ?_; first | refine NX.done ?_ | refine NX.gt ?_ | refine NX.gf ?_ | (refine NX.gs ?_ ?_ <;> intro hc <;> rw [hc] <;> ((try simp only [zn] at hc) <;> (try simp (disch := omega) only [zz hA, zb, zy, reduceCtorEq, Bool.false_eq_true, Int.reduceLT, Int.reduceLE, Int.reduceNeg] at hc) <;> (try simp only [zw] at hc)) <;> (try (exfalso; omega))) | refine NX.k 1 (NX.one Z1 ?_) | refine NX.k 7 (NX.one Z7 ?_) | refine NX.k 10 (NX.one Z10 ?_) | refine NX.k 14 (NX.one Z14 ?_) | refine NX.raw ?_) | (refine TRg.pass ?_; refine TRg.nx hA tabOk Zc ?_; first | refine TX.done ?_ | refine TX.gt ?_ | refine TX.gf ?_ | (refine TX.gs ?_ ?_ <;> intro hc <;> rw [hc] <;> ((try simp only [zn] at hc) <;> (try simp (disch := omega) only [zz hA, zb, zy, reduceCtorEq, Bool.false_eq_true, Int.reduceLT, Int.reduceLE, Int.reduceNeg] at hc) <;> (try simp only [zw] at hc)) <;> (try (exfalso; omega))) | refine TX.k 1 (TX.one Z1 ?_) | refine TX.k 7 (TX.one Z7 ?_) | refine TX.k 10 (TX.one Z10 ?_) | refine TX.k 14 (TX.one Z14 ?_) | refine TX.raw ?_) | refine Fin3.of Zc (by repeat' (first | exact True.intro | exact rfl | refine And.intro ?_ ?_)) ?_ ?_ | (refine AllO.pass ?_; first | exact AllO.nil | (refine AllO.cons (One.ev hA tabOk ?_) ?_ <;> (first | refine AllO.pass ?_ | ((conv => lhs; cbv); done))) | (refine AllO.cons (One.skipB ?_) ?_ <;> (first | refine AllO.pass ?_ | ((conv => lhs; cbv); done))) | refine AllO.consX ZX rfl rfl ?_) | refine Thn.exit ?_ | refine Blk.here ?_ | refine Blk.other (by decide) ?_ | refine ⟨.inl rfl, _, RetOk.ev tabOk Zc, ?_⟩ | fail)
    refine rPV_then (by conv => lhs; cbv) ?_
    rw [show rowB K R V.length l v less = true from allB_t fun i hi => hok i (by omega), hid_eq hA]
set_option maxHeartbeats 2000000 in
theorem refGRight_c (K : List (List Int)) (S : List Int) (h : StK K S) (R V : List Int) (N : List (Int × Int)) (M : List Int) (P Q : List (List Int)) (hr : R.length ≤ 1000000) (hc0 : (⟨V, N, M⟩ : Cl).small) (hP : P.length ≤ 1000000 ∧ ∀ x ∈ P, x.length ≤ 1000000) (hQ : Q.length ≤ 1000000 ∧ ∀ x ∈ Q, x.length ≤ 1000000) :
    PureCalls Try.prog 28 [keyedPV A K S, grP A R V N M P Q] (BP (hid A (rightGr K R V N M P Q))) := by
  have hu := refURight_c hA ⟨V, N, M⟩ hc0 R hr
  have hvs := hc0.v
  simp only at hu hvs
  unfold rightGr
  refine PureCalls.of Try.func28 rfl (by kernel_rfl) rfl ?_
  cases hub : (rightB V R && (⟨V, N, M⟩ : Cl).right) with
  | false =>
    rw [hub, hid_eq hA (α := Bool)] at hu
    rw [Bool.false_and]
    try first | refine AOLg.of [] ?_ | refine QSg.of [] ?_
    repeat' (first | (refine AWp.pass ?_; first | refine AWp.seq ?_ | refine AWp.block ?_ | refine AWp.skip ?_ | refine AWp.regG [] Zc ?_ | refine AWp.cond_t rfl ?_ | refine AWp.cond_f rfl ?_ | (refine AWp.cond rfl ?_ ?_ <;> intro hc <;> (try rw [hc]) <;> ((try simp only [zn] at hc) <;> (try simp (disch := omega) only [zz hA, zb, zy, reduceCtorEq, Bool.false_eq_true, Int.reduceLT, Int.reduceLE, Int.reduceNeg] at hc) <;> (try simp only [zw] at hc)) <;> (try (exfalso; omega))) | refine AWp.exit ?_ | refine AWp.ret ⟨.inr rfl, _, RetOk.ev tabOk Zc, ?_⟩ | refine AWp.drawVG [] rfl (by decide +kernel) Zc ?_) | (refine AOLg.pass ?_; refine AOLg.nx hA tabOk Zc ?_; first | refine NX.done ?_ | refine NX.gt ?_ | refine NX.gf ?_ | (refine NX.gs ?_ ?_ <;> intro hc <;> rw [hc] <;> ((try simp only [zn] at hc) <;> (try simp (disch := omega) only [zz hA, zb, zy, reduceCtorEq, Bool.false_eq_true, Int.reduceLT, Int.reduceLE, Int.reduceNeg] at hc) <;> (try simp only [zw] at hc)) <;> (try (exfalso; omega))) | (refine NX.kC ?_; first | (with_reducible refine NX.call (hu) ?_) | ((first | refine NX.call (hu) ?_)) | fail) | (refine NX.kO ?_; (first | refine NX.callO (hu) (by simp [allEq]) rfl ?_)) | refine NX.k 1 (NX.one Z1 ?_) | refine NX.k 7 (NX.one Z7 ?_) | refine NX.k 9 (NX.one Z9 ?_) | refine NX.k 10 (NX.one Z10 ?_) | refine NX.k 14 (NX.one Z14 ?_) | refine NX.k 18 (NX.one Z18 ?_) | refine NX.raw ?_) | (refine TRg.pass ?_; refine TRg.nx hA tabOk Zc ?_; first | refine TX.done ?_ | refine TX.gt ?_ | refine TX.gf ?_ | (refine TX.gs ?_ ?_ <;> intro hc <;> rw [hc] <;> ((try simp only [zn] at hc) <;> (try simp (disch := omega) only [zz hA, zb, zy, reduceCtorEq, Bool.false_eq_true, Int.reduceLT, Int.reduceLE, Int.reduceNeg] at hc) <;> (try simp only [zw] at hc)) <;> (try (exfalso; omega))) | (refine TX.kC ?_; first | (with_reducible refine TX.call (hu) ?_) | ((first | refine TX.call (hu) ?_)) | fail) | (refine TX.kO ?_; (first | refine TX.callO (hu) (by simp [allEq]) rfl ?_)) | refine TX.k 1 (TX.one Z1 ?_) | refine TX.k 7 (TX.one Z7 ?_) | refine TX.k 9 (TX.one Z9 ?_) | refine TX.k 10 (TX.one Z10 ?_) | refine TX.k 14 (TX.one Z14 ?_) | refine TX.k 18 (TX.one Z18 ?_) | refine TX.raw ?_) | refine Fin3.of Zc (by repeat' (first | exact True.intro | exact rfl | refine And.intro ?_ ?_)) ?_ ?_ | (refine AllO.pass ?_; first | exact AllO.nil | (refine AllO.cons (One.ev hA tabOk ?_) ?_ <;> (first | refine AllO.pass ?_ | ((conv => lhs; cbv); done))) | (refine AllO.cons (One.skipB ?_) ?_ <;> (first | refine AllO.pass ?_ | ((conv => lhs; cbv); done))) | ((with_reducible refine AllO.call Zc (hu) ?_ ?_) <;> (first | refine AllO.pass ?_ | exact rfl | exact Zd)) | refine AllO.consX ZX rfl rfl ?_) | refine Thn.exit ?_ | refine Blk.here ?_ | refine Blk.other (by decide) ?_ | refine ⟨.inl rfl, _, RetOk.ev tabOk Zc, ?_⟩ | fail)
    all_goals first | (exfalso; omega) | (refine rPV_then (by conv => lhs; cbv) ?_; simp only [hid_eq hA]; done) | (refine rPV_then (by conv => lhs; cbv) ?_; rw [hid_eq hA])
  | true =>
    rw [hub, hid_eq hA (α := Bool)] at hu
    rw [Bool.true_and]
    by_cases hC : M.length = 0 ∧ P.length = V.length ∧ Q.length = V.length
    · rw [decide_eq_true hC, Bool.true_and]
      obtain ⟨c1, c2, c3⟩ := hC
      try first | refine AOLg.of [] ?_ | refine QSg.of [] ?_
      repeat' (first | (refine AWp.pass ?_; first | refine AWp.seq ?_ | refine AWp.block ?_ | refine AWp.skip ?_ | refine AWp.regG [] Zc ?_ | refine AWp.cond_t rfl ?_ | refine AWp.cond_f rfl ?_ | (refine AWp.cond rfl ?_ ?_ <;> intro hc <;> (try rw [hc]) <;> ((try simp only [zn] at hc) <;> (try simp (disch := omega) only [zz hA, zb, zy, reduceCtorEq, Bool.false_eq_true, Int.reduceLT, Int.reduceLE, Int.reduceNeg] at hc) <;> (try simp only [zw] at hc)) <;> (try (exfalso; omega))) | refine AWp.exit ?_ | refine AWp.ret ⟨.inr rfl, _, RetOk.ev tabOk Zc, ?_⟩ | refine AWp.drawVG [] rfl (by decide +kernel) Zc ?_) | (refine AOLg.pass ?_; refine AOLg.nx hA tabOk Zc ?_; first | refine NX.done ?_ | refine NX.gt ?_ | refine NX.gf ?_ | (refine NX.gs ?_ ?_ <;> intro hc <;> rw [hc] <;> ((try simp only [zn] at hc) <;> (try simp (disch := omega) only [zz hA, zb, zy, reduceCtorEq, Bool.false_eq_true, Int.reduceLT, Int.reduceLE, Int.reduceNeg] at hc) <;> (try simp only [zw] at hc)) <;> (try (exfalso; omega))) | (refine NX.kC ?_; first | (with_reducible refine NX.call (hu) ?_) | ((first | refine NX.call (hu) ?_)) | fail) | (refine NX.kO ?_; (first | refine NX.callO (hu) (by simp [allEq]) rfl ?_)) | refine NX.k 1 (NX.one Z1 ?_) | refine NX.k 7 (NX.one Z7 ?_) | refine NX.k 9 (NX.one Z9 ?_) | refine NX.k 10 (NX.one Z10 ?_) | refine NX.k 14 (NX.one Z14 ?_) | refine NX.k 18 (NX.one Z18 ?_) | refine NX.raw ?_) | (refine TRg.pass ?_; refine TRg.nx hA tabOk Zc ?_; first | refine TX.done ?_ | refine TX.gt ?_ | refine TX.gf ?_ | (refine TX.gs ?_ ?_ <;> intro hc <;> rw [hc] <;> ((try simp only [zn] at hc) <;> (try simp (disch := omega) only [zz hA, zb, zy, reduceCtorEq, Bool.false_eq_true, Int.reduceLT, Int.reduceLE, Int.reduceNeg] at hc) <;> (try simp only [zw] at hc)) <;> (try (exfalso; omega))) | (refine TX.kC ?_; first | (with_reducible refine TX.call (hu) ?_) | ((first | refine TX.call (hu) ?_)) | fail) | (refine TX.kO ?_; (first | refine TX.callO (hu) (by simp [allEq]) rfl ?_)) | refine TX.k 1 (TX.one Z1 ?_) | refine TX.k 7 (TX.one Z7 ?_) | refine TX.k 9 (TX.one Z9 ?_) | refine TX.k 10 (TX.one Z10 ?_) | refine TX.k 14 (TX.one Z14 ?_) | refine TX.k 18 (TX.one Z18 ?_) | refine TX.raw ?_) | refine Fin3.of Zc (by repeat' (first | exact True.intro | exact rfl | refine And.intro ?_ ?_)) ?_ ?_ | (refine AllO.pass ?_; first | exact AllO.nil | (refine AllO.cons (One.ev hA tabOk ?_) ?_ <;> (first | refine AllO.pass ?_ | ((conv => lhs; cbv); done))) | (refine AllO.cons (One.skipB ?_) ?_ <;> (first | refine AllO.pass ?_ | ((conv => lhs; cbv); done))) | ((with_reducible refine AllO.call Zc (hu) ?_ ?_) <;> (first | refine AllO.pass ?_ | exact rfl | exact Zd)) | refine AllO.consX ZX rfl rfl ?_) | refine Thn.exit ?_ | refine Blk.here ?_ | refine Blk.other (by decide) ?_ | refine ⟨.inl rfl, _, RetOk.ev tabOk Zc, ?_⟩ | fail)
      all_goals try (exfalso; omega)
      refine AWp.loopU (fun k : Nat => [(6, .ic (.lit (.int .i64 (hid A (cN k)))))]) (fun _ => _) (fun k => V.length - k) (fun k => k ≤ V.length ∧ ∀ i, i < k → nodeB K R V P Q i = true) 0 (by conv => lhs; cbv) ⟨Nat.zero_le _, by simp⟩ (by ((repeat' (first | exact subE.nil | refine subE.cons rfl ?_ | refine subE.int rfl ?_ ?_ | refine subE.bool rfl ?_ ?_ | refine subE.str rfl ?_ ?_ | refine subE.sl rfl ?_ ?_))) <;> simp [hA, real, hid, cN]) rfl ?_
      rintro k ⟨hk, hok⟩
      by_cases hlt : k < V.length
      · have hpm : P.getD k default ∈ P := by rw [List.getD_eq_getElem?_getD, List.getElem?_eq_getElem (by omega)]; exact List.getElem_mem _
        have hqm : Q.getD k default ∈ Q := by rw [List.getD_eq_getElem?_getD, List.getElem?_eq_getElem (by omega)]; exact List.getElem_mem _
        have hp := refRow_c hA K S h R V N M P Q hr (P.getD k default) (hP.2 _ hpm) k true
        have hq := refRow_c hA K S h R V N M P Q hr (Q.getD k default) (hQ.2 _ hqm) k false
        have hno : nodeB K R V P Q k = false → allB V.length (nodeB K R V P Q) = false := fun h => allB_f hlt h
        have hnb : nodeB K R V P Q k = (rowB K R V.length (P.getD k default) k true && (rowB K R V.length (Q.getD k default) k false && (decide (V.getD k default = (k : Int)) || decide ((P.getD k default).length = 0 ∧ (Q.getD k default).length = 0)))) := rfl
        have hok2 : nodeB K R V P Q k = true → ∀ i, i < k + 1 → nodeB K R V P Q i = true := fun h i hi => by
          rcases Nat.lt_or_ge i k with h1 | h1
          · exact hok i h1
          · obtain rfl : i = k := by omega
            exact h
        generalize nodeB K R V P Q k = nb at *
        generalize rowB K R V.length (P.getD k default) k true = b1 at *
        generalize rowB K R V.length (Q.getD k default) k false = b2 at *
        have hp2 : ∀ q z, q = P.getD k default → z = (k : Int) → PureCalls Try.prog 61 [keyedPV A K S, grP A R V N M P Q, intsP A q, IP z, BP true] (BP (hid A b1)) := by rintro q z rfl rfl; exact hp
        have hq2 : ∀ q z, q = Q.getD k default → z = (k : Int) → PureCalls Try.prog 61 [keyedPV A K S, grP A R V N M P Q, intsP A q, IP z, BP false] (BP (hid A b2)) := by rintro q z rfl rfl; exact hq
        clear hp hq
        have hn1 : b1 = false → nb = false := fun h => by rw [hnb, h]; rfl
        have hn2 : b2 = false → nb = false := fun h => by rw [hnb, h]; simp
        have hn3 : ¬ V.getD k default = (k : Int) → 0 < (P.getD k default).length ∨ 0 < (Q.getD k default).length → nb = false := fun h1 h2 => by
          rw [hnb, decide_eq_false h1, decide_eq_false (show ¬((P.getD k default).length = 0 ∧ (Q.getD k default).length = 0) by omega)]; simp
        have hn4 : b1 = true → b2 = true → V.getD k default = (k : Int) ∨ ((P.getD k default).length = 0 ∧ (Q.getD k default).length = 0) → nb = true := fun h1 h2 h3 => by
          rw [hnb, h1, h2]; simpa using h3
        clear hnb
        try first | refine AOLg.of [] ?_ | refine QSg.of [] ?_
        repeat' (first | (refine AWp.pass ?_; first | refine AWp.seq ?_ | refine AWp.block ?_ | refine AWp.skip ?_ | refine AWp.regG [] Zc ?_ | refine AWp.cond_t rfl ?_ | refine AWp.cond_f rfl ?_ | (refine AWp.cond rfl ?_ ?_ <;> intro hc <;> (try rw [hc]) <;> ((try simp only [zn] at hc) <;> (try simp (disch := omega) only [zz hA, zb, zy, reduceCtorEq, Bool.false_eq_true, Int.reduceLT, Int.reduceLE, Int.reduceNeg] at hc) <;> (try simp only [zw] at hc)) <;> (try (exfalso; omega))) | refine AWp.exit ?_ | refine AWp.ret ⟨.inr rfl, _, RetOk.ev tabOk Zc, ?_⟩ | refine AWp.drawVG [] rfl (by decide +kernel) Zc ?_) | (refine AOLg.pass ?_; refine AOLg.nx hA tabOk Zc ?_; first | refine NX.done ?_ | refine NX.gt ?_ | refine NX.gf ?_ | (refine NX.gs ?_ ?_ <;> intro hc <;> rw [hc] <;> ((try simp only [zn] at hc) <;> (try simp (disch := omega) only [zz hA, zb, zy, reduceCtorEq, Bool.false_eq_true, Int.reduceLT, Int.reduceLE, Int.reduceNeg] at hc) <;> (try simp only [zw] at hc)) <;> (try (exfalso; omega))) | (refine NX.kC ?_; first | (with_reducible refine NX.call (hp2 _ _ (by simp only [hid_eq hA, cN, Int.toNat_natCast]) (by simp only [hid_eq hA, cN])) ?_) | (with_reducible refine NX.call (hq2 _ _ (by simp only [hid_eq hA, cN, Int.toNat_natCast]) (by simp only [hid_eq hA, cN])) ?_) | ((first | refine NX.call (hp2 _ _ (by simp only [hid_eq hA, cN, Int.toNat_natCast]) (by simp only [hid_eq hA, cN])) ?_ | refine NX.call (hq2 _ _ (by simp only [hid_eq hA, cN, Int.toNat_natCast]) (by simp only [hid_eq hA, cN])) ?_)) | fail) | (refine NX.kO ?_; (first | refine NX.callO (hp2 _ _ (by simp only [hid_eq hA, cN, Int.toNat_natCast]) (by simp only [hid_eq hA, cN])) (by simp [allEq]) rfl ?_ | refine NX.callO (hq2 _ _ (by simp only [hid_eq hA, cN, Int.toNat_natCast]) (by simp only [hid_eq hA, cN])) (by simp [allEq]) rfl ?_)) | refine NX.k 1 (NX.one Z1 ?_) | refine NX.k 7 (NX.one Z7 ?_) | refine NX.k 9 (NX.one Z9 ?_) | refine NX.k 10 (NX.one Z10 ?_) | refine NX.k 14 (NX.one Z14 ?_) | refine NX.k 18 (NX.one Z18 ?_) | refine NX.raw ?_) | (refine TRg.pass ?_; refine TRg.nx hA tabOk Zc ?_; first | refine TX.done ?_ | refine TX.gt ?_ | refine TX.gf ?_ | (refine TX.gs ?_ ?_ <;> intro hc <;> rw [hc] <;> ((try simp only [zn] at hc) <;> (try simp (disch := omega) only [zz hA, zb, zy, reduceCtorEq, Bool.false_eq_true, Int.reduceLT, Int.reduceLE, Int.reduceNeg] at hc) <;> (try simp only [zw] at hc)) <;> (try (exfalso; omega))) | (refine TX.kC ?_; first | (with_reducible refine TX.call (hp2 _ _ (by simp only [hid_eq hA, cN, Int.toNat_natCast]) (by simp only [hid_eq hA, cN])) ?_) | (with_reducible refine TX.call (hq2 _ _ (by simp only [hid_eq hA, cN, Int.toNat_natCast]) (by simp only [hid_eq hA, cN])) ?_) | ((first | refine TX.call (hp2 _ _ (by simp only [hid_eq hA, cN, Int.toNat_natCast]) (by simp only [hid_eq hA, cN])) ?_ | refine TX.call (hq2 _ _ (by simp only [hid_eq hA, cN, Int.toNat_natCast]) (by simp only [hid_eq hA, cN])) ?_)) | fail) | (refine TX.kO ?_; (first | refine TX.callO (hp2 _ _ (by simp only [hid_eq hA, cN, Int.toNat_natCast]) (by simp only [hid_eq hA, cN])) (by simp [allEq]) rfl ?_ | refine TX.callO (hq2 _ _ (by simp only [hid_eq hA, cN, Int.toNat_natCast]) (by simp only [hid_eq hA, cN])) (by simp [allEq]) rfl ?_)) | refine TX.k 1 (TX.one Z1 ?_) | refine TX.k 7 (TX.one Z7 ?_) | refine TX.k 9 (TX.one Z9 ?_) | refine TX.k 10 (TX.one Z10 ?_) | refine TX.k 14 (TX.one Z14 ?_) | refine TX.k 18 (TX.one Z18 ?_) | refine TX.raw ?_) | refine Fin3.of Zc (by repeat' (first | exact True.intro | exact rfl | refine And.intro ?_ ?_)) ?_ ?_ | (refine AllO.pass ?_; first | exact AllO.nil | (refine AllO.cons (One.ev hA tabOk ?_) ?_ <;> (first | refine AllO.pass ?_ | ((conv => lhs; cbv); done))) | (refine AllO.cons (One.skipB ?_) ?_ <;> (first | refine AllO.pass ?_ | ((conv => lhs; cbv); done))) | ((with_reducible refine AllO.call Zc (hp2 _ _ (by simp only [hid_eq hA, cN, Int.toNat_natCast]) (by simp only [hid_eq hA, cN])) ?_ ?_) <;> (first | refine AllO.pass ?_ | exact rfl | exact Zd)) | ((with_reducible refine AllO.call Zc (hq2 _ _ (by simp only [hid_eq hA, cN, Int.toNat_natCast]) (by simp only [hid_eq hA, cN])) ?_ ?_) <;> (first | refine AllO.pass ?_ | exact rfl | exact Zd)) | refine AllO.consX ZX rfl rfl ?_) | refine Thn.exit ?_ | refine Blk.here ?_ | refine Blk.other (by decide) ?_ | refine ⟨.inl rfl, _, RetOk.ev tabOk Zc, ?_⟩ | fail)
        · refine rPV_then (by conv => lhs; cbv) ?_
          rw [hno (hn1 hc), hid_eq hA]
        · refine rPV_then (by conv => lhs; cbv) ?_
          rw [hno (hn2 hc), hid_eq hA]
        · refine rPV_then (by conv => lhs; cbv) ?_
          rw [hno (hn3 (by assumption) (.inl (by omega))), hid_eq hA]
        · refine rPV_then (by conv => lhs; cbv) ?_
          rw [hno (hn3 (by assumption) (.inr (by omega))), hid_eq hA]
        · refine ⟨k + 1, ?_, ?_, rfl, rfl, ?_, Zk⟩ <;> (try omega)
          repeat' (first | exact subE.nil | refine subE.cons rfl ?_ | refine subE.int rfl ?_ ?_ | refine subE.bool rfl ?_ ?_ | refine subE.str rfl ?_ ?_ | refine subE.sl rfl ?_ ?_)
          · exact ⟨by omega, hok2 (hn4 (by assumption) (by assumption) (.inr (by omega)))⟩
          · exact Zd
        · refine ⟨k + 1, ?_, ?_, rfl, rfl, ?_, Zk⟩ <;> (try omega)
          repeat' (first | exact subE.nil | refine subE.cons rfl ?_ | refine subE.int rfl ?_ ?_ | refine subE.bool rfl ?_ ?_ | refine subE.str rfl ?_ ?_ | refine subE.sl rfl ?_ ?_)
          · exact ⟨by omega, hok2 (hn4 (by assumption) (by assumption) (.inl (by assumption)))⟩
          · exact Zd
      · try first | refine AOLg.of [] ?_ | refine QSg.of [] ?_
        repeat' (first | (refine AWp.pass ?_; first | refine AWp.seq ?_ | refine AWp.block ?_ | refine AWp.skip ?_ | refine AWp.regG [] Zc ?_ | refine AWp.cond_t rfl ?_ | refine AWp.cond_f rfl ?_ | (refine AWp.cond rfl ?_ ?_ <;> intro hc <;> (try rw [hc]) <;> ((try simp only [zn] at hc) <;> (try simp (disch := omega) only [zz hA, zb, zy, reduceCtorEq, Bool.false_eq_true, Int.reduceLT, Int.reduceLE, Int.reduceNeg] at hc) <;> (try simp only [zw] at hc)) <;> (try (exfalso; omega))) | refine AWp.exit ?_ | refine AWp.ret ⟨.inr rfl, _, RetOk.ev tabOk Zc, ?_⟩ | refine AWp.drawVG [] rfl (by decide +kernel) Zc ?_) | (refine AOLg.pass ?_; refine AOLg.nx hA tabOk Zc ?_; first | refine NX.done ?_ | refine NX.gt ?_ | refine NX.gf ?_ | (refine NX.gs ?_ ?_ <;> intro hc <;> rw [hc] <;> ((try simp only [zn] at hc) <;> (try simp (disch := omega) only [zz hA, zb, zy, reduceCtorEq, Bool.false_eq_true, Int.reduceLT, Int.reduceLE, Int.reduceNeg] at hc) <;> (try simp only [zw] at hc)) <;> (try (exfalso; omega))) | refine NX.k 1 (NX.one Z1 ?_) | refine NX.k 7 (NX.one Z7 ?_) | refine NX.k 9 (NX.one Z9 ?_) | refine NX.k 10 (NX.one Z10 ?_) | refine NX.k 14 (NX.one Z14 ?_) | refine NX.k 18 (NX.one Z18 ?_) | refine NX.raw ?_) | (refine TRg.pass ?_; refine TRg.nx hA tabOk Zc ?_; first | refine TX.done ?_ | refine TX.gt ?_ | refine TX.gf ?_ | (refine TX.gs ?_ ?_ <;> intro hc <;> rw [hc] <;> ((try simp only [zn] at hc) <;> (try simp (disch := omega) only [zz hA, zb, zy, reduceCtorEq, Bool.false_eq_true, Int.reduceLT, Int.reduceLE, Int.reduceNeg] at hc) <;> (try simp only [zw] at hc)) <;> (try (exfalso; omega))) | refine TX.k 1 (TX.one Z1 ?_) | refine TX.k 7 (TX.one Z7 ?_) | refine TX.k 9 (TX.one Z9 ?_) | refine TX.k 10 (TX.one Z10 ?_) | refine TX.k 14 (TX.one Z14 ?_) | refine TX.k 18 (TX.one Z18 ?_) | refine TX.raw ?_) | refine Fin3.of Zc (by repeat' (first | exact True.intro | exact rfl | refine And.intro ?_ ?_)) ?_ ?_ | (refine AllO.pass ?_; first | exact AllO.nil | (refine AllO.cons (One.ev hA tabOk ?_) ?_ <;> (first | refine AllO.pass ?_ | ((conv => lhs; cbv); done))) | (refine AllO.cons (One.skipB ?_) ?_ <;> (first | refine AllO.pass ?_ | ((conv => lhs; cbv); done))) | refine AllO.consX ZX rfl rfl ?_) | refine Thn.exit ?_ | refine Blk.here ?_ | refine Blk.other (by decide) ?_ | refine ⟨.inl rfl, _, RetOk.ev tabOk Zc, ?_⟩ | fail)
        refine rPV_then (by conv => lhs; cbv) ?_
        rw [show allB V.length (nodeB K R V P Q) = true from allB_t fun i hi => hok i (by omega), hid_eq hA]
    · rw [decide_eq_false hC, Bool.false_and]
      try first | refine AOLg.of [] ?_ | refine QSg.of [] ?_
      repeat' (first | (refine AWp.pass ?_; first | refine AWp.seq ?_ | refine AWp.block ?_ | refine AWp.skip ?_ | refine AWp.regG [] Zc ?_ | refine AWp.cond_t rfl ?_ | refine AWp.cond_f rfl ?_ | (refine AWp.cond rfl ?_ ?_ <;> intro hc <;> (try rw [hc]) <;> ((try simp only [zn] at hc) <;> (try simp (disch := omega) only [zz hA, zb, zy, reduceCtorEq, Bool.false_eq_true, Int.reduceLT, Int.reduceLE, Int.reduceNeg] at hc) <;> (try simp only [zw] at hc)) <;> (try (exfalso; omega))) | refine AWp.exit ?_ | refine AWp.ret ⟨.inr rfl, _, RetOk.ev tabOk Zc, ?_⟩ | refine AWp.drawVG [] rfl (by decide +kernel) Zc ?_) | (refine AOLg.pass ?_; refine AOLg.nx hA tabOk Zc ?_; first | refine NX.done ?_ | refine NX.gt ?_ | refine NX.gf ?_ | (refine NX.gs ?_ ?_ <;> intro hc <;> rw [hc] <;> ((try simp only [zn] at hc) <;> (try simp (disch := omega) only [zz hA, zb, zy, reduceCtorEq, Bool.false_eq_true, Int.reduceLT, Int.reduceLE, Int.reduceNeg] at hc) <;> (try simp only [zw] at hc)) <;> (try (exfalso; omega))) | (refine NX.kC ?_; first | (with_reducible refine NX.call (hu) ?_) | ((first | refine NX.call (hu) ?_)) | fail) | (refine NX.kO ?_; (first | refine NX.callO (hu) (by simp [allEq]) rfl ?_)) | refine NX.k 1 (NX.one Z1 ?_) | refine NX.k 7 (NX.one Z7 ?_) | refine NX.k 9 (NX.one Z9 ?_) | refine NX.k 10 (NX.one Z10 ?_) | refine NX.k 14 (NX.one Z14 ?_) | refine NX.k 18 (NX.one Z18 ?_) | refine NX.raw ?_) | (refine TRg.pass ?_; refine TRg.nx hA tabOk Zc ?_; first | refine TX.done ?_ | refine TX.gt ?_ | refine TX.gf ?_ | (refine TX.gs ?_ ?_ <;> intro hc <;> rw [hc] <;> ((try simp only [zn] at hc) <;> (try simp (disch := omega) only [zz hA, zb, zy, reduceCtorEq, Bool.false_eq_true, Int.reduceLT, Int.reduceLE, Int.reduceNeg] at hc) <;> (try simp only [zw] at hc)) <;> (try (exfalso; omega))) | (refine TX.kC ?_; first | (with_reducible refine TX.call (hu) ?_) | ((first | refine TX.call (hu) ?_)) | fail) | (refine TX.kO ?_; (first | refine TX.callO (hu) (by simp [allEq]) rfl ?_)) | refine TX.k 1 (TX.one Z1 ?_) | refine TX.k 7 (TX.one Z7 ?_) | refine TX.k 9 (TX.one Z9 ?_) | refine TX.k 10 (TX.one Z10 ?_) | refine TX.k 14 (TX.one Z14 ?_) | refine TX.k 18 (TX.one Z18 ?_) | refine TX.raw ?_) | refine Fin3.of Zc (by repeat' (first | exact True.intro | exact rfl | refine And.intro ?_ ?_)) ?_ ?_ | (refine AllO.pass ?_; first | exact AllO.nil | (refine AllO.cons (One.ev hA tabOk ?_) ?_ <;> (first | refine AllO.pass ?_ | ((conv => lhs; cbv); done))) | (refine AllO.cons (One.skipB ?_) ?_ <;> (first | refine AllO.pass ?_ | ((conv => lhs; cbv); done))) | ((with_reducible refine AllO.call Zc (hu) ?_ ?_) <;> (first | refine AllO.pass ?_ | exact rfl | exact Zd)) | refine AllO.consX ZX rfl rfl ?_) | refine Thn.exit ?_ | refine Blk.here ?_ | refine Blk.other (by decide) ?_ | refine ⟨.inl rfl, _, RetOk.ev tabOk Zc, ?_⟩ | fail)
      all_goals first | (exfalso; omega) | (refine rPV_then (by conv => lhs; cbv) ?_; simp only [hid_eq hA]; done) | (refine rPV_then (by conv => lhs; cbv) ?_; rw [hid_eq hA])
end Go.Proofs.Ytkkjlmcnfoncdaa.Aw

/- Contracts of the document's answer for package ifg, part 5: few; what all laws ask. -/
set_option linter.unusedVariables false
set_option linter.unusedSimpArgs false
set_option linter.unusedSectionVars false
namespace Go.Proofs.Ytkkjlmcnfoncdaa.Aw
open Go Go.RowKit
set_option maxRecDepth 10000
attribute [local irreducible] AWp AOL QS One AOLg QSg NX QX TRg TX AllO Fin3
def sumL (P : List (List Int)) : Nat → Nat
  | 0 => 0
  | k + 1 => sumL P k + (P.getD k default).length
theorem sumL_mono (P : List (List Int)) {j n : Nat} (h : j ≤ n) : sumL P j ≤ sumL P n := by
  induction n with
  | zero => obtain rfl : j = 0 := by omega
            exact Nat.le_refl _
  | succ n ih =>
    rcases Nat.lt_or_ge j (n + 1) with h1 | h1
    · have := ih (by omega)
      rw [show sumL P (n + 1) = sumL P n + (P.getD n default).length from rfl]; omega
    · obtain rfl : j = n + 1 := by omega
      exact Nat.le_refl _
theorem sumL_mem (P : List (List Int)) {x : List Int} (h : x ∈ P) : x.length ≤ sumL P P.length := by
  obtain ⟨i, hi, e⟩ := List.mem_iff_getElem.1 h
  have h1 := sumL_mono P (show i + 1 ≤ P.length by omega)
  rw [show sumL P (i + 1) = sumL P i + (P.getD i default).length from rfl, List.getD_eq_getElem?_getD, List.getElem?_eq_getElem hi, Option.getD_some, e] at h1
  omega
def baseG (R V : List Int) (N : List (Int × Int)) (M : List Int) (P Q : List (List Int)) : Nat := R.length + V.length + N.length + M.length + P.length + Q.length
def fewGr (R V : List Int) (N : List (Int × Int)) (M : List Int) (P Q : List (List Int)) : Bool := decide (baseG R V N M P Q + sumL P P.length + sumL Q Q.length ≤ 1000)
structure FitGr (R V : List Int) (N : List (Int × Int)) (M : List Int) (P Q : List (List Int)) : Prop where
  r : R.length ≤ 140737488351232
  v : V.length ≤ 140737488351232
  n : N.length ≤ 140737488351232
  m : M.length ≤ 140737488351232
  p : P.length ≤ 140737488351232
  q : Q.length ≤ 140737488351232
  ps : ∀ x ∈ P, x.length ≤ 140737488351232
  qs : ∀ x ∈ Q, x.length ≤ 140737488351232
variable {A : Ar} (hA : A = real)
include hA
set_option maxHeartbeats 2000000 in
theorem refGFew_c (R V : List Int) (N : List (Int × Int)) (M : List Int) (P Q : List (List Int)) (hf : FitGr R V N M P Q) :
    PureCalls Try.prog 37 [grP A R V N M P Q] (BP (hid A (fewGr R V N M P Q))) := by
  obtain ⟨h1, h2, h3, h4, h5, h6, h7, h8⟩ := hf
  refine PureCalls.of Try.func37 rfl (by kernel_rfl) rfl ?_
  unfold fewGr
  obtain ⟨B, hB⟩ : ∃ B, B = baseG R V N M P Q := ⟨_, rfl⟩
  rw [← hB]
  unfold baseG at hB
  have hpm : ∀ i, i < P.length → (P.getD i default).length ≤ 140737488351232 := fun i hi => h7 _ (by rw [List.getD_eq_getElem?_getD, List.getElem?_eq_getElem hi]; exact List.getElem_mem _)
  have hqm : ∀ i, i < Q.length → (Q.getD i default).length ≤ 140737488351232 := fun i hi => h8 _ (by rw [List.getD_eq_getElem?_getD, List.getElem?_eq_getElem hi]; exact List.getElem_mem _)
  clear h7 h8
  try first | refine AOLg.of [] ?_ | refine QSg.of [] ?_
  repeat' (first | (refine AWp.pass ?_; first | refine AWp.seq ?_ | refine AWp.block ?_ | refine AWp.skip ?_ | refine AWp.regG [] Zc ?_ | refine AWp.cond_t rfl ?_ | refine AWp.cond_f rfl ?_ | (refine AWp.cond rfl ?_ ?_ <;> intro hc <;> (try rw [hc]) <;> ((try simp only [zn] at hc) <;> (try simp (disch := omega) only [zz hA, zb, zy, reduceCtorEq, Bool.false_eq_true, Int.reduceLT, Int.reduceLE, Int.reduceNeg] at hc) <;> (try simp only [zw] at hc)) <;> (try (exfalso; omega))) | refine AWp.exit ?_ | refine AWp.ret ⟨.inr rfl, _, RetOk.ev tabOk Zc, ?_⟩) | (refine AOLg.pass ?_; refine AOLg.nx hA tabOk Zc ?_; first | refine NX.done ?_ | refine NX.gt ?_ | refine NX.gf ?_ | (refine NX.gs ?_ ?_ <;> intro hc <;> rw [hc] <;> ((try simp only [zn] at hc) <;> (try simp (disch := omega) only [zz hA, zb, zy, reduceCtorEq, Bool.false_eq_true, Int.reduceLT, Int.reduceLE, Int.reduceNeg] at hc) <;> (try simp only [zw] at hc)) <;> (try (exfalso; omega))) | refine NX.k 1 (NX.one Z1 ?_) | refine NX.k 7 (NX.one Z7 ?_) | refine NX.k 10 (NX.one Z10 ?_) | refine NX.k 14 (NX.one Z14 ?_) | refine NX.k 18 (NX.one Z18 ?_) | refine NX.raw ?_) | refine Thn.exit ?_ | refine Blk.here ?_ | refine Blk.other (by decide) ?_ | refine ⟨.inl rfl, _, RetOk.ev tabOk Zc, ?_⟩ | fail)
  refine AWp.loopU (fun i : Nat => [(3, .ic (.lit (.int .i64 (hid A (cN (B + sumL P i)))))), (4, .ic (.lit (.int .i64 (hid A (cN i)))))]) (fun _ => _) (fun i => P.length - i) (fun i => i ≤ P.length ∧ B + sumL P i ≤ 10000000000000000) 0 (by conv => lhs; cbv) ⟨Nat.zero_le _, by simp only [sumL]; omega⟩ (by ((repeat' (first | exact subE.nil | refine subE.cons rfl ?_ | refine subE.int rfl ?_ ?_ | refine subE.bool rfl ?_ ?_ | refine subE.str rfl ?_ ?_ | refine subE.sl rfl ?_ ?_))) <;> first | (exact Zd) | (simp only [sumL]; exact Zd)) rfl ?_
  rintro i ⟨hi, hb⟩
  have hmi := sumL_mono P hi
  by_cases hlt : i < P.length ∧ B + sumL P i ≤ 1000
  · have hr := hpm i hlt.1
    have es : sumL P (i + 1) = sumL P i + (P.getD i default).length := rfl
    generalize hs2 : sumL P (i + 1) = s2 at *
    generalize sumL P i = s1 at *
    try first | refine AOLg.of [] ?_ | refine QSg.of [] ?_
    repeat' (first | (refine AWp.pass ?_; first | refine AWp.seq ?_ | refine AWp.block ?_ | refine AWp.skip ?_ | refine AWp.regG [] Zc ?_ | refine AWp.cond_t rfl ?_ | refine AWp.cond_f rfl ?_ | (refine AWp.cond rfl ?_ ?_ <;> intro hc <;> (try rw [hc]) <;> ((try simp only [zn] at hc) <;> (try simp (disch := omega) only [zz hA, zb, zy, reduceCtorEq, Bool.false_eq_true, Int.reduceLT, Int.reduceLE, Int.reduceNeg] at hc) <;> (try simp only [zw] at hc)) <;> (try (exfalso; omega))) | refine AWp.exit ?_ | refine AWp.ret ⟨.inr rfl, _, RetOk.ev tabOk Zc, ?_⟩) | (refine AOLg.pass ?_; refine AOLg.nx hA tabOk Zc ?_; first | refine NX.done ?_ | refine NX.gt ?_ | refine NX.gf ?_ | (refine NX.gs ?_ ?_ <;> intro hc <;> rw [hc] <;> ((try simp only [zn] at hc) <;> (try simp (disch := omega) only [zz hA, zb, zy, reduceCtorEq, Bool.false_eq_true, Int.reduceLT, Int.reduceLE, Int.reduceNeg] at hc) <;> (try simp only [zw] at hc)) <;> (try (exfalso; omega))) | refine NX.k 1 (NX.one Z1 ?_) | refine NX.k 7 (NX.one Z7 ?_) | refine NX.k 10 (NX.one Z10 ?_) | refine NX.k 14 (NX.one Z14 ?_) | refine NX.k 18 (NX.one Z18 ?_) | refine NX.raw ?_) | refine Thn.exit ?_ | refine Blk.here ?_ | refine Blk.other (by decide) ?_ | refine ⟨.inl rfl, _, RetOk.ev tabOk Zc, ?_⟩ | fail)
    all_goals try (exfalso; omega)
    refine ⟨i + 1, ?_, ?_, rfl, rfl, ?_, Zk⟩ <;> (try omega)
    repeat' (first | exact subE.nil | refine subE.cons rfl ?_ | refine subE.int rfl ?_ ?_ | refine subE.bool rfl ?_ ?_ | refine subE.str rfl ?_ ?_ | refine subE.sl rfl ?_ ?_)
    all_goals first | (rw [hs2]; omega) | (rw [hs2]; exact Zd) | exact Zd
  · try first | refine AOLg.of [] ?_ | refine QSg.of [] ?_
    repeat' (first | (refine AWp.pass ?_; first | refine AWp.seq ?_ | refine AWp.block ?_ | refine AWp.skip ?_ | refine AWp.regG [] Zc ?_ | refine AWp.cond_t rfl ?_ | refine AWp.cond_f rfl ?_ | (refine AWp.cond rfl ?_ ?_ <;> intro hc <;> (try rw [hc]) <;> ((try simp only [zn] at hc) <;> (try simp (disch := omega) only [zz hA, zb, zy, reduceCtorEq, Bool.false_eq_true, Int.reduceLT, Int.reduceLE, Int.reduceNeg] at hc) <;> (try simp only [zw] at hc)) <;> (try (exfalso; omega))) | refine AWp.exit ?_ | refine AWp.ret ⟨.inr rfl, _, RetOk.ev tabOk Zc, ?_⟩) | (refine AOLg.pass ?_; refine AOLg.nx hA tabOk Zc ?_; first | refine NX.done ?_ | refine NX.gt ?_ | refine NX.gf ?_ | (refine NX.gs ?_ ?_ <;> intro hc <;> rw [hc] <;> ((try simp only [zn] at hc) <;> (try simp (disch := omega) only [zz hA, zb, zy, reduceCtorEq, Bool.false_eq_true, Int.reduceLT, Int.reduceLE, Int.reduceNeg] at hc) <;> (try simp only [zw] at hc)) <;> (try (exfalso; omega))) | refine NX.k 1 (NX.one Z1 ?_) | refine NX.k 7 (NX.one Z7 ?_) | refine NX.k 10 (NX.one Z10 ?_) | refine NX.k 14 (NX.one Z14 ?_) | refine NX.k 18 (NX.one Z18 ?_) | refine NX.raw ?_) | refine Thn.exit ?_ | refine Blk.here ?_ | refine Blk.other (by decide) ?_ | refine ⟨.inl rfl, _, RetOk.ev tabOk Zc, ?_⟩ | fail)
    all_goals try (exfalso; omega)
    all_goals
      have hex : i = P.length ∨ 1000 < B + sumL P i := by omega
      clear hpm hlt hc
      refine AWp.loopU (fun j : Nat => [(3, .ic (.lit (.int .i64 (hid A (cN (B + sumL P i + sumL Q j)))))), (5, .ic (.lit (.int .i64 (hid A (cN j)))))]) (fun _ => _) (fun j => Q.length - j) (fun j => j ≤ Q.length ∧ B + sumL P i + sumL Q j ≤ 20000000000000000) 0 (by conv => lhs; cbv) ⟨Nat.zero_le _, by simp only [sumL]; omega⟩ (by ((repeat' (first | exact subE.nil | refine subE.cons rfl ?_ | refine subE.int rfl ?_ ?_ | refine subE.bool rfl ?_ ?_ | refine subE.str rfl ?_ ?_ | refine subE.sl rfl ?_ ?_))) <;> first | (exact Zd) | (simp only [sumL]; exact Zd)) rfl ?_
      rintro j ⟨hj, hb2⟩
      have hmj := sumL_mono Q hj
      by_cases hlt2 : j < Q.length ∧ B + sumL P i + sumL Q j ≤ 1000
      · have hr2 := hqm j hlt2.1
        have es2 : sumL Q (j + 1) = sumL Q j + (Q.getD j default).length := rfl
        generalize hs4 : sumL Q (j + 1) = s4 at *
        generalize sumL Q j = s3 at *
        try first | refine AOLg.of [] ?_ | refine QSg.of [] ?_
        repeat' (first | (refine AWp.pass ?_; first | refine AWp.seq ?_ | refine AWp.block ?_ | refine AWp.skip ?_ | refine AWp.regG [] Zc ?_ | refine AWp.cond_t rfl ?_ | refine AWp.cond_f rfl ?_ | (refine AWp.cond rfl ?_ ?_ <;> intro hc <;> (try rw [hc]) <;> ((try simp only [zn] at hc) <;> (try simp (disch := omega) only [zz hA, zb, zy, reduceCtorEq, Bool.false_eq_true, Int.reduceLT, Int.reduceLE, Int.reduceNeg] at hc) <;> (try simp only [zw] at hc)) <;> (try (exfalso; omega))) | refine AWp.exit ?_ | refine AWp.ret ⟨.inr rfl, _, RetOk.ev tabOk Zc, ?_⟩) | (refine AOLg.pass ?_; refine AOLg.nx hA tabOk Zc ?_; first | refine NX.done ?_ | refine NX.gt ?_ | refine NX.gf ?_ | (refine NX.gs ?_ ?_ <;> intro hc <;> rw [hc] <;> ((try simp only [zn] at hc) <;> (try simp (disch := omega) only [zz hA, zb, zy, reduceCtorEq, Bool.false_eq_true, Int.reduceLT, Int.reduceLE, Int.reduceNeg] at hc) <;> (try simp only [zw] at hc)) <;> (try (exfalso; omega))) | refine NX.k 1 (NX.one Z1 ?_) | refine NX.k 7 (NX.one Z7 ?_) | refine NX.k 10 (NX.one Z10 ?_) | refine NX.k 14 (NX.one Z14 ?_) | refine NX.k 18 (NX.one Z18 ?_) | refine NX.raw ?_) | refine Thn.exit ?_ | refine Blk.here ?_ | refine Blk.other (by decide) ?_ | refine ⟨.inl rfl, _, RetOk.ev tabOk Zc, ?_⟩ | fail)
        all_goals try (exfalso; omega)
        all_goals
          refine ⟨j + 1, ?_, ?_, rfl, rfl, ?_, Zk⟩ <;> (try omega)
          repeat' (first | exact subE.nil | refine subE.cons rfl ?_ | refine subE.int rfl ?_ ?_ | refine subE.bool rfl ?_ ?_ | refine subE.str rfl ?_ ?_ | refine subE.sl rfl ?_ ?_)
          all_goals first | (rw [hs4]; omega) | (rw [hs4]; exact Zd) | exact Zd
      · have hex2 : j = Q.length ∨ 1000 < B + sumL P i + sumL Q j := by omega
        have hfin : (B + sumL P i + sumL Q j ≤ 1000) ↔ (B + sumL P P.length + sumL Q Q.length ≤ 1000) := by
          rcases hex with rfl | h1
          · rcases hex2 with rfl | h2
            · exact Iff.rfl
            · exact ⟨fun h => by omega, fun h => by omega⟩
          · exact ⟨fun h => by omega, fun h => by omega⟩
        try first | refine AOLg.of [] ?_ | refine QSg.of [] ?_
        repeat' (first | (refine AWp.pass ?_; first | refine AWp.seq ?_ | refine AWp.block ?_ | refine AWp.skip ?_ | refine AWp.regG [] Zc ?_ | refine AWp.cond_t rfl ?_ | refine AWp.cond_f rfl ?_ | (refine AWp.cond rfl ?_ ?_ <;> intro hc <;> (try rw [hc]) <;> ((try simp only [zn] at hc) <;> (try simp (disch := omega) only [zz hA, zb, zy, reduceCtorEq, Bool.false_eq_true, Int.reduceLT, Int.reduceLE, Int.reduceNeg] at hc) <;> (try simp only [zw] at hc)) <;> (try (exfalso; omega))) | refine AWp.exit ?_ | refine AWp.ret ⟨.inr rfl, _, RetOk.ev tabOk Zc, ?_⟩) | (refine AOLg.pass ?_; refine AOLg.nx hA tabOk Zc ?_; first | refine NX.done ?_ | refine NX.gt ?_ | refine NX.gf ?_ | (refine NX.gs ?_ ?_ <;> intro hc <;> rw [hc] <;> ((try simp only [zn] at hc) <;> (try simp (disch := omega) only [zz hA, zb, zy, reduceCtorEq, Bool.false_eq_true, Int.reduceLT, Int.reduceLE, Int.reduceNeg] at hc) <;> (try simp only [zw] at hc)) <;> (try (exfalso; omega))) | refine NX.k 1 (NX.one Z1 ?_) | refine NX.k 7 (NX.one Z7 ?_) | refine NX.k 10 (NX.one Z10 ?_) | refine NX.k 14 (NX.one Z14 ?_) | refine NX.k 18 (NX.one Z18 ?_) | refine NX.raw ?_) | refine Thn.exit ?_ | refine Blk.here ?_ | refine Blk.other (by decide) ?_ | refine ⟨.inl rfl, _, RetOk.ev tabOk Zc, ?_⟩ | fail)
        all_goals try (exfalso; omega)
        all_goals (refine rPV_then (by conv => lhs; cbv) ?_; simp only [hid_eq hA, cN, ← hfin]; refine congrArg (fun b => PV.c (IC.lit (Value.bool b))) ?_; rw [Bool.eq_iff_iff]; simp [hA, real]; omega)
/-- What all laws ask of a store and a graph. -/
structure OfG (l : List Sg) (K : List (List Int)) (S R V : List Int) (N : List (Int × Int)) (M : List Int) (P Q : List (List Int)) : Prop where
  st : StK K S
  ru : RightU V R
  all : allV K V.length = true
  few : baseG R V N M P Q + sumL P P.length + sumL Q Q.length ≤ 1000
  right : rightGr K R V N M P Q = true
omit hA in
theorem OfG.len {l : List Sg} {K : List (List Int)} {S R V : List Int} {N : List (Int × Int)} {M : List Int} {P Q : List (List Int)} (h : OfG l K S R V N M P Q) : R.length ≤ 1000 ∧ V.length ≤ 1000 ∧ N.length ≤ 1000 ∧ M.length = 0 ∧ P.length = V.length ∧ Q.length = V.length ∧ (∀ x ∈ P, x.length ≤ 1000) ∧ (∀ x ∈ Q, x.length ≤ 1000) := by
  have h1 := h.few
  have h2 := h.right
  unfold baseG at h1
  unfold rightGr at h2
  simp only [Bool.and_eq_true, decide_eq_true_eq] at h2
  refine ⟨by omega, by omega, by omega, h2.2.1.1, h2.2.1.2.1, h2.2.1.2.2, fun x hx => ?_, fun x hx => ?_⟩
  · have := sumL_mem P hx; omega
  · have := sumL_mem Q hx; omega
end Go.Proofs.Ytkkjlmcnfoncdaa.Aw

/- Two variables made one: a plain law. -/
set_option linter.unusedVariables false
set_option linter.unusedSimpArgs false
set_option linter.unusedSectionVars false
namespace Go.Proofs.Ytkkjlmcnfoncdaa.Aw
open Go Go.RowKit
set_option maxRecDepth 10000
/-- What is so where two classes become one. -/
structure Joined (V R : List Int) (x y p q first gone : Int) (V' : List Int) : Prop where
  px : findU V x = p
  qy : findU V y = q
  ne : p ≠ q
  v' : joinV V R p q = V'
  fp : findU V' p = first
  fx : findU V' x = first
  fy : findU V' y = first
  go : gone = p + q - first
  own : first = p ∨ first = q
  p0 : 0 ≤ p ∧ p < V.length
  q0 : 0 ≤ q ∧ q < V.length
  f0 : 0 ≤ first ∧ first < V.length
  g0 : 0 ≤ gone ∧ gone < V.length
  ru : RightU V' R
  len : V'.length = V.length
  old : ∀ v : Nat, (v : Int) ≠ gone → V'.getD v default = V.getD v default
theorem joined {V R : List Int} (hR : RightU V R) {x y : Int} (x0 : 0 ≤ x) (x1 : x < V.length) (y0 : 0 ≤ y) (y1 : y < V.length) (hne : findU V x ≠ findU V y) :
    ∃ first gone, Joined V R x y (findU V x) (findU V y) first gone (joinV V R (findU V x) (findU V y)) := by
  have hp := find_range hR x0 x1
  have hq := find_range hR y0 y1
  have ep := find_find hR x0 x1
  have eq := find_find hR y0 y1
  generalize hpd : findU V x = p at *
  generalize hqd : findU V y = q at *
  have hne2 : findU V p ≠ findU V q := by rw [ep, eq]; exact hne
  have hj := joinP_ok hR hp.1 hp.2 hq.1 hq.2 hne2
  rw [ep, eq] at hj
  have hf := fun (n : Int) (n0 : 0 ≤ n) (n1 : n < V.length) => joinV_find hR hp.1 hp.2 hq.1 hq.2 n0 n1
  have hr := joinV_right hR hp.1 hp.2 hq.1 hq.2
  have hl := joinV_len V R p q
  have fp := hf p hp.1 hp.2
  have fx := hf x x0 x1
  have fy := hf y y0 y1
  rw [if_pos (.inl rfl)] at fp
  rw [hpd, ep, if_pos (.inl rfl)] at fx
  rw [hqd, eq, if_pos (.inr rfl)] at fy
  have hv : joinV V R p q = V.set (joinP V R p q).2.toNat (joinP V R p q).1 := by unfold joinV; rw [if_neg hne2]
  refine ⟨(joinP V R p q).1, (joinP V R p q).2, ⟨hpd, hqd, hne, rfl, fp, fx, fy, ?_, ?_, hp, hq, ?_, ?_, hr, hl, fun v hvg => ?_⟩⟩
  · rcases hj.2 with ⟨h1, h2⟩ | ⟨h1, h2⟩ <;> rw [h1, h2] <;> omega
  · rcases hj.2 with ⟨h1, h2⟩ | ⟨h1, h2⟩
    · exact .inl h1
    · exact .inr h1
  · rcases hj.2 with ⟨h1, h2⟩ | ⟨h1, h2⟩ <;> rw [h1] <;> assumption
  · rcases hj.2 with ⟨h1, h2⟩ | ⟨h1, h2⟩ <;> rw [h2] <;> assumption
  · have g0 : 0 ≤ (joinP V R p q).2 ∧ (joinP V R p q).2 < V.length := by rcases hj.2 with ⟨h1, h2⟩ | ⟨h1, h2⟩ <;> rw [h2] <;> assumption
    rw [hv, getD_setU _ _ _ (by omega), if_neg (by omega)]
def outs (K : List (List Int)) (V' : List Int) (first : Int) (pre suc : List Int) : List (Int × Int) := pre.map (fun id => (repM K V' id, atV K first)) ++ suc.map (fun id => (atV K first, repM K V' id))
end Go.Proofs.Ytkkjlmcnfoncdaa.Aw

/- Contract of the document's answer for package ifg: a constraint of two variables is added. -/
set_option linter.unusedVariables false
set_option linter.unusedSimpArgs false
set_option linter.unusedSectionVars false
namespace Go.Proofs.Ytkkjlmcnfoncdaa.Aw
open Go Go.RowKit
set_option maxRecDepth 10000
attribute [local irreducible] AWp AOL QS One AOLg QSg NX QX TRg TX AllO Fin3
attribute [local irreducible] W.TRg W.TX W.AllO W.Fin3
theorem takeMap {α β : Type} [Inhabited α] (f : α → β) (l : List α) (k : Nat) (h : k < l.length) : (l.take (k + 1)).map f = (l.take k).map f ++ [f (l.getD k default)] := by
  rw [List.take_add_one, List.map_append, List.getD_eq_getElem?_getD, List.getElem?_eq_getElem h]
  rfl
theorem rPV_gr4 {st : List AObj} {k w e2 s2 : Nat} {m2 : Bool} {zs : List (List IC)} {a b c d x y z : IC} (h4 : st[k]? = some (.row m2 w e2 s2 zs)) :
    rPV st (.tup [.agg [.ic a, .ic b, .ic c, .ic d, .ic x, .ic y], .own k w, .ic z]) = some (.tup [.agg [a, b, c, d, x, y], .c (.sl s2 false zs), .c z]) := by
  simp [rPV, rPVs, rICs, rIC, toIC, h4]
variable {A : Ar} (hA : A = real)
include hA
theorem refAdd_c1 (K : List (List Int)) (S : List Int) (hst : StK K S) (R V : List Int) (N : List (Int × Int)) (M : List Int) (P Q : List (List Int)) (hru : RightU V R) (hV : V.length ≤ 1000) (p0 p1 : Int) (h : numM K V.length (repM K V p0) = numM K V.length (repM K V p1)) :
    PureCalls Try.prog 23 [keyedPV A K S, grP A R V N M P Q, .agg [.lit (.int .i64 p0), .lit (.int .i64 p1)]] (.tup [grP A R V N M P Q, .c (.sl 0 true []), BP false]) := by
  have r0 := refRep_c hA K S hst R V N M P Q hru (by omega) p0
  have r1 := refRep_c hA K S hst R V N M P Q hru (by omega) p1
  have n0 := refNumber_c hA K S hst.ok hst.keys R V N M P Q (hid A (repM K V p0))
  have n1 := refNumber_c hA K S hst.ok hst.keys R V N M P Q (hid A (repM K V p1))
  rw [show numM K V.length (hid A (repM K V p0)) = numM K V.length (repM K V p0) by rw [hid_eq hA]] at n0
  rw [show numM K V.length (hid A (repM K V p1)) = numM K V.length (repM K V p1) by rw [hid_eq hA], ← h] at n1
  generalize repM K V p0 = X at *
  generalize repM K V p1 = Y at *
  generalize numM K V.length X = v at *
  refine PureCalls.of Try.func23 rfl (by kernel_rfl) rfl ?_
  try first | refine AOLg.of [] ?_ | refine QSg.of [] ?_
  repeat' (first | (refine AWp.pass ?_; first | refine AWp.seq ?_ | refine AWp.block ?_ | refine AWp.skip ?_ | refine AWp.regG [] Zc ?_ | refine AWp.cond_t rfl ?_ | refine AWp.cond_f rfl ?_ | (refine AWp.cond rfl ?_ ?_ <;> intro hc <;> (try rw [hc]) <;> ((try simp only [zn] at hc) <;> (try simp (disch := omega) only [zz hA, zb, zy, reduceCtorEq, Bool.false_eq_true, Int.reduceLT, Int.reduceLE, Int.reduceNeg] at hc) <;> (try simp only [zw] at hc)) <;> (try (exfalso; omega))) | refine AWp.exit ?_ | refine AWp.ret ⟨.inr rfl, _, RetOk.ev tabOk Zc, ?_⟩ | refine AWp.drawVG [] rfl (by decide +kernel) Zc ?_) | (refine AOLg.pass ?_; refine AOLg.nx hA tabOk Zc ?_; first | refine NX.done ?_ | refine NX.gt ?_ | refine NX.gf ?_ | (refine NX.gs ?_ ?_ <;> intro hc <;> rw [hc] <;> ((try simp only [zn] at hc) <;> (try simp (disch := omega) only [zz hA, zb, zy, reduceCtorEq, Bool.false_eq_true, Int.reduceLT, Int.reduceLE, Int.reduceNeg] at hc) <;> (try simp only [zw] at hc)) <;> (try (exfalso; omega))) | (refine NX.kC ?_; first | (with_reducible refine NX.call (r0) ?_) | (with_reducible refine NX.call (r1) ?_) | (with_reducible refine NX.call (n0) ?_) | (with_reducible refine NX.call (n1) ?_) | ((first | refine NX.call (r0) ?_ | refine NX.call (r1) ?_ | refine NX.call (n0) ?_ | refine NX.call (n1) ?_)) | fail) | (refine NX.kO ?_; (first | refine NX.callO (r0) (by simp [allEq]) rfl ?_ | refine NX.callO (r1) (by simp [allEq]) rfl ?_ | refine NX.callO (n0) (by simp [allEq]) rfl ?_ | refine NX.callO (n1) (by simp [allEq]) rfl ?_)) | refine NX.k 1 (NX.one Z1 ?_) | refine NX.k 7 (NX.one Z7 ?_) | refine NX.k 8 (NX.one Z8 ?_) | refine NX.k 10 (NX.one Z10 ?_) | refine NX.k 11 (NX.one Z11 ?_) | refine NX.k 14 (NX.one Z14 ?_) | refine NX.k 15 (NX.one Z15 ?_) | refine NX.k 17 (NX.one Z17 ?_) | refine NX.k 18 (NX.one Z18 ?_) | (refine NX.one (One.indexPtr tabOk rfl rfl rfl rfl rfl (by decide) (by decide)) ?_) | refine NX.raw ?_) | (refine TRg.pass ?_; refine TRg.nx hA tabOk Zc ?_; first | refine TX.done ?_ | refine TX.gt ?_ | refine TX.gf ?_ | (refine TX.gs ?_ ?_ <;> intro hc <;> rw [hc] <;> ((try simp only [zn] at hc) <;> (try simp (disch := omega) only [zz hA, zb, zy, reduceCtorEq, Bool.false_eq_true, Int.reduceLT, Int.reduceLE, Int.reduceNeg] at hc) <;> (try simp only [zw] at hc)) <;> (try (exfalso; omega))) | (refine TX.kC ?_; first | (with_reducible refine TX.call (r0) ?_) | (with_reducible refine TX.call (r1) ?_) | (with_reducible refine TX.call (n0) ?_) | (with_reducible refine TX.call (n1) ?_) | ((first | refine TX.call (r0) ?_ | refine TX.call (r1) ?_ | refine TX.call (n0) ?_ | refine TX.call (n1) ?_)) | fail) | (refine TX.kO ?_; (first | refine TX.callO (r0) (by simp [allEq]) rfl ?_ | refine TX.callO (r1) (by simp [allEq]) rfl ?_ | refine TX.callO (n0) (by simp [allEq]) rfl ?_ | refine TX.callO (n1) (by simp [allEq]) rfl ?_)) | refine TX.k 1 (TX.one Z1 ?_) | refine TX.k 7 (TX.one Z7 ?_) | refine TX.k 8 (TX.one Z8 ?_) | refine TX.k 10 (TX.one Z10 ?_) | refine TX.k 11 (TX.one Z11 ?_) | refine TX.k 14 (TX.one Z14 ?_) | refine TX.k 15 (TX.one Z15 ?_) | refine TX.k 17 (TX.one Z17 ?_) | refine TX.k 18 (TX.one Z18 ?_) | (refine TX.one (One.indexPtr tabOk rfl rfl rfl rfl rfl (by decide) (by decide)) ?_) | refine TX.raw ?_) | refine Fin3.of Zc (by repeat' (first | exact True.intro | exact rfl | refine And.intro ?_ ?_)) ?_ ?_ | (refine AllO.pass ?_; first | exact AllO.nil | (refine AllO.cons (One.ev hA tabOk ?_) ?_ <;> (first | refine AllO.pass ?_ | ((conv => lhs; cbv); done))) | (refine AllO.cons (One.skipB ?_) ?_ <;> (first | refine AllO.pass ?_ | ((conv => lhs; cbv); done))) | ((with_reducible refine AllO.call Zc (r0) ?_ ?_) <;> (first | refine AllO.pass ?_ | exact rfl | exact Zd)) | ((with_reducible refine AllO.call Zc (r1) ?_ ?_) <;> (first | refine AllO.pass ?_ | exact rfl | exact Zd)) | ((with_reducible refine AllO.call Zc (n0) ?_ ?_) <;> (first | refine AllO.pass ?_ | exact rfl | exact Zd)) | ((with_reducible refine AllO.call Zc (n1) ?_ ?_) <;> (first | refine AllO.pass ?_ | exact rfl | exact Zd)) | refine AllO.consX ZX rfl rfl ?_ | ((refine AllO.consX (One.indexPtr tabOk rfl rfl rfl rfl rfl (by decide) (by decide)) rfl rfl ?_) <;> (first | refine AllO.pass ?_ | exact Zd))) | refine Thn.exit ?_ | refine Blk.here ?_ | refine Blk.other (by decide) ?_ | refine ⟨.inl rfl, _, RetOk.ev tabOk Zc, ?_⟩ | fail)
  all_goals first | (exfalso; omega) | (refine rPV_then (by conv => lhs; cbv) ?_; rfl) | fail
set_option maxHeartbeats 4000000 in
theorem refAdd_c2 (K : List (List Int)) (S : List Int) (hst : StK K S) (R V : List Int) (N : List (Int × Int)) (M : List Int) (P Q : List (List Int)) (hru : RightU V R) (hR : R.length ≤ 1000) (hV : V.length ≤ 1000) (hP : P.length = V.length) (hQ : Q.length = V.length) (hPl : ∀ x ∈ P, x.length ≤ 1000) (hQl : ∀ x ∈ Q, x.length ≤ 1000) (p0 p1 X Y v w : Int)
    (hX : repM K V p0 = X) (hY : repM K V p1 = Y) (hv : numM K V.length X = v) (hw : numM K V.length Y = w) (v0 : 0 ≤ v) (v1 : v < V.length) (w0 : 0 ≤ w) (hvw : v ≠ w) (hl : lessM R w v = true) :
    ∃ sz ex q b, PureCalls Try.prog 23 [keyedPV A K S, grP A R V N M P Q, .agg [.lit (.int .i64 p0), .lit (.int .i64 p1)]] (.tup [grP A R V N M P (Q.set v.toNat (layI (Q.getD v.toNat default) Y)), .c (.sl sz ex q), BP b]) := by
  have r0 := refRep_c hA K S hst R V N M P Q hru (by omega) p0
  have r1 := refRep_c hA K S hst R V N M P Q hru (by omega) p1
  have hrep := fun z => refRep_c hA K S hst R V N M P Q hru (by omega) z
  have n0 := refNumber_c hA K S hst.ok hst.keys R V N M P Q (hid A X)
  have n1 := refNumber_c hA K S hst.ok hst.keys R V N M P Q (hid A Y)
  rw [show numM K V.length (hid A X) = v by rw [hid_eq hA, hv]] at n0
  rw [show numM K V.length (hid A Y) = w by rw [hid_eq hA, hw]] at n1
  rw [hX] at r0
  rw [hY] at r1
  have hls := refLess_c hA R (hid A w) (hid A v) (by omega)
  rw [show lessM R (hid A w) (hid A v) = true by rw [hid_eq hA, hid_eq hA]; exact hl, hid_eq hA (α := Bool)] at hls
  have hmay := refMayG_c hA K S hst R V N M P Q (by omega) (hid A Y) (hid A v) false
  rw [show mayG K R V.length (hid A Y) (hid A v) false = true by rw [hid_eq hA, hid_eq hA]; unfold mayG; rw [hw, if_pos w0]; exact hl, hid_eq hA (α := Bool)] at hmay
  have hpre : (P.getD v.toNat default).length ≤ 1000 := hPl _ (by rw [List.getD_eq_getElem?_getD, List.getElem?_eq_getElem (by omega)]; exact List.getElem_mem _)
  have hsuc : (Q.getD v.toNat default).length ≤ 1000 := hQl _ (by rw [List.getD_eq_getElem?_getD, List.getElem?_eq_getElem (by omega)]; exact List.getElem_mem _)
  have hlay : ∀ l : List Int, l = Q.getD v.toNat default → PureCalls Try.prog 54 [intsP A l, IP (hid A Y)] (.tup [intsP A (layI (Q.getD v.toNat default) Y), BP (layB (Q.getD v.toNat default) Y)]) := by
    rintro l rfl
    have := refLay12_c hA (Q.getD v.toNat default) Y (by omega)
    rw [hid_eq hA (α := Bool)] at this
    rw [hid_eq hA Y]; exact this
  have hwi : PureCalls Try.prog 55 [slP A 1 (encK A) Q, IP (hid A v), intsP A (layI (Q.getD v.toNat default) Y)] (slP A 1 (encK A) (Q.set v.toNat (layI (Q.getD v.toNat default) Y))) := by
    rw [hid_eq hA v]
    exact refWith_c hA Q v _ v0 (by omega) (by omega)
  clear hPl hQl
  cases hb : layB (Q.getD v.toNat default) Y with
  | false =>
    have hs : Q.set v.toNat (layI (Q.getD v.toNat default) Y) = Q := by
      have : layI (Q.getD v.toNat default) Y = Q.getD v.toNat default := by
        unfold layB at hb
        unfold layI
        rw [if_pos (by simpa using hb)]
      rw [this]
      refine List.ext_getElem (by simp) fun i h1 h2 => ?_
      rw [List.getElem_set]
      split
      · rename_i e; subst e; rw [List.getD_eq_getElem?_getD, List.getElem?_eq_getElem h2]; rfl
      · rfl
    rw [hb] at hlay
    rw [hs]
    refine ⟨0, true, [], false, ?_⟩
    generalize layI (Q.getD v.toNat default) Y = L at *
    refine PureCalls.of Try.func23 rfl (by kernel_rfl) rfl ?_
    try first | refine AOLg.of [] ?_ | refine QSg.of [] ?_
    repeat' (first | (refine AWp.pass ?_; first | refine AWp.seq ?_ | refine AWp.block ?_ | refine AWp.skip ?_ | refine AWp.regG [] Zc ?_ | refine AWp.cond_t rfl ?_ | refine AWp.cond_f rfl ?_ | (refine AWp.cond rfl ?_ ?_ <;> intro hc <;> (try rw [hc]) <;> ((try simp only [zn] at hc) <;> (try simp (disch := omega) only [zz hA, zb, zy, reduceCtorEq, Bool.false_eq_true, Int.reduceLT, Int.reduceLE, Int.reduceNeg] at hc) <;> (try simp only [zw] at hc)) <;> (try (exfalso; omega))) | refine AWp.exit ?_ | refine AWp.ret ⟨.inr rfl, _, RetOk.ev tabOk Zc, ?_⟩ | refine AWp.drawVG [] rfl (by decide +kernel) Zc ?_) | (refine AOLg.pass ?_; refine AOLg.nx hA tabOk Zc ?_; first | refine NX.done ?_ | refine NX.gt ?_ | refine NX.gf ?_ | (refine NX.gs ?_ ?_ <;> intro hc <;> rw [hc] <;> ((try simp only [zn] at hc) <;> (try simp (disch := omega) only [zz hA, zb, zy, reduceCtorEq, Bool.false_eq_true, Int.reduceLT, Int.reduceLE, Int.reduceNeg] at hc) <;> (try simp only [zw] at hc)) <;> (try (exfalso; omega))) | (refine NX.kC ?_; first | (with_reducible refine NX.call (r0) ?_) | (with_reducible refine NX.call (r1) ?_) | (with_reducible refine NX.call (n0) ?_) | (with_reducible refine NX.call (n1) ?_) | (with_reducible refine NX.call (hls) ?_) | (with_reducible refine NX.call (hmay) ?_) | (with_reducible refine NX.call (hlay _ (by simp only [rhid hA, hid_eq hA, cN, Int.toNat_natCast])) ?_) | ((first | refine NX.call (r0) ?_ | refine NX.call (r1) ?_ | refine NX.call (n0) ?_ | refine NX.call (n1) ?_ | refine NX.call (hls) ?_ | refine NX.call (hmay) ?_ | refine NX.call (hlay _ (by simp only [rhid hA, hid_eq hA, cN, Int.toNat_natCast])) ?_)) | fail) | (refine NX.kO ?_; (first | refine NX.callO (r0) (by simp [allEq]) rfl ?_ | refine NX.callO (r1) (by simp [allEq]) rfl ?_ | refine NX.callO (n0) (by simp [allEq]) rfl ?_ | refine NX.callO (n1) (by simp [allEq]) rfl ?_ | refine NX.callO (hls) (by simp [allEq]) rfl ?_ | refine NX.callO (hmay) (by simp [allEq]) rfl ?_ | refine NX.callO (hlay _ (by simp only [rhid hA, hid_eq hA, cN, Int.toNat_natCast])) (by simp [allEq]) rfl ?_)) | refine NX.k 1 (NX.one Z1 ?_) | refine NX.k 7 (NX.one Z7 ?_) | refine NX.k 8 (NX.one Z8 ?_) | refine NX.k 10 (NX.one Z10 ?_) | refine NX.k 11 (NX.one Z11 ?_) | refine NX.k 14 (NX.one Z14 ?_) | refine NX.k 15 (NX.one Z15 ?_) | refine NX.k 17 (NX.one Z17 ?_) | refine NX.k 18 (NX.one Z18 ?_) | (refine NX.one (One.indexPtr tabOk rfl rfl rfl rfl rfl (by decide) (by decide)) ?_) | refine NX.raw ?_) | (refine TRg.pass ?_; refine TRg.nx hA tabOk Zc ?_; first | refine TX.done ?_ | refine TX.gt ?_ | refine TX.gf ?_ | (refine TX.gs ?_ ?_ <;> intro hc <;> rw [hc] <;> ((try simp only [zn] at hc) <;> (try simp (disch := omega) only [zz hA, zb, zy, reduceCtorEq, Bool.false_eq_true, Int.reduceLT, Int.reduceLE, Int.reduceNeg] at hc) <;> (try simp only [zw] at hc)) <;> (try (exfalso; omega))) | (refine TX.kC ?_; first | (with_reducible refine TX.call (r0) ?_) | (with_reducible refine TX.call (r1) ?_) | (with_reducible refine TX.call (n0) ?_) | (with_reducible refine TX.call (n1) ?_) | (with_reducible refine TX.call (hls) ?_) | (with_reducible refine TX.call (hmay) ?_) | (with_reducible refine TX.call (hlay _ (by simp only [rhid hA, hid_eq hA, cN, Int.toNat_natCast])) ?_) | ((first | refine TX.call (r0) ?_ | refine TX.call (r1) ?_ | refine TX.call (n0) ?_ | refine TX.call (n1) ?_ | refine TX.call (hls) ?_ | refine TX.call (hmay) ?_ | refine TX.call (hlay _ (by simp only [rhid hA, hid_eq hA, cN, Int.toNat_natCast])) ?_)) | fail) | (refine TX.kO ?_; (first | refine TX.callO (r0) (by simp [allEq]) rfl ?_ | refine TX.callO (r1) (by simp [allEq]) rfl ?_ | refine TX.callO (n0) (by simp [allEq]) rfl ?_ | refine TX.callO (n1) (by simp [allEq]) rfl ?_ | refine TX.callO (hls) (by simp [allEq]) rfl ?_ | refine TX.callO (hmay) (by simp [allEq]) rfl ?_ | refine TX.callO (hlay _ (by simp only [rhid hA, hid_eq hA, cN, Int.toNat_natCast])) (by simp [allEq]) rfl ?_)) | refine TX.k 1 (TX.one Z1 ?_) | refine TX.k 7 (TX.one Z7 ?_) | refine TX.k 8 (TX.one Z8 ?_) | refine TX.k 10 (TX.one Z10 ?_) | refine TX.k 11 (TX.one Z11 ?_) | refine TX.k 14 (TX.one Z14 ?_) | refine TX.k 15 (TX.one Z15 ?_) | refine TX.k 17 (TX.one Z17 ?_) | refine TX.k 18 (TX.one Z18 ?_) | (refine TX.one (One.indexPtr tabOk rfl rfl rfl rfl rfl (by decide) (by decide)) ?_) | refine TX.raw ?_) | refine Fin3.of Zc (by repeat' (first | exact True.intro | exact rfl | refine And.intro ?_ ?_)) ?_ ?_ | (refine AllO.pass ?_; first | exact AllO.nil | (refine AllO.cons (One.ev hA tabOk ?_) ?_ <;> (first | refine AllO.pass ?_ | ((conv => lhs; cbv); done))) | (refine AllO.cons (One.skipB ?_) ?_ <;> (first | refine AllO.pass ?_ | ((conv => lhs; cbv); done))) | ((with_reducible refine AllO.call Zc (r0) ?_ ?_) <;> (first | refine AllO.pass ?_ | exact rfl | exact Zd)) | ((with_reducible refine AllO.call Zc (r1) ?_ ?_) <;> (first | refine AllO.pass ?_ | exact rfl | exact Zd)) | ((with_reducible refine AllO.call Zc (n0) ?_ ?_) <;> (first | refine AllO.pass ?_ | exact rfl | exact Zd)) | ((with_reducible refine AllO.call Zc (n1) ?_ ?_) <;> (first | refine AllO.pass ?_ | exact rfl | exact Zd)) | ((with_reducible refine AllO.call Zc (hls) ?_ ?_) <;> (first | refine AllO.pass ?_ | exact rfl | exact Zd)) | ((with_reducible refine AllO.call Zc (hmay) ?_ ?_) <;> (first | refine AllO.pass ?_ | exact rfl | exact Zd)) | ((with_reducible refine AllO.call Zc (hlay _ (by simp only [rhid hA, hid_eq hA, cN, Int.toNat_natCast])) ?_ ?_) <;> (first | refine AllO.pass ?_ | exact rfl | exact Zd)) | refine AllO.consX ZX rfl rfl ?_ | ((refine AllO.consX (One.indexPtr tabOk rfl rfl rfl rfl rfl (by decide) (by decide)) rfl rfl ?_) <;> (first | refine AllO.pass ?_ | exact Zd))) | refine Thn.exit ?_ | refine Blk.here ?_ | refine Blk.other (by decide) ?_ | refine ⟨.inl rfl, _, RetOk.ev tabOk Zc, ?_⟩ | fail)
    all_goals first | (exfalso; omega) | (refine rPV_then (by conv => lhs; cbv) ?_; rfl) | fail
  | true =>
    rw [hb] at hlay
    refine ⟨2, false, hid A (List.map encN ((P.getD v.toNat default).map fun id => (repM K V id, Y))), true, ?_⟩
    generalize layI (Q.getD v.toNat default) Y = L at *
    refine PureCalls.of Try.func23 rfl (by kernel_rfl) rfl ?_
    try first | refine AOLg.of [13] ?_ | refine QSg.of [13] ?_
    repeat' (first | (refine AWp.pass ?_; first | refine AWp.seq ?_ | refine AWp.block ?_ | refine AWp.skip ?_ | refine AWp.regG [13] Zc ?_ | refine AWp.cond_t rfl ?_ | refine AWp.cond_f rfl ?_ | (refine AWp.cond rfl ?_ ?_ <;> intro hc <;> (try rw [hc]) <;> ((try simp only [zn] at hc) <;> (try simp (disch := omega) only [zz hA, zb, zy, reduceCtorEq, Bool.false_eq_true, Int.reduceLT, Int.reduceLE, Int.reduceNeg] at hc) <;> (try simp only [zw] at hc)) <;> (try (exfalso; omega))) | refine AWp.exit ?_ | refine AWp.ret ⟨.inr rfl, _, RetOk.ev tabOk Zc, ?_⟩ | refine AWp.drawVG [13] rfl (by decide +kernel) Zc ?_) | (refine AOLg.pass ?_; refine AOLg.nx hA tabOk Zc ?_; first | refine NX.done ?_ | refine NX.gt ?_ | refine NX.gf ?_ | (refine NX.gs ?_ ?_ <;> intro hc <;> rw [hc] <;> ((try simp only [zn] at hc) <;> (try simp (disch := omega) only [zz hA, zb, zy, reduceCtorEq, Bool.false_eq_true, Int.reduceLT, Int.reduceLE, Int.reduceNeg] at hc) <;> (try simp only [zw] at hc)) <;> (try (exfalso; omega))) | (refine NX.kC ?_; first | (with_reducible refine NX.call (r0) ?_) | (with_reducible refine NX.call (r1) ?_) | (with_reducible refine NX.call (n0) ?_) | (with_reducible refine NX.call (n1) ?_) | (with_reducible refine NX.call (hls) ?_) | (with_reducible refine NX.call (hmay) ?_) | (with_reducible refine NX.call (hlay _ (by simp only [rhid hA, hid_eq hA, cN, Int.toNat_natCast])) ?_) | ((first | refine NX.call (r0) ?_ | refine NX.call (r1) ?_ | refine NX.call (n0) ?_ | refine NX.call (n1) ?_ | refine NX.call (hls) ?_ | refine NX.call (hmay) ?_ | refine NX.call (hlay _ (by simp only [rhid hA, hid_eq hA, cN, Int.toNat_natCast])) ?_)) | fail) | (refine NX.kO ?_; (first | refine NX.callO (r0) (by simp [allEq]) rfl ?_ | refine NX.callO (r1) (by simp [allEq]) rfl ?_ | refine NX.callO (n0) (by simp [allEq]) rfl ?_ | refine NX.callO (n1) (by simp [allEq]) rfl ?_ | refine NX.callO (hls) (by simp [allEq]) rfl ?_ | refine NX.callO (hmay) (by simp [allEq]) rfl ?_ | refine NX.callO (hlay _ (by simp only [rhid hA, hid_eq hA, cN, Int.toNat_natCast])) (by simp [allEq]) rfl ?_)) | refine NX.k 1 (NX.one Z1 ?_) | refine NX.k 7 (NX.one Z7 ?_) | refine NX.k 8 (NX.one Z8 ?_) | refine NX.k 10 (NX.one Z10 ?_) | refine NX.k 11 (NX.one Z11 ?_) | refine NX.k 14 (NX.one Z14 ?_) | refine NX.k 15 (NX.one Z15 ?_) | refine NX.k 17 (NX.one Z17 ?_) | refine NX.k 18 (NX.one Z18 ?_) | (refine NX.one (One.indexPtr tabOk rfl rfl rfl rfl rfl (by decide) (by decide)) ?_) | (refine NX.one (One.nilOwn tabOk 13 53 rfl rfl rfl) ?_) | refine NX.raw ?_) | (refine TRg.pass ?_; refine TRg.nx hA tabOk Zc ?_; first | refine TX.done ?_ | refine TX.gt ?_ | refine TX.gf ?_ | (refine TX.gs ?_ ?_ <;> intro hc <;> rw [hc] <;> ((try simp only [zn] at hc) <;> (try simp (disch := omega) only [zz hA, zb, zy, reduceCtorEq, Bool.false_eq_true, Int.reduceLT, Int.reduceLE, Int.reduceNeg] at hc) <;> (try simp only [zw] at hc)) <;> (try (exfalso; omega))) | (refine TX.kC ?_; first | (with_reducible refine TX.call (r0) ?_) | (with_reducible refine TX.call (r1) ?_) | (with_reducible refine TX.call (n0) ?_) | (with_reducible refine TX.call (n1) ?_) | (with_reducible refine TX.call (hls) ?_) | (with_reducible refine TX.call (hmay) ?_) | (with_reducible refine TX.call (hlay _ (by simp only [rhid hA, hid_eq hA, cN, Int.toNat_natCast])) ?_) | ((first | refine TX.call (r0) ?_ | refine TX.call (r1) ?_ | refine TX.call (n0) ?_ | refine TX.call (n1) ?_ | refine TX.call (hls) ?_ | refine TX.call (hmay) ?_ | refine TX.call (hlay _ (by simp only [rhid hA, hid_eq hA, cN, Int.toNat_natCast])) ?_)) | fail) | (refine TX.kO ?_; (first | refine TX.callO (r0) (by simp [allEq]) rfl ?_ | refine TX.callO (r1) (by simp [allEq]) rfl ?_ | refine TX.callO (n0) (by simp [allEq]) rfl ?_ | refine TX.callO (n1) (by simp [allEq]) rfl ?_ | refine TX.callO (hls) (by simp [allEq]) rfl ?_ | refine TX.callO (hmay) (by simp [allEq]) rfl ?_ | refine TX.callO (hlay _ (by simp only [rhid hA, hid_eq hA, cN, Int.toNat_natCast])) (by simp [allEq]) rfl ?_)) | refine TX.k 1 (TX.one Z1 ?_) | refine TX.k 7 (TX.one Z7 ?_) | refine TX.k 8 (TX.one Z8 ?_) | refine TX.k 10 (TX.one Z10 ?_) | refine TX.k 11 (TX.one Z11 ?_) | refine TX.k 14 (TX.one Z14 ?_) | refine TX.k 15 (TX.one Z15 ?_) | refine TX.k 17 (TX.one Z17 ?_) | refine TX.k 18 (TX.one Z18 ?_) | (refine TX.one (One.indexPtr tabOk rfl rfl rfl rfl rfl (by decide) (by decide)) ?_) | (refine TX.one (One.nilOwn tabOk 13 53 rfl rfl rfl) ?_) | refine TX.raw ?_) | refine Fin3.of Zc (by repeat' (first | exact True.intro | exact rfl | refine And.intro ?_ ?_)) ?_ ?_ | (refine AllO.pass ?_; first | exact AllO.nil | (refine AllO.cons (One.ev hA tabOk ?_) ?_ <;> (first | refine AllO.pass ?_ | ((conv => lhs; cbv); done))) | (refine AllO.cons (One.skipB ?_) ?_ <;> (first | refine AllO.pass ?_ | ((conv => lhs; cbv); done))) | ((with_reducible refine AllO.call Zc (r0) ?_ ?_) <;> (first | refine AllO.pass ?_ | exact rfl | exact Zd)) | ((with_reducible refine AllO.call Zc (r1) ?_ ?_) <;> (first | refine AllO.pass ?_ | exact rfl | exact Zd)) | ((with_reducible refine AllO.call Zc (n0) ?_ ?_) <;> (first | refine AllO.pass ?_ | exact rfl | exact Zd)) | ((with_reducible refine AllO.call Zc (n1) ?_ ?_) <;> (first | refine AllO.pass ?_ | exact rfl | exact Zd)) | ((with_reducible refine AllO.call Zc (hls) ?_ ?_) <;> (first | refine AllO.pass ?_ | exact rfl | exact Zd)) | ((with_reducible refine AllO.call Zc (hmay) ?_ ?_) <;> (first | refine AllO.pass ?_ | exact rfl | exact Zd)) | ((with_reducible refine AllO.call Zc (hlay _ (by simp only [rhid hA, hid_eq hA, cN, Int.toNat_natCast])) ?_ ?_) <;> (first | refine AllO.pass ?_ | exact rfl | exact Zd)) | refine AllO.consX ZX rfl rfl ?_ | ((refine AllO.consX (One.indexPtr tabOk rfl rfl rfl rfl rfl (by decide) (by decide)) rfl rfl ?_) <;> (first | refine AllO.pass ?_ | exact Zd))) | refine Thn.exit ?_ | refine Blk.here ?_ | refine Blk.other (by decide) ?_ | refine ⟨.inl rfl, _, RetOk.ev tabOk Zc, ?_⟩ | fail)
    all_goals try (exfalso; omega)
    rw [show (A (.hid Int) fun _ => v) = v from rhid hA _]
    rw [hid_eq hA v] at hwi
    obtain ⟨f1, hf1⟩ : ∃ f1 : Int → Int × Int, f1 = fun id => (repM K V id, Y) := ⟨_, rfl⟩
    obtain ⟨pre, hpD⟩ : ∃ pre, pre = P.getD v.toNat default := ⟨_, rfl⟩
    have hpl : (P.getD v.toNat default).length = pre.length := by rw [hpD]
    rw [← hf1, ← hpD]
    refine AWp.loopU (fun x : Nat × Nat => [(17, .ic (.lit (.int .i64 (hid A (cN x.1))))), (13, .own 4 x.2)]) (fun x => [.var true 26 [.ic (.sl 1 false (hid A (List.map (encK A) K))), .ic (.sl 1 false (hid A (List.map encI S)))], .var true 31 [.ic (.sl 1 false (hid A (List.map encI R))), .ic (.sl 1 false (hid A (List.map encI V))), .ic (.sl 2 false (hid A (List.map encN N))), .ic (.sl 1 false (hid A (List.map encI M))), .ic (.sl 1 false (hid A (List.map (encK A) P))), .ic (.sl 1 false (hid A (List.map (encK A) Q)))], .var true 58 [.ic (.lit (.int .i64 p0)), .ic (.lit (.int .i64 p1))], .var true 31 [.ic (.sl 0 true []), .ic (.sl 0 true []), .ic (.sl 0 true []), .ic (.sl 0 true []), .ic (.sl 0 true []), .ic (.sl 0 true [])], .row true x.2 58 2 (hid A (List.map encN ((pre.take x.1).map f1)))]) (fun x => pre.length - x.1) (fun x => x.1 ≤ pre.length) (0, 0) (by conv => lhs; cbv) (Nat.zero_le _) (by ((repeat' (first | exact subE.nil | refine subE.cons rfl ?_ | refine subE.int rfl ?_ ?_ | refine subE.bool rfl ?_ ?_ | refine subE.str rfl ?_ ?_ | refine subE.sl rfl ?_ ?_))) <;> first | rfl | simp [hA, real, hid, cN]) (by simp [hid_eq hA]) ?_
    rintro ⟨k, u⟩ hk
    simp only at hk ⊢
    by_cases hlt : k < pre.length
    · have hln : ((pre.take k).map f1).length = k := by simp; omega
      have hnx := takeMap f1 pre k hlt
      generalize hT2 : (pre.take (k + 1)).map f1 = T2 at *
      generalize (pre.take k).map f1 = T at *
      try first | refine AOLg.of [] ?_ | refine QSg.of [] ?_
      repeat' (first | (refine AWp.pass ?_; first | refine AWp.seq ?_ | refine AWp.block ?_ | refine AWp.skip ?_ | refine AWp.regG [] Zc ?_ | refine AWp.cond_t rfl ?_ | refine AWp.cond_f rfl ?_ | (refine AWp.cond rfl ?_ ?_ <;> intro hc <;> (try rw [hc]) <;> ((try simp only [zn] at hc) <;> (try simp (disch := omega) only [zz hA, zb, zy, reduceCtorEq, Bool.false_eq_true, Int.reduceLT, Int.reduceLE, Int.reduceNeg] at hc) <;> (try simp only [zw] at hc)) <;> (try (exfalso; omega))) | refine AWp.exit ?_ | refine AWp.ret ⟨.inr rfl, _, RetOk.ev tabOk Zc, ?_⟩ | refine W.AWp.drawVG [] rfl (by decide +kernel) Zc ?_) | (refine AOLg.pass ?_; refine AOLg.nx hA tabOk Zc ?_; first | refine NX.done ?_ | refine NX.gt ?_ | refine NX.gf ?_ | (refine NX.gs ?_ ?_ <;> intro hc <;> rw [hc] <;> ((try simp only [zn] at hc) <;> (try simp (disch := omega) only [zz hA, zb, zy, reduceCtorEq, Bool.false_eq_true, Int.reduceLT, Int.reduceLE, Int.reduceNeg] at hc) <;> (try simp only [zw] at hc)) <;> (try (exfalso; omega))) | (refine NX.kC ?_; first | (with_reducible refine NX.call (hrep _) ?_) | ((first | refine NX.call (hrep _) ?_)) | fail) | (refine NX.kO ?_; (first | refine NX.callO (hrep _) (by simp [allEq]) rfl ?_)) | refine NX.k 1 (NX.one Z1 ?_) | refine NX.k 7 (NX.one Z7 ?_) | refine NX.k 8 (NX.one Z8 ?_) | refine NX.k 10 (NX.one Z10 ?_) | refine NX.k 11 (NX.one Z11 ?_) | refine NX.k 14 (NX.one Z14 ?_) | refine NX.k 15 (NX.one Z15 ?_) | refine NX.k 17 (NX.one Z17 ?_) | refine NX.k 18 (NX.one Z18 ?_) | (refine NX.one (One.elemM hA tabOk rfl rfl rfl rfl Zd Zd) ?_) | (refine NX.one (One.buildArr tabOk rfl rfl rfl rfl rfl rfl) ?_) | (refine NX.one (One.appendOwnM hA tabOk (f := encN) (f1 (pre.getD k default)) rfl rfl rfl rfl rfl rfl (by simp only [encN, hf1, hpD, rhid hA, hid_eq hA, cN, Int.toNat_natCast]) Zd Zd) ?_) | refine NX.raw ?_) | (refine W.TRg.pass ?_; refine W.TRg.nx hA tabOk Zc ?_; first | refine W.TX.done ?_ | refine W.TX.gt ?_ | refine W.TX.gf ?_ | (refine W.TX.gs ?_ ?_ <;> intro hc <;> rw [hc] <;> ((try simp only [zn] at hc) <;> (try simp (disch := omega) only [zz hA, zb, zy, reduceCtorEq, Bool.false_eq_true, Int.reduceLT, Int.reduceLE, Int.reduceNeg] at hc) <;> (try simp only [zw] at hc)) <;> (try (exfalso; omega))) | (refine W.TX.kC ?_; first | (with_reducible refine W.TX.call (hrep _) ?_) | ((first | refine W.TX.call (hrep _) ?_)) | fail) | (refine W.TX.kO ?_; (first | refine W.TX.callO (hrep _) (by simp [allEq]) rfl ?_)) | refine W.TX.k 1 (W.TX.one Z1 ?_) | refine W.TX.k 7 (W.TX.one Z7 ?_) | refine W.TX.k 8 (W.TX.one Z8 ?_) | refine W.TX.k 10 (W.TX.one Z10 ?_) | refine W.TX.k 11 (W.TX.one Z11 ?_) | refine W.TX.k 14 (W.TX.one Z14 ?_) | refine W.TX.k 15 (W.TX.one Z15 ?_) | refine W.TX.k 17 (W.TX.one Z17 ?_) | refine W.TX.k 18 (W.TX.one Z18 ?_) | (refine W.TX.one (One.elemM hA tabOk rfl rfl rfl rfl Zd Zd) ?_) | (refine W.TX.one (One.buildArr tabOk rfl rfl rfl rfl rfl rfl) ?_) | (refine W.TX.one (One.appendOwnM hA tabOk (f := encN) (f1 (pre.getD k default)) rfl rfl rfl rfl rfl rfl (by simp only [encN, hf1, hpD, rhid hA, hid_eq hA, cN, Int.toNat_natCast]) Zd Zd) ?_) | refine W.TX.raw ?_) | refine W.Fin3.of Zc (by repeat' (first | exact True.intro | exact rfl | refine And.intro ?_ ?_)) ?_ ?_ | (refine W.AllO.pass ?_; first | exact W.AllO.nil | (refine W.AllO.cons (One.ev hA tabOk ?_) ?_ <;> (first | refine W.AllO.pass ?_ | ((conv => lhs; cbv); done))) | (refine W.AllO.cons (One.skipB ?_) ?_ <;> (first | refine W.AllO.pass ?_ | ((conv => lhs; cbv); done))) | ((with_reducible refine W.AllO.call Zc (hrep _) ?_ ?_) <;> (first | refine W.AllO.pass ?_ | exact rfl | exact Zd)) | refine W.AllO.consX ZX rfl rfl ?_ | ((refine W.AllO.consX (One.elemM hA tabOk rfl rfl rfl rfl Zd Zd) rfl rfl ?_) <;> (first | refine W.AllO.pass ?_ | exact Zd)) | ((refine W.AllO.consX (One.buildArr tabOk rfl rfl rfl rfl rfl rfl) rfl rfl ?_) <;> (first | refine W.AllO.pass ?_ | exact Zd))) | refine Thn.exit ?_ | refine Blk.here ?_ | refine Blk.other (by decide) ?_ | refine ⟨.inl rfl, _, RetOk.ev tabOk Zc, ?_⟩ | fail)
      all_goals try (exfalso; omega)
      refine ⟨(k + 1, u + 1), by simp only; omega, by simp only; omega, rfl, ?_, ?_, Zk⟩
      · simp only [hT2, hnx]
      · (repeat' (first | exact subE.nil | refine subE.cons rfl ?_ | refine subE.int rfl ?_ ?_ | refine subE.bool rfl ?_ ?_ | refine subE.str rfl ?_ ?_ | refine subE.sl rfl ?_ ?_))
        all_goals first | rfl | exact Zd
    · rw [show pre.take k = pre from List.take_of_length_le (by omega)]
      try first | refine AOLg.of [] ?_ | refine QSg.of [] ?_
      repeat' (first | (refine AWp.pass ?_; first | refine AWp.seq ?_ | refine AWp.block ?_ | refine AWp.skip ?_ | refine AWp.regG [] Zc ?_ | refine AWp.cond_t rfl ?_ | refine AWp.cond_f rfl ?_ | (refine AWp.cond rfl ?_ ?_ <;> intro hc <;> (try rw [hc]) <;> ((try simp only [zn] at hc) <;> (try simp (disch := omega) only [zz hA, zb, zy, reduceCtorEq, Bool.false_eq_true, Int.reduceLT, Int.reduceLE, Int.reduceNeg] at hc) <;> (try simp only [zw] at hc)) <;> (try (exfalso; omega))) | refine AWp.exit ?_ | refine AWp.ret ⟨.inr rfl, _, RetOk.ev tabOk Zc, ?_⟩ | refine AWp.drawVG [] rfl (by decide +kernel) Zc ?_) | (refine AOLg.pass ?_; refine AOLg.nx hA tabOk Zc ?_; first | refine NX.done ?_ | refine NX.gt ?_ | refine NX.gf ?_ | (refine NX.gs ?_ ?_ <;> intro hc <;> rw [hc] <;> ((try simp only [zn] at hc) <;> (try simp (disch := omega) only [zz hA, zb, zy, reduceCtorEq, Bool.false_eq_true, Int.reduceLT, Int.reduceLE, Int.reduceNeg] at hc) <;> (try simp only [zw] at hc)) <;> (try (exfalso; omega))) | (refine NX.kC ?_; first | (with_reducible refine NX.call (hwi) ?_) | ((first | refine NX.call (hwi) ?_)) | fail) | (refine NX.kO ?_; (first | refine NX.callO (hwi) (by simp [allEq]) rfl ?_)) | refine NX.k 1 (NX.one Z1 ?_) | refine NX.k 7 (NX.one Z7 ?_) | refine NX.k 8 (NX.one Z8 ?_) | refine NX.k 10 (NX.one Z10 ?_) | refine NX.k 11 (NX.one Z11 ?_) | refine NX.k 14 (NX.one Z14 ?_) | refine NX.k 15 (NX.one Z15 ?_) | refine NX.k 17 (NX.one Z17 ?_) | refine NX.k 18 (NX.one Z18 ?_) | refine NX.raw ?_) | (refine TRg.pass ?_; refine TRg.nx hA tabOk Zc ?_; first | refine TX.done ?_ | refine TX.gt ?_ | refine TX.gf ?_ | (refine TX.gs ?_ ?_ <;> intro hc <;> rw [hc] <;> ((try simp only [zn] at hc) <;> (try simp (disch := omega) only [zz hA, zb, zy, reduceCtorEq, Bool.false_eq_true, Int.reduceLT, Int.reduceLE, Int.reduceNeg] at hc) <;> (try simp only [zw] at hc)) <;> (try (exfalso; omega))) | (refine TX.kC ?_; first | (with_reducible refine TX.call (hwi) ?_) | ((first | refine TX.call (hwi) ?_)) | fail) | (refine TX.kO ?_; (first | refine TX.callO (hwi) (by simp [allEq]) rfl ?_)) | refine TX.k 1 (TX.one Z1 ?_) | refine TX.k 7 (TX.one Z7 ?_) | refine TX.k 8 (TX.one Z8 ?_) | refine TX.k 10 (TX.one Z10 ?_) | refine TX.k 11 (TX.one Z11 ?_) | refine TX.k 14 (TX.one Z14 ?_) | refine TX.k 15 (TX.one Z15 ?_) | refine TX.k 17 (TX.one Z17 ?_) | refine TX.k 18 (TX.one Z18 ?_) | refine TX.raw ?_) | refine Fin3.of Zc (by repeat' (first | exact True.intro | exact rfl | refine And.intro ?_ ?_)) ?_ ?_ | (refine AllO.pass ?_; first | exact AllO.nil | (refine AllO.cons (One.ev hA tabOk ?_) ?_ <;> (first | refine AllO.pass ?_ | ((conv => lhs; cbv); done))) | (refine AllO.cons (One.skipB ?_) ?_ <;> (first | refine AllO.pass ?_ | ((conv => lhs; cbv); done))) | ((with_reducible refine AllO.call Zc (hwi) ?_ ?_) <;> (first | refine AllO.pass ?_ | exact rfl | exact Zd)) | refine AllO.consX ZX rfl rfl ?_) | refine Thn.exit ?_ | refine Blk.here ?_ | refine Blk.other (by decide) ?_ | refine ⟨.inl rfl, _, RetOk.ev tabOk Zc, ?_⟩ | fail)
      all_goals try (exfalso; omega)
      all_goals
        show rPV _ _ = some _
        rw [rPV_gr4 (k := 4) rfl]
set_option maxHeartbeats 4000000 in
theorem refAdd_c3 (K : List (List Int)) (S : List Int) (hst : StK K S) (R V : List Int) (N : List (Int × Int)) (M : List Int) (P Q : List (List Int)) (hru : RightU V R) (hR : R.length ≤ 1000) (hV : V.length ≤ 1000) (hP : P.length = V.length) (hQ : Q.length = V.length) (hPl : ∀ x ∈ P, x.length ≤ 1000) (hQl : ∀ x ∈ Q, x.length ≤ 1000) (p0 p1 X Y v w : Int)
    (hX : repM K V p0 = X) (hY : repM K V p1 = Y) (hv : numM K V.length X = v) (hw : numM K V.length Y = w) (v0 : 0 ≤ v) (w0 : 0 ≤ w) (hvw : v ≠ w) (hl : lessM R w v = false) (hl2 : lessM R v w = true) (w1 : w < V.length) :
    ∃ sz ex q b, PureCalls Try.prog 23 [keyedPV A K S, grP A R V N M P Q, .agg [.lit (.int .i64 p0), .lit (.int .i64 p1)]] (.tup [grP A R V N M (P.set w.toNat (layI (P.getD w.toNat default) X)) Q, .c (.sl sz ex q), BP b]) := by
  have r0 := refRep_c hA K S hst R V N M P Q hru (by omega) p0
  have r1 := refRep_c hA K S hst R V N M P Q hru (by omega) p1
  have hrep := fun z => refRep_c hA K S hst R V N M P Q hru (by omega) z
  have n0 := refNumber_c hA K S hst.ok hst.keys R V N M P Q (hid A X)
  have n1 := refNumber_c hA K S hst.ok hst.keys R V N M P Q (hid A Y)
  rw [show numM K V.length (hid A X) = v by rw [hid_eq hA, hv]] at n0
  rw [show numM K V.length (hid A Y) = w by rw [hid_eq hA, hw]] at n1
  rw [hX] at r0
  rw [hY] at r1
  have hls := refLess_c hA R (hid A w) (hid A v) (by omega)
  rw [show lessM R (hid A w) (hid A v) = false by rw [hid_eq hA, hid_eq hA]; exact hl, hid_eq hA (α := Bool)] at hls
  have hmay := refMayG_c hA K S hst R V N M P Q (by omega) (hid A X) (hid A w) true
  rw [show mayG K R V.length (hid A X) (hid A w) true = true by rw [hid_eq hA, hid_eq hA]; unfold mayG; rw [hv, if_pos v0]; exact hl2, hid_eq hA (α := Bool)] at hmay
  have hpre : (P.getD w.toNat default).length ≤ 1000 := hPl _ (by rw [List.getD_eq_getElem?_getD, List.getElem?_eq_getElem (by omega)]; exact List.getElem_mem _)
  have hsuc : (Q.getD w.toNat default).length ≤ 1000 := hQl _ (by rw [List.getD_eq_getElem?_getD, List.getElem?_eq_getElem (by omega)]; exact List.getElem_mem _)
  have hlay : ∀ l : List Int, l = P.getD w.toNat default → PureCalls Try.prog 54 [intsP A l, IP (hid A X)] (.tup [intsP A (layI (P.getD w.toNat default) X), BP (layB (P.getD w.toNat default) X)]) := by
    rintro l rfl
    have := refLay12_c hA (P.getD w.toNat default) X (by omega)
    rw [hid_eq hA (α := Bool)] at this
    rw [hid_eq hA X]; exact this
  have hwi : PureCalls Try.prog 55 [slP A 1 (encK A) P, IP (hid A w), intsP A (layI (P.getD w.toNat default) X)] (slP A 1 (encK A) (P.set w.toNat (layI (P.getD w.toNat default) X))) := by
    rw [hid_eq hA w]
    exact refWith_c hA P w _ w0 (by omega) (by omega)
  clear hPl hQl
  cases hb : layB (P.getD w.toNat default) X with
  | false =>
    have hs : P.set w.toNat (layI (P.getD w.toNat default) X) = P := by
      have : layI (P.getD w.toNat default) X = P.getD w.toNat default := by
        unfold layB at hb
        unfold layI
        rw [if_pos (by simpa using hb)]
      rw [this]
      refine List.ext_getElem (by simp) fun i h1 h2 => ?_
      rw [List.getElem_set]
      split
      · rename_i e; subst e; rw [List.getD_eq_getElem?_getD, List.getElem?_eq_getElem h2]; rfl
      · rfl
    rw [hb] at hlay
    rw [hs]
    refine ⟨0, true, [], false, ?_⟩
    generalize layI (P.getD w.toNat default) X = L at *
    refine PureCalls.of Try.func23 rfl (by kernel_rfl) rfl ?_
    try first | refine AOLg.of [] ?_ | refine QSg.of [] ?_
    repeat' (first | (refine AWp.pass ?_; first | refine AWp.seq ?_ | refine AWp.block ?_ | refine AWp.skip ?_ | refine AWp.regG [] Zc ?_ | refine AWp.cond_t rfl ?_ | refine AWp.cond_f rfl ?_ | (refine AWp.cond rfl ?_ ?_ <;> intro hc <;> (try rw [hc]) <;> ((try simp only [zn] at hc) <;> (try simp (disch := omega) only [zz hA, zb, zy, reduceCtorEq, Bool.false_eq_true, Int.reduceLT, Int.reduceLE, Int.reduceNeg] at hc) <;> (try simp only [zw] at hc)) <;> (try (exfalso; omega))) | refine AWp.exit ?_ | refine AWp.ret ⟨.inr rfl, _, RetOk.ev tabOk Zc, ?_⟩ | refine AWp.drawVG [] rfl (by decide +kernel) Zc ?_) | (refine AOLg.pass ?_; refine AOLg.nx hA tabOk Zc ?_; first | refine NX.done ?_ | refine NX.gt ?_ | refine NX.gf ?_ | (refine NX.gs ?_ ?_ <;> intro hc <;> rw [hc] <;> ((try simp only [zn] at hc) <;> (try simp (disch := omega) only [zz hA, zb, zy, reduceCtorEq, Bool.false_eq_true, Int.reduceLT, Int.reduceLE, Int.reduceNeg] at hc) <;> (try simp only [zw] at hc)) <;> (try (exfalso; omega))) | (refine NX.kC ?_; first | (with_reducible refine NX.call (r0) ?_) | (with_reducible refine NX.call (r1) ?_) | (with_reducible refine NX.call (n0) ?_) | (with_reducible refine NX.call (n1) ?_) | (with_reducible refine NX.call (hls) ?_) | (with_reducible refine NX.call (hmay) ?_) | (with_reducible refine NX.call (hlay _ (by simp only [rhid hA, hid_eq hA, cN, Int.toNat_natCast])) ?_) | ((first | refine NX.call (r0) ?_ | refine NX.call (r1) ?_ | refine NX.call (n0) ?_ | refine NX.call (n1) ?_ | refine NX.call (hls) ?_ | refine NX.call (hmay) ?_ | refine NX.call (hlay _ (by simp only [rhid hA, hid_eq hA, cN, Int.toNat_natCast])) ?_)) | fail) | (refine NX.kO ?_; (first | refine NX.callO (r0) (by simp [allEq]) rfl ?_ | refine NX.callO (r1) (by simp [allEq]) rfl ?_ | refine NX.callO (n0) (by simp [allEq]) rfl ?_ | refine NX.callO (n1) (by simp [allEq]) rfl ?_ | refine NX.callO (hls) (by simp [allEq]) rfl ?_ | refine NX.callO (hmay) (by simp [allEq]) rfl ?_ | refine NX.callO (hlay _ (by simp only [rhid hA, hid_eq hA, cN, Int.toNat_natCast])) (by simp [allEq]) rfl ?_)) | refine NX.k 1 (NX.one Z1 ?_) | refine NX.k 7 (NX.one Z7 ?_) | refine NX.k 8 (NX.one Z8 ?_) | refine NX.k 10 (NX.one Z10 ?_) | refine NX.k 11 (NX.one Z11 ?_) | refine NX.k 14 (NX.one Z14 ?_) | refine NX.k 15 (NX.one Z15 ?_) | refine NX.k 17 (NX.one Z17 ?_) | refine NX.k 18 (NX.one Z18 ?_) | (refine NX.one (One.indexPtr tabOk rfl rfl rfl rfl rfl (by decide) (by decide)) ?_) | refine NX.raw ?_) | (refine TRg.pass ?_; refine TRg.nx hA tabOk Zc ?_; first | refine TX.done ?_ | refine TX.gt ?_ | refine TX.gf ?_ | (refine TX.gs ?_ ?_ <;> intro hc <;> rw [hc] <;> ((try simp only [zn] at hc) <;> (try simp (disch := omega) only [zz hA, zb, zy, reduceCtorEq, Bool.false_eq_true, Int.reduceLT, Int.reduceLE, Int.reduceNeg] at hc) <;> (try simp only [zw] at hc)) <;> (try (exfalso; omega))) | (refine TX.kC ?_; first | (with_reducible refine TX.call (r0) ?_) | (with_reducible refine TX.call (r1) ?_) | (with_reducible refine TX.call (n0) ?_) | (with_reducible refine TX.call (n1) ?_) | (with_reducible refine TX.call (hls) ?_) | (with_reducible refine TX.call (hmay) ?_) | (with_reducible refine TX.call (hlay _ (by simp only [rhid hA, hid_eq hA, cN, Int.toNat_natCast])) ?_) | ((first | refine TX.call (r0) ?_ | refine TX.call (r1) ?_ | refine TX.call (n0) ?_ | refine TX.call (n1) ?_ | refine TX.call (hls) ?_ | refine TX.call (hmay) ?_ | refine TX.call (hlay _ (by simp only [rhid hA, hid_eq hA, cN, Int.toNat_natCast])) ?_)) | fail) | (refine TX.kO ?_; (first | refine TX.callO (r0) (by simp [allEq]) rfl ?_ | refine TX.callO (r1) (by simp [allEq]) rfl ?_ | refine TX.callO (n0) (by simp [allEq]) rfl ?_ | refine TX.callO (n1) (by simp [allEq]) rfl ?_ | refine TX.callO (hls) (by simp [allEq]) rfl ?_ | refine TX.callO (hmay) (by simp [allEq]) rfl ?_ | refine TX.callO (hlay _ (by simp only [rhid hA, hid_eq hA, cN, Int.toNat_natCast])) (by simp [allEq]) rfl ?_)) | refine TX.k 1 (TX.one Z1 ?_) | refine TX.k 7 (TX.one Z7 ?_) | refine TX.k 8 (TX.one Z8 ?_) | refine TX.k 10 (TX.one Z10 ?_) | refine TX.k 11 (TX.one Z11 ?_) | refine TX.k 14 (TX.one Z14 ?_) | refine TX.k 15 (TX.one Z15 ?_) | refine TX.k 17 (TX.one Z17 ?_) | refine TX.k 18 (TX.one Z18 ?_) | (refine TX.one (One.indexPtr tabOk rfl rfl rfl rfl rfl (by decide) (by decide)) ?_) | refine TX.raw ?_) | refine Fin3.of Zc (by repeat' (first | exact True.intro | exact rfl | refine And.intro ?_ ?_)) ?_ ?_ | (refine AllO.pass ?_; first | exact AllO.nil | (refine AllO.cons (One.ev hA tabOk ?_) ?_ <;> (first | refine AllO.pass ?_ | ((conv => lhs; cbv); done))) | (refine AllO.cons (One.skipB ?_) ?_ <;> (first | refine AllO.pass ?_ | ((conv => lhs; cbv); done))) | ((with_reducible refine AllO.call Zc (r0) ?_ ?_) <;> (first | refine AllO.pass ?_ | exact rfl | exact Zd)) | ((with_reducible refine AllO.call Zc (r1) ?_ ?_) <;> (first | refine AllO.pass ?_ | exact rfl | exact Zd)) | ((with_reducible refine AllO.call Zc (n0) ?_ ?_) <;> (first | refine AllO.pass ?_ | exact rfl | exact Zd)) | ((with_reducible refine AllO.call Zc (n1) ?_ ?_) <;> (first | refine AllO.pass ?_ | exact rfl | exact Zd)) | ((with_reducible refine AllO.call Zc (hls) ?_ ?_) <;> (first | refine AllO.pass ?_ | exact rfl | exact Zd)) | ((with_reducible refine AllO.call Zc (hmay) ?_ ?_) <;> (first | refine AllO.pass ?_ | exact rfl | exact Zd)) | ((with_reducible refine AllO.call Zc (hlay _ (by simp only [rhid hA, hid_eq hA, cN, Int.toNat_natCast])) ?_ ?_) <;> (first | refine AllO.pass ?_ | exact rfl | exact Zd)) | refine AllO.consX ZX rfl rfl ?_ | ((refine AllO.consX (One.indexPtr tabOk rfl rfl rfl rfl rfl (by decide) (by decide)) rfl rfl ?_) <;> (first | refine AllO.pass ?_ | exact Zd))) | refine Thn.exit ?_ | refine Blk.here ?_ | refine Blk.other (by decide) ?_ | refine ⟨.inl rfl, _, RetOk.ev tabOk Zc, ?_⟩ | fail)
    all_goals first | (exfalso; omega) | (refine rPV_then (by conv => lhs; cbv) ?_; rfl) | fail
  | true =>
    rw [hb] at hlay
    refine ⟨2, false, hid A (List.map encN ((Q.getD w.toNat default).map fun id => (X, repM K V id))), true, ?_⟩
    generalize layI (P.getD w.toNat default) X = L at *
    refine PureCalls.of Try.func23 rfl (by kernel_rfl) rfl ?_
    try first | refine AOLg.of [13] ?_ | refine QSg.of [13] ?_
    repeat' (first | (refine AWp.pass ?_; first | refine AWp.seq ?_ | refine AWp.block ?_ | refine AWp.skip ?_ | refine AWp.regG [13] Zc ?_ | refine AWp.cond_t rfl ?_ | refine AWp.cond_f rfl ?_ | (refine AWp.cond rfl ?_ ?_ <;> intro hc <;> (try rw [hc]) <;> ((try simp only [zn] at hc) <;> (try simp (disch := omega) only [zz hA, zb, zy, reduceCtorEq, Bool.false_eq_true, Int.reduceLT, Int.reduceLE, Int.reduceNeg] at hc) <;> (try simp only [zw] at hc)) <;> (try (exfalso; omega))) | refine AWp.exit ?_ | refine AWp.ret ⟨.inr rfl, _, RetOk.ev tabOk Zc, ?_⟩ | refine AWp.drawVG [13] rfl (by decide +kernel) Zc ?_) | (refine AOLg.pass ?_; refine AOLg.nx hA tabOk Zc ?_; first | refine NX.done ?_ | refine NX.gt ?_ | refine NX.gf ?_ | (refine NX.gs ?_ ?_ <;> intro hc <;> rw [hc] <;> ((try simp only [zn] at hc) <;> (try simp (disch := omega) only [zz hA, zb, zy, reduceCtorEq, Bool.false_eq_true, Int.reduceLT, Int.reduceLE, Int.reduceNeg] at hc) <;> (try simp only [zw] at hc)) <;> (try (exfalso; omega))) | (refine NX.kC ?_; first | (with_reducible refine NX.call (r0) ?_) | (with_reducible refine NX.call (r1) ?_) | (with_reducible refine NX.call (n0) ?_) | (with_reducible refine NX.call (n1) ?_) | (with_reducible refine NX.call (hls) ?_) | (with_reducible refine NX.call (hmay) ?_) | (with_reducible refine NX.call (hlay _ (by simp only [rhid hA, hid_eq hA, cN, Int.toNat_natCast])) ?_) | ((first | refine NX.call (r0) ?_ | refine NX.call (r1) ?_ | refine NX.call (n0) ?_ | refine NX.call (n1) ?_ | refine NX.call (hls) ?_ | refine NX.call (hmay) ?_ | refine NX.call (hlay _ (by simp only [rhid hA, hid_eq hA, cN, Int.toNat_natCast])) ?_)) | fail) | (refine NX.kO ?_; (first | refine NX.callO (r0) (by simp [allEq]) rfl ?_ | refine NX.callO (r1) (by simp [allEq]) rfl ?_ | refine NX.callO (n0) (by simp [allEq]) rfl ?_ | refine NX.callO (n1) (by simp [allEq]) rfl ?_ | refine NX.callO (hls) (by simp [allEq]) rfl ?_ | refine NX.callO (hmay) (by simp [allEq]) rfl ?_ | refine NX.callO (hlay _ (by simp only [rhid hA, hid_eq hA, cN, Int.toNat_natCast])) (by simp [allEq]) rfl ?_)) | refine NX.k 1 (NX.one Z1 ?_) | refine NX.k 7 (NX.one Z7 ?_) | refine NX.k 8 (NX.one Z8 ?_) | refine NX.k 10 (NX.one Z10 ?_) | refine NX.k 11 (NX.one Z11 ?_) | refine NX.k 14 (NX.one Z14 ?_) | refine NX.k 15 (NX.one Z15 ?_) | refine NX.k 17 (NX.one Z17 ?_) | refine NX.k 18 (NX.one Z18 ?_) | (refine NX.one (One.indexPtr tabOk rfl rfl rfl rfl rfl (by decide) (by decide)) ?_) | (refine NX.one (One.nilOwn tabOk 13 53 rfl rfl rfl) ?_) | refine NX.raw ?_) | (refine TRg.pass ?_; refine TRg.nx hA tabOk Zc ?_; first | refine TX.done ?_ | refine TX.gt ?_ | refine TX.gf ?_ | (refine TX.gs ?_ ?_ <;> intro hc <;> rw [hc] <;> ((try simp only [zn] at hc) <;> (try simp (disch := omega) only [zz hA, zb, zy, reduceCtorEq, Bool.false_eq_true, Int.reduceLT, Int.reduceLE, Int.reduceNeg] at hc) <;> (try simp only [zw] at hc)) <;> (try (exfalso; omega))) | (refine TX.kC ?_; first | (with_reducible refine TX.call (r0) ?_) | (with_reducible refine TX.call (r1) ?_) | (with_reducible refine TX.call (n0) ?_) | (with_reducible refine TX.call (n1) ?_) | (with_reducible refine TX.call (hls) ?_) | (with_reducible refine TX.call (hmay) ?_) | (with_reducible refine TX.call (hlay _ (by simp only [rhid hA, hid_eq hA, cN, Int.toNat_natCast])) ?_) | ((first | refine TX.call (r0) ?_ | refine TX.call (r1) ?_ | refine TX.call (n0) ?_ | refine TX.call (n1) ?_ | refine TX.call (hls) ?_ | refine TX.call (hmay) ?_ | refine TX.call (hlay _ (by simp only [rhid hA, hid_eq hA, cN, Int.toNat_natCast])) ?_)) | fail) | (refine TX.kO ?_; (first | refine TX.callO (r0) (by simp [allEq]) rfl ?_ | refine TX.callO (r1) (by simp [allEq]) rfl ?_ | refine TX.callO (n0) (by simp [allEq]) rfl ?_ | refine TX.callO (n1) (by simp [allEq]) rfl ?_ | refine TX.callO (hls) (by simp [allEq]) rfl ?_ | refine TX.callO (hmay) (by simp [allEq]) rfl ?_ | refine TX.callO (hlay _ (by simp only [rhid hA, hid_eq hA, cN, Int.toNat_natCast])) (by simp [allEq]) rfl ?_)) | refine TX.k 1 (TX.one Z1 ?_) | refine TX.k 7 (TX.one Z7 ?_) | refine TX.k 8 (TX.one Z8 ?_) | refine TX.k 10 (TX.one Z10 ?_) | refine TX.k 11 (TX.one Z11 ?_) | refine TX.k 14 (TX.one Z14 ?_) | refine TX.k 15 (TX.one Z15 ?_) | refine TX.k 17 (TX.one Z17 ?_) | refine TX.k 18 (TX.one Z18 ?_) | (refine TX.one (One.indexPtr tabOk rfl rfl rfl rfl rfl (by decide) (by decide)) ?_) | (refine TX.one (One.nilOwn tabOk 13 53 rfl rfl rfl) ?_) | refine TX.raw ?_) | refine Fin3.of Zc (by repeat' (first | exact True.intro | exact rfl | refine And.intro ?_ ?_)) ?_ ?_ | (refine AllO.pass ?_; first | exact AllO.nil | (refine AllO.cons (One.ev hA tabOk ?_) ?_ <;> (first | refine AllO.pass ?_ | ((conv => lhs; cbv); done))) | (refine AllO.cons (One.skipB ?_) ?_ <;> (first | refine AllO.pass ?_ | ((conv => lhs; cbv); done))) | ((with_reducible refine AllO.call Zc (r0) ?_ ?_) <;> (first | refine AllO.pass ?_ | exact rfl | exact Zd)) | ((with_reducible refine AllO.call Zc (r1) ?_ ?_) <;> (first | refine AllO.pass ?_ | exact rfl | exact Zd)) | ((with_reducible refine AllO.call Zc (n0) ?_ ?_) <;> (first | refine AllO.pass ?_ | exact rfl | exact Zd)) | ((with_reducible refine AllO.call Zc (n1) ?_ ?_) <;> (first | refine AllO.pass ?_ | exact rfl | exact Zd)) | ((with_reducible refine AllO.call Zc (hls) ?_ ?_) <;> (first | refine AllO.pass ?_ | exact rfl | exact Zd)) | ((with_reducible refine AllO.call Zc (hmay) ?_ ?_) <;> (first | refine AllO.pass ?_ | exact rfl | exact Zd)) | ((with_reducible refine AllO.call Zc (hlay _ (by simp only [rhid hA, hid_eq hA, cN, Int.toNat_natCast])) ?_ ?_) <;> (first | refine AllO.pass ?_ | exact rfl | exact Zd)) | refine AllO.consX ZX rfl rfl ?_ | ((refine AllO.consX (One.indexPtr tabOk rfl rfl rfl rfl rfl (by decide) (by decide)) rfl rfl ?_) <;> (first | refine AllO.pass ?_ | exact Zd))) | refine Thn.exit ?_ | refine Blk.here ?_ | refine Blk.other (by decide) ?_ | refine ⟨.inl rfl, _, RetOk.ev tabOk Zc, ?_⟩ | fail)
    all_goals try (exfalso; omega)
    rw [show (A (.hid Int) fun _ => w) = w from rhid hA _]
    rw [hid_eq hA w] at hwi
    obtain ⟨f1, hf1⟩ : ∃ f1 : Int → Int × Int, f1 = fun id => (X, repM K V id) := ⟨_, rfl⟩
    obtain ⟨pre, hpD⟩ : ∃ pre, pre = Q.getD w.toNat default := ⟨_, rfl⟩
    have hpl : (Q.getD w.toNat default).length = pre.length := by rw [hpD]
    rw [← hf1, ← hpD]
    refine AWp.loopU (fun x : Nat × Nat => [(21, .ic (.lit (.int .i64 (hid A (cN x.1))))), (13, .own 4 x.2)]) (fun x => [.var true 26 [.ic (.sl 1 false (hid A (List.map (encK A) K))), .ic (.sl 1 false (hid A (List.map encI S)))], .var true 31 [.ic (.sl 1 false (hid A (List.map encI R))), .ic (.sl 1 false (hid A (List.map encI V))), .ic (.sl 2 false (hid A (List.map encN N))), .ic (.sl 1 false (hid A (List.map encI M))), .ic (.sl 1 false (hid A (List.map (encK A) P))), .ic (.sl 1 false (hid A (List.map (encK A) Q)))], .var true 58 [.ic (.lit (.int .i64 p0)), .ic (.lit (.int .i64 p1))], .var true 31 [.ic (.sl 0 true []), .ic (.sl 0 true []), .ic (.sl 0 true []), .ic (.sl 0 true []), .ic (.sl 0 true []), .ic (.sl 0 true [])], .row true x.2 58 2 (hid A (List.map encN ((pre.take x.1).map f1)))]) (fun x => pre.length - x.1) (fun x => x.1 ≤ pre.length) (0, 0) (by conv => lhs; cbv) (Nat.zero_le _) (by ((repeat' (first | exact subE.nil | refine subE.cons rfl ?_ | refine subE.int rfl ?_ ?_ | refine subE.bool rfl ?_ ?_ | refine subE.str rfl ?_ ?_ | refine subE.sl rfl ?_ ?_))) <;> first | rfl | simp [hA, real, hid, cN]) (by simp [hid_eq hA]) ?_
    rintro ⟨k, u⟩ hk
    simp only at hk ⊢
    by_cases hlt : k < pre.length
    · have hln : ((pre.take k).map f1).length = k := by simp; omega
      have hnx := takeMap f1 pre k hlt
      generalize hT2 : (pre.take (k + 1)).map f1 = T2 at *
      generalize (pre.take k).map f1 = T at *
      try first | refine AOLg.of [] ?_ | refine QSg.of [] ?_
      repeat' (first | (refine AWp.pass ?_; first | refine AWp.seq ?_ | refine AWp.block ?_ | refine AWp.skip ?_ | refine AWp.regG [] Zc ?_ | refine AWp.cond_t rfl ?_ | refine AWp.cond_f rfl ?_ | (refine AWp.cond rfl ?_ ?_ <;> intro hc <;> (try rw [hc]) <;> ((try simp only [zn] at hc) <;> (try simp (disch := omega) only [zz hA, zb, zy, reduceCtorEq, Bool.false_eq_true, Int.reduceLT, Int.reduceLE, Int.reduceNeg] at hc) <;> (try simp only [zw] at hc)) <;> (try (exfalso; omega))) | refine AWp.exit ?_ | refine AWp.ret ⟨.inr rfl, _, RetOk.ev tabOk Zc, ?_⟩ | refine W.AWp.drawVG [] rfl (by decide +kernel) Zc ?_) | (refine AOLg.pass ?_; refine AOLg.nx hA tabOk Zc ?_; first | refine NX.done ?_ | refine NX.gt ?_ | refine NX.gf ?_ | (refine NX.gs ?_ ?_ <;> intro hc <;> rw [hc] <;> ((try simp only [zn] at hc) <;> (try simp (disch := omega) only [zz hA, zb, zy, reduceCtorEq, Bool.false_eq_true, Int.reduceLT, Int.reduceLE, Int.reduceNeg] at hc) <;> (try simp only [zw] at hc)) <;> (try (exfalso; omega))) | (refine NX.kC ?_; first | (with_reducible refine NX.call (hrep _) ?_) | ((first | refine NX.call (hrep _) ?_)) | fail) | (refine NX.kO ?_; (first | refine NX.callO (hrep _) (by simp [allEq]) rfl ?_)) | refine NX.k 1 (NX.one Z1 ?_) | refine NX.k 7 (NX.one Z7 ?_) | refine NX.k 8 (NX.one Z8 ?_) | refine NX.k 10 (NX.one Z10 ?_) | refine NX.k 11 (NX.one Z11 ?_) | refine NX.k 14 (NX.one Z14 ?_) | refine NX.k 15 (NX.one Z15 ?_) | refine NX.k 17 (NX.one Z17 ?_) | refine NX.k 18 (NX.one Z18 ?_) | (refine NX.one (One.elemM hA tabOk rfl rfl rfl rfl Zd Zd) ?_) | (refine NX.one (One.buildArr tabOk rfl rfl rfl rfl rfl rfl) ?_) | (refine NX.one (One.appendOwnM hA tabOk (f := encN) (f1 (pre.getD k default)) rfl rfl rfl rfl rfl rfl (by simp only [encN, hf1, hpD, rhid hA, hid_eq hA, cN, Int.toNat_natCast]) Zd Zd) ?_) | refine NX.raw ?_) | (refine W.TRg.pass ?_; refine W.TRg.nx hA tabOk Zc ?_; first | refine W.TX.done ?_ | refine W.TX.gt ?_ | refine W.TX.gf ?_ | (refine W.TX.gs ?_ ?_ <;> intro hc <;> rw [hc] <;> ((try simp only [zn] at hc) <;> (try simp (disch := omega) only [zz hA, zb, zy, reduceCtorEq, Bool.false_eq_true, Int.reduceLT, Int.reduceLE, Int.reduceNeg] at hc) <;> (try simp only [zw] at hc)) <;> (try (exfalso; omega))) | (refine W.TX.kC ?_; first | (with_reducible refine W.TX.call (hrep _) ?_) | ((first | refine W.TX.call (hrep _) ?_)) | fail) | (refine W.TX.kO ?_; (first | refine W.TX.callO (hrep _) (by simp [allEq]) rfl ?_)) | refine W.TX.k 1 (W.TX.one Z1 ?_) | refine W.TX.k 7 (W.TX.one Z7 ?_) | refine W.TX.k 8 (W.TX.one Z8 ?_) | refine W.TX.k 10 (W.TX.one Z10 ?_) | refine W.TX.k 11 (W.TX.one Z11 ?_) | refine W.TX.k 14 (W.TX.one Z14 ?_) | refine W.TX.k 15 (W.TX.one Z15 ?_) | refine W.TX.k 17 (W.TX.one Z17 ?_) | refine W.TX.k 18 (W.TX.one Z18 ?_) | (refine W.TX.one (One.elemM hA tabOk rfl rfl rfl rfl Zd Zd) ?_) | (refine W.TX.one (One.buildArr tabOk rfl rfl rfl rfl rfl rfl) ?_) | (refine W.TX.one (One.appendOwnM hA tabOk (f := encN) (f1 (pre.getD k default)) rfl rfl rfl rfl rfl rfl (by simp only [encN, hf1, hpD, rhid hA, hid_eq hA, cN, Int.toNat_natCast]) Zd Zd) ?_) | refine W.TX.raw ?_) | refine W.Fin3.of Zc (by repeat' (first | exact True.intro | exact rfl | refine And.intro ?_ ?_)) ?_ ?_ | (refine W.AllO.pass ?_; first | exact W.AllO.nil | (refine W.AllO.cons (One.ev hA tabOk ?_) ?_ <;> (first | refine W.AllO.pass ?_ | ((conv => lhs; cbv); done))) | (refine W.AllO.cons (One.skipB ?_) ?_ <;> (first | refine W.AllO.pass ?_ | ((conv => lhs; cbv); done))) | ((with_reducible refine W.AllO.call Zc (hrep _) ?_ ?_) <;> (first | refine W.AllO.pass ?_ | exact rfl | exact Zd)) | refine W.AllO.consX ZX rfl rfl ?_ | ((refine W.AllO.consX (One.elemM hA tabOk rfl rfl rfl rfl Zd Zd) rfl rfl ?_) <;> (first | refine W.AllO.pass ?_ | exact Zd)) | ((refine W.AllO.consX (One.buildArr tabOk rfl rfl rfl rfl rfl rfl) rfl rfl ?_) <;> (first | refine W.AllO.pass ?_ | exact Zd))) | refine Thn.exit ?_ | refine Blk.here ?_ | refine Blk.other (by decide) ?_ | refine ⟨.inl rfl, _, RetOk.ev tabOk Zc, ?_⟩ | fail)
      all_goals try (exfalso; omega)
      refine ⟨(k + 1, u + 1), by simp only; omega, by simp only; omega, rfl, ?_, ?_, Zk⟩
      · simp only [hT2, hnx]
      · (repeat' (first | exact subE.nil | refine subE.cons rfl ?_ | refine subE.int rfl ?_ ?_ | refine subE.bool rfl ?_ ?_ | refine subE.str rfl ?_ ?_ | refine subE.sl rfl ?_ ?_))
        all_goals first | rfl | exact Zd
    · rw [show pre.take k = pre from List.take_of_length_le (by omega)]
      try first | refine AOLg.of [] ?_ | refine QSg.of [] ?_
      repeat' (first | (refine AWp.pass ?_; first | refine AWp.seq ?_ | refine AWp.block ?_ | refine AWp.skip ?_ | refine AWp.regG [] Zc ?_ | refine AWp.cond_t rfl ?_ | refine AWp.cond_f rfl ?_ | (refine AWp.cond rfl ?_ ?_ <;> intro hc <;> (try rw [hc]) <;> ((try simp only [zn] at hc) <;> (try simp (disch := omega) only [zz hA, zb, zy, reduceCtorEq, Bool.false_eq_true, Int.reduceLT, Int.reduceLE, Int.reduceNeg] at hc) <;> (try simp only [zw] at hc)) <;> (try (exfalso; omega))) | refine AWp.exit ?_ | refine AWp.ret ⟨.inr rfl, _, RetOk.ev tabOk Zc, ?_⟩ | refine AWp.drawVG [] rfl (by decide +kernel) Zc ?_) | (refine AOLg.pass ?_; refine AOLg.nx hA tabOk Zc ?_; first | refine NX.done ?_ | refine NX.gt ?_ | refine NX.gf ?_ | (refine NX.gs ?_ ?_ <;> intro hc <;> rw [hc] <;> ((try simp only [zn] at hc) <;> (try simp (disch := omega) only [zz hA, zb, zy, reduceCtorEq, Bool.false_eq_true, Int.reduceLT, Int.reduceLE, Int.reduceNeg] at hc) <;> (try simp only [zw] at hc)) <;> (try (exfalso; omega))) | (refine NX.kC ?_; first | (with_reducible refine NX.call (hwi) ?_) | ((first | refine NX.call (hwi) ?_)) | fail) | (refine NX.kO ?_; (first | refine NX.callO (hwi) (by simp [allEq]) rfl ?_)) | refine NX.k 1 (NX.one Z1 ?_) | refine NX.k 7 (NX.one Z7 ?_) | refine NX.k 8 (NX.one Z8 ?_) | refine NX.k 10 (NX.one Z10 ?_) | refine NX.k 11 (NX.one Z11 ?_) | refine NX.k 14 (NX.one Z14 ?_) | refine NX.k 15 (NX.one Z15 ?_) | refine NX.k 17 (NX.one Z17 ?_) | refine NX.k 18 (NX.one Z18 ?_) | refine NX.raw ?_) | (refine TRg.pass ?_; refine TRg.nx hA tabOk Zc ?_; first | refine TX.done ?_ | refine TX.gt ?_ | refine TX.gf ?_ | (refine TX.gs ?_ ?_ <;> intro hc <;> rw [hc] <;> ((try simp only [zn] at hc) <;> (try simp (disch := omega) only [zz hA, zb, zy, reduceCtorEq, Bool.false_eq_true, Int.reduceLT, Int.reduceLE, Int.reduceNeg] at hc) <;> (try simp only [zw] at hc)) <;> (try (exfalso; omega))) | (refine TX.kC ?_; first | (with_reducible refine TX.call (hwi) ?_) | ((first | refine TX.call (hwi) ?_)) | fail) | (refine TX.kO ?_; (first | refine TX.callO (hwi) (by simp [allEq]) rfl ?_)) | refine TX.k 1 (TX.one Z1 ?_) | refine TX.k 7 (TX.one Z7 ?_) | refine TX.k 8 (TX.one Z8 ?_) | refine TX.k 10 (TX.one Z10 ?_) | refine TX.k 11 (TX.one Z11 ?_) | refine TX.k 14 (TX.one Z14 ?_) | refine TX.k 15 (TX.one Z15 ?_) | refine TX.k 17 (TX.one Z17 ?_) | refine TX.k 18 (TX.one Z18 ?_) | refine TX.raw ?_) | refine Fin3.of Zc (by repeat' (first | exact True.intro | exact rfl | refine And.intro ?_ ?_)) ?_ ?_ | (refine AllO.pass ?_; first | exact AllO.nil | (refine AllO.cons (One.ev hA tabOk ?_) ?_ <;> (first | refine AllO.pass ?_ | ((conv => lhs; cbv); done))) | (refine AllO.cons (One.skipB ?_) ?_ <;> (first | refine AllO.pass ?_ | ((conv => lhs; cbv); done))) | ((with_reducible refine AllO.call Zc (hwi) ?_ ?_) <;> (first | refine AllO.pass ?_ | exact rfl | exact Zd)) | refine AllO.consX ZX rfl rfl ?_) | refine Thn.exit ?_ | refine Blk.here ?_ | refine Blk.other (by decide) ?_ | refine ⟨.inl rfl, _, RetOk.ev tabOk Zc, ?_⟩ | fail)
      all_goals try (exfalso; omega)
      all_goals
        show rPV _ _ = some _
        rw [rPV_gr4 (k := 4) rfl]
end Go.Proofs.Ytkkjlmcnfoncdaa.Aw

/- The document's example of layer 12, part 1: its store; what lays a place into an empty row. -/
set_option linter.unusedVariables false
set_option linter.unusedSimpArgs false
set_option linter.unusedSectionVars false
namespace Go.Proofs.Ytkkjlmcnfoncdaa.Aw
open Go Go.RowKit
set_option maxRecDepth 10000
attribute [local irreducible] AWp AOL QS One AOLg QSg NX QX TRg TX AllO Fin3
attribute [local irreducible] W.TRg W.TX W.AllO W.Fin3
def K4 : List (List Int) := [[0, 0, 0], [1, 0, 0], [2, 0, 0], [2, 1, 0]]
theorem k4_ok : StK K4 (layM K4) where
  ok := ⟨by decide +kernel, by decide +kernel, by decide +kernel⟩
  lay := rfl
  len := by decide +kernel
  keys := by decide +kernel
theorem v2_find : findU [0, 1] 0 = 0 ∧ findU [0, 1] 1 = 1 := by decide +kernel
theorem v2_right : RightU [0, 1] [] := (rightB_iff _ _).1 (by decide +kernel)
variable {A : Ar} (hA : A = real)
include hA
theorem k4_rows : ILxr [[.sl 1 true [[.lit (.int .i64 0)], [.lit (.int .i64 0)], [.lit (.int .i64 0)]]], [.sl 1 true [[.lit (.int .i64 1)], [.lit (.int .i64 0)], [.lit (.int .i64 0)]]], [.sl 1 true [[.lit (.int .i64 2)], [.lit (.int .i64 0)], [.lit (.int .i64 0)]]], [.sl 1 true [[.lit (.int .i64 2)], [.lit (.int .i64 1)], [.lit (.int .i64 0)]]]] (hid A (List.map (encK A) K4)) := by
  rw [hid_eq hA, show List.map (encK A) K4 = [[.sl 1 false (List.map encI [0, 0, 0])], [.sl 1 false (List.map encI [1, 0, 0])], [.sl 1 false (List.map encI [2, 0, 0])], [.sl 1 false (List.map encI [2, 1, 0])]] by simp only [K4, List.map, encK, hid_eq hA]]
  exact .cons (.cons (.ex _ _ _) .nil) (.cons (.cons (.ex _ _ _) .nil) (.cons (.cons (.ex _ _ _) .nil) (.cons (.cons (.ex _ _ _) .nil) .nil)))
def K2 : List (List Int) := [[], []]
def K2' : List (List Int) := [[], [2]]
end Go.Proofs.Ytkkjlmcnfoncdaa.Aw

/- The document's example of layer 13. -/
set_option linter.unusedVariables false
set_option linter.unusedSimpArgs false
set_option linter.unusedSectionVars false
namespace Go.Proofs.Ytkkjlmcnfoncdaa.Aw
open Go Go.RowKit
set_option maxRecDepth 10000
attribute [local irreducible] AWp AOL QS One AOLg QSg NX QX TRg TX AllO Fin3
theorem nx_two : nextM K4 [0, 1] [[], [2]] [[], [2]] 1 = [0] ∧ nextM K4 [0, 1] [[], [2]] [[], [2]] 0 = [1] := by
  have e : edgesM K4 [0, 1] [[], [2]] [[], [2]] 2 = [(1, 0), (0, 1)] := by decide +kernel
  have h1 : outM [(1, 0), (0, 1)] 1 = [0] := by decide +kernel
  have h0 : outM [(1, 0), (0, 1)] 0 = [1] := by decide +kernel
  unfold nextM
  rw [show ([0, 1] : List Int).length = 2 from rfl, e, h1, h0]
  refine ⟨?_, ?_⟩
  · rw [show sortZ [0] = [0] by simp [sortZ]]; decide +kernel
  · rw [show sortZ [1] = [1] by simp [sortZ]]; decide +kernel
theorem path_two {nx : Int → List Int} (h : nx 1 = [0]) : pathM nx 1 0 5 = [1, 0] := by
  have hs : sortZ [0] = [0] := by simp [sortZ]
  have l0 : levP nx 1 0 = ([(1, 1)], [1]) := rfl
  have l1 : levP nx 1 1 = ([(1, 1), (0, 1)], [0]) := by
    simp only [levP, List.foldl_cons, List.foldl_nil, visP, h, inP]
    rw [show (mapF [((1 : Int), (1 : Int))] 0).isSome = false by decide]
    simp [hs]
  have g0 : goesP nx 1 0 5 0 = true := by unfold goesP; rw [l0]; decide +kernel
  have g1 : goesP nx 1 0 5 1 = false := by unfold goesP; rw [l1]; decide +kernel
  have hst : stopP nx 1 0 5 5 0 = 1 := by
    simp only [stopP, g0, g1, if_true, Nat.zero_add]
    rfl
  have hf : finP nx 1 0 5 = [(1, 1), (0, 1)] := by
    unfold finP
    rw [show (5 : Int).toNat = 5 from rfl, hst, l1]
  unfold pathM
  rw [hf]
  decide +kernel
variable {A : Ar} (hA : A = real)
include hA
theorem shown13_c : PureCalls Try.prog 18 [] (BP true) := by
  have hl := refLay_c hA K4 (by decide +kernel)
  have hn := refNew12_c hA
  obtain ⟨z1, x1, q1, b1, a1⟩ := refAdd_c3 hA K4 (layM K4) k4_ok [] [0, 1] [(-1, 0), (-1, 0)] [] [[], []] [[], []] v2_right (by decide) (by decide) rfl rfl (by decide) (by decide) 2 3 2 3 0 1 (by decide +kernel) (by decide +kernel) (by decide +kernel) (by decide +kernel) (by decide) (by decide) (by decide) (by decide +kernel) (by decide +kernel) (by decide)
  rw [show (([[], []] : List (List Int)).set (Int.toNat 1) (layI (([[], []] : List (List Int)).getD (Int.toNat 1) default) 2)) = [[], [2]] by decide +kernel] at a1
  obtain ⟨z2, x2, q2, b2, a2⟩ := refAdd_c2 hA K4 (layM K4) k4_ok [] [0, 1] [(-1, 0), (-1, 0)] [] [[], [2]] [[], []] v2_right (by decide) (by decide) rfl rfl (by decide) (by decide) 3 2 3 2 1 0 (by decide +kernel) (by decide +kernel) (by decide +kernel) (by decide +kernel) (by decide) (by decide) (by decide) (by decide) (by decide +kernel)
  rw [show (([[], []] : List (List Int)).set (Int.toNat 1) (layI (([[], []] : List (List Int)).getD (Int.toNat 1) default) 2)) = [[], [2]] by decide +kernel] at a2
  have hp := path_c hA K4 (layM K4) k4_ok [] [0, 1] [(-1, 0), (-1, 0)] [] [[], [2]] [[], [2]] v2_right (by decide) rfl rfl (by decide) (by decide) 1 0 (by decide) (by decide) (by decide) (by decide) 5 (by decide) (by decide)
  have hx := next_c hA K4 (layM K4) k4_ok [] [0, 1] [(-1, 0), (-1, 0)] [] [[], [2]] [[], [2]] v2_right (by decide) rfl rfl (by decide) (by decide) 0 (by decide) (by decide)
  rw [v2_find.1, v2_find.2, path_two (by unfold nxG; rw [v2_find.2]; exact nx_two.1)] at hp
  rw [v2_find.1, nx_two.2] at hx
  have e1 : ([1, 0] : List Int).length = 2 := rfl
  have e2 : ([1] : List Int).length = 1 := rfl
  have e3 : ([1, 0] : List Int).getD (Int.toNat 0) default = 1 := rfl
  have e4 : ([1, 0] : List Int).getD (Int.toNat 1) default = 0 := rfl
  have e5 : ([1] : List Int).getD (Int.toNat 0) default = 1 := rfl
  refine PureCalls.of Try.func18 rfl (by kernel_rfl) rfl ?_
  try first | refine AOLg.of [15] ?_ | refine QSg.of [15] ?_
  repeat' (first | (refine AWp.pass ?_; first | refine AWp.seq ?_ | refine AWp.block ?_ | refine AWp.skip ?_ | refine AWp.regG [15] Zc ?_ | refine AWp.cond_t rfl ?_ | refine AWp.cond_f rfl ?_ | (refine AWp.cond rfl ?_ ?_ <;> intro hc <;> (try rw [hc]) <;> ((try simp only [zn] at hc) <;> (try simp (disch := omega) only [zz hA, zb, zy, reduceCtorEq, Bool.false_eq_true, Int.reduceLT, Int.reduceLE, Int.reduceNeg] at hc) <;> (try simp only [zw] at hc)) <;> (try (exfalso; omega))) | refine AWp.exit ?_ | refine AWp.ret ⟨.inr rfl, _, RetOk.ev tabOk Zc, ?_⟩ | refine AWp.drawVG [15] rfl (by decide +kernel) Zc ?_) | (refine AOLg.pass ?_; refine AOLg.nx hA tabOk Zc ?_; first | refine NX.done ?_ | refine NX.gt ?_ | refine NX.gf ?_ | (refine NX.gs ?_ ?_ <;> intro hc <;> rw [hc] <;> ((try simp only [zn] at hc) <;> (try simp (disch := omega) only [zz hA, zb, zy, reduceCtorEq, Bool.false_eq_true, Int.reduceLT, Int.reduceLE, Int.reduceNeg] at hc) <;> (try simp only [zw] at hc)) <;> (try (exfalso; omega))) | (refine NX.kC ?_; first | (with_reducible refine NX.call (hl) ?_) | (with_reducible refine NX.call (hn) ?_) | (with_reducible refine NX.call (a1) ?_) | (with_reducible refine NX.call (a2) ?_) | (with_reducible refine NX.call (hp) ?_) | (with_reducible refine NX.call (hx) ?_) | ((first | refine NX.call (hl) ?_ | refine NX.call (hn) ?_ | refine NX.call (a1) ?_ | refine NX.call (a2) ?_ | refine NX.call (hp) ?_ | refine NX.call (hx) ?_)) | fail) | (refine NX.kO ?_; (first | refine NX.callO (hl) (by simp [allEq]) rfl ?_ | refine NX.callO (hn) (by simp [allEq]) rfl ?_ | refine NX.callO (a1) (by simp [allEq]) rfl ?_ | refine NX.callO (a2) (by simp [allEq]) rfl ?_ | refine NX.callO (hp) (by simp [allEq]) rfl ?_ | refine NX.callO (hx) (by simp [allEq]) rfl ?_)) | refine NX.k 1 (NX.one Z1 ?_) | refine NX.k 8 (NX.one Z8 ?_) | refine NX.k 10 (NX.one Z10 ?_) | refine NX.k 14 (NX.one Z14 ?_) | refine NX.k 15 (NX.one Z15 ?_) | refine NX.k 17 (NX.one Z17 ?_) | (refine NX.one (One.weakE (One.weakX (One.ev hA tabOk Zc) (k4_rows hA))) ?_) | (refine NX.one (One.buildArr tabOk rfl rfl rfl rfl rfl rfl) ?_) | refine NX.raw ?_) | (refine TRg.pass ?_; refine TRg.nx hA tabOk Zc ?_; first | refine TX.done ?_ | refine TX.gt ?_ | refine TX.gf ?_ | (refine TX.gs ?_ ?_ <;> intro hc <;> rw [hc] <;> ((try simp only [zn] at hc) <;> (try simp (disch := omega) only [zz hA, zb, zy, reduceCtorEq, Bool.false_eq_true, Int.reduceLT, Int.reduceLE, Int.reduceNeg] at hc) <;> (try simp only [zw] at hc)) <;> (try (exfalso; omega))) | (refine TX.kC ?_; first | (with_reducible refine TX.call (hl) ?_) | (with_reducible refine TX.call (hn) ?_) | (with_reducible refine TX.call (a1) ?_) | (with_reducible refine TX.call (a2) ?_) | (with_reducible refine TX.call (hp) ?_) | (with_reducible refine TX.call (hx) ?_) | ((first | refine TX.call (hl) ?_ | refine TX.call (hn) ?_ | refine TX.call (a1) ?_ | refine TX.call (a2) ?_ | refine TX.call (hp) ?_ | refine TX.call (hx) ?_)) | fail) | (refine TX.kO ?_; (first | refine TX.callO (hl) (by simp [allEq]) rfl ?_ | refine TX.callO (hn) (by simp [allEq]) rfl ?_ | refine TX.callO (a1) (by simp [allEq]) rfl ?_ | refine TX.callO (a2) (by simp [allEq]) rfl ?_ | refine TX.callO (hp) (by simp [allEq]) rfl ?_ | refine TX.callO (hx) (by simp [allEq]) rfl ?_)) | refine TX.k 1 (TX.one Z1 ?_) | refine TX.k 8 (TX.one Z8 ?_) | refine TX.k 10 (TX.one Z10 ?_) | refine TX.k 14 (TX.one Z14 ?_) | refine TX.k 15 (TX.one Z15 ?_) | refine TX.k 17 (TX.one Z17 ?_) | (refine TX.one (One.weakE (One.weakX (One.ev hA tabOk Zc) (k4_rows hA))) ?_) | (refine TX.one (One.buildArr tabOk rfl rfl rfl rfl rfl rfl) ?_) | refine TX.raw ?_) | refine Fin3.of Zc (by repeat' (first | exact True.intro | exact rfl | refine And.intro ?_ ?_)) ?_ ?_ | (refine AllO.pass ?_; first | exact AllO.nil | (refine AllO.cons (One.ev hA tabOk ?_) ?_ <;> (first | refine AllO.pass ?_ | ((conv => lhs; cbv); done))) | (refine AllO.cons (One.skipB ?_) ?_ <;> (first | refine AllO.pass ?_ | ((conv => lhs; cbv); done))) | ((with_reducible refine AllO.call Zc (hl) ?_ ?_) <;> (first | refine AllO.pass ?_ | exact rfl | exact Zd)) | ((with_reducible refine AllO.call Zc (hn) ?_ ?_) <;> (first | refine AllO.pass ?_ | exact rfl | exact Zd)) | ((with_reducible refine AllO.call Zc (a1) ?_ ?_) <;> (first | refine AllO.pass ?_ | exact rfl | exact Zd)) | ((with_reducible refine AllO.call Zc (a2) ?_ ?_) <;> (first | refine AllO.pass ?_ | exact rfl | exact Zd)) | ((with_reducible refine AllO.call Zc (hp) ?_ ?_) <;> (first | refine AllO.pass ?_ | exact rfl | exact Zd)) | ((with_reducible refine AllO.call Zc (hx) ?_ ?_) <;> (first | refine AllO.pass ?_ | exact rfl | exact Zd)) | refine AllO.consX ZX rfl rfl ?_ | ((refine AllO.consX (One.weakE (One.weakX (One.ev hA tabOk Zc) (k4_rows hA))) rfl rfl ?_) <;> (first | refine AllO.pass ?_ | exact Zd)) | ((refine AllO.consX (One.buildArr tabOk rfl rfl rfl rfl rfl rfl) rfl rfl ?_) <;> (first | refine AllO.pass ?_ | exact Zd))) | refine Thn.exit ?_ | refine Blk.here ?_ | refine Blk.other (by decide) ?_ | refine ⟨.inl rfl, _, RetOk.ev tabOk Zc, ?_⟩ | fail)
  all_goals first | (exfalso; omega) | (refine rPV_then (by conv => lhs; cbv) ?_; rfl) | (refine rPV_then (by conv => lhs; cbv) ?_; simp only [rhid hA]; simp [hA, real]; done) | fail
end Go.Proofs.Ytkkjlmcnfoncdaa.Aw

/- Who is next: a plain law. -/
set_option linter.unusedVariables false
set_option linter.unusedSimpArgs false
namespace Go.Proofs.Ytkkjlmcnfoncdaa.Aw
open Go Go.RowKit
theorem sortZ_le (l : List Int) : (sortZ l).Pairwise (· ≤ ·) := by
  have h := List.pairwise_mergeSort (le := fun x y : Int => decide (x ≤ y)) (fun a b c h1 h2 => by simp at *; omega) (fun a b => by simp; omega) l
  exact h.imp fun h => by simpa using h
theorem upTo_lt (d : Array Int) (hs : ∀ i : Nat, i + 1 < d.size → d[i]! ≤ d[i + 1]!) : ∀ m, m ≤ d.size → (Lib.compactUpTo d m).Pairwise (· < ·) ∧ (∀ x ∈ Lib.compactUpTo d m, 0 < m ∧ x ≤ d[m - 1]!)
  | 0, _ => by simp [Lib.compactUpTo]
  | m + 1, h => by
    obtain ⟨h1, h2⟩ := upTo_lt d hs m (by omega)
    rw [Lib.compactUpTo_succ]
    by_cases hk : Lib.keeps d m = true
    · rw [if_pos hk]
      unfold Lib.keeps at hk
      simp only [decide_eq_true_eq] at hk
      refine ⟨List.pairwise_append.2 ⟨h1, by simp, fun a ha b hb => ?_⟩, fun x hx => ?_⟩
      · obtain ⟨hm, hle⟩ := h2 a ha
        simp only [List.mem_singleton] at hb
        subst hb
        have hss := hs (m - 1) (by omega)
        rw [show m - 1 + 1 = m by omega] at hss
        rcases hk with hk | hk
        · omega
        · omega
      · simp only [List.mem_append, List.mem_singleton] at hx
        rcases hx with hx | hx
        · obtain ⟨hm, hle⟩ := h2 x hx
          have hss := hs (m - 1) (by omega)
          rw [show m - 1 + 1 = m by omega] at hss
          exact ⟨by omega, by simp only [Nat.add_sub_cancel]; omega⟩
        · subst hx; exact ⟨by omega, by simp⟩
    · rw [if_neg hk, List.append_nil]
      refine ⟨h1, fun x hx => ?_⟩
      obtain ⟨hm, hle⟩ := h2 x hx
      have hss := hs (m - 1) (by omega)
      rw [show m - 1 + 1 = m by omega] at hss
      exact ⟨by omega, by simp only [Nat.add_sub_cancel]; omega⟩
theorem upTo_all (d : Array Int) : ∀ m, ∀ j, j < m → d[j]! ∈ Lib.compactUpTo d m
  | 0, j, h => by omega
  | m + 1, j, h => by
    rw [Lib.compactUpTo_succ]
    by_cases hk : Lib.keeps d m = true
    · rw [if_pos hk, List.mem_append]
      rcases Nat.lt_or_ge j m with h1 | h1
      · exact .inl (upTo_all d m j h1)
      · obtain rfl : j = m := by omega
        exact .inr (by simp)
    · rw [if_neg hk, List.append_nil]
      rcases Nat.lt_or_ge j m with h1 | h1
      · exact upTo_all d m j h1
      · obtain rfl : j = m := by omega
        unfold Lib.keeps at hk
        simp only [decide_eq_true_eq, not_or, Decidable.not_not] at hk
        rw [hk.2]
        exact upTo_all d j (j - 1) (by omega)
theorem comp_lt {zs : List Int} (h : zs.Pairwise (· ≤ ·)) : (Lib.compact zs).Pairwise (· < ·) := by
  unfold Lib.compact
  refine (upTo_lt zs.toArray (fun i hi => ?_) zs.length (by simp)).1
  have hi : i + 1 < zs.length := by simpa using hi
  rw [getElem!_pos _ i (by simp; omega), getElem!_pos _ (i + 1) (by simp; omega)]
  simp only [List.getElem_toArray]
  exact List.pairwise_iff_getElem.1 h i (i + 1) (by omega) hi (by omega)
theorem comp_mem {zs : List Int} {x : Int} : x ∈ Lib.compact zs ↔ x ∈ zs := by
  refine ⟨compact_mem, fun h => ?_⟩
  obtain ⟨j, hj, rfl⟩ := List.mem_iff_getElem.1 h
  have := upTo_all zs.toArray zs.length j hj
  rw [getElem!_pos _ j (by simpa using hj)] at this
  show zs[j] ∈ Lib.compactUpTo zs.toArray zs.length
  simpa using this
/-- Who is next to v. -/
theorem mem_next {K : List (List Int)} {V : List Int} {P Q : List (List Int)} {v w : Int} : w ∈ nextM K V P Q v ↔ (v, w) ∈ edgesM K V P Q V.length ∧ w ≠ v := by
  unfold nextM
  rw [comp_mem, sortZ_mem]
  unfold outM
  constructor
  · intro h
    obtain ⟨p, hp, rfl⟩ := List.mem_map.1 h
    obtain ⟨h1, h2⟩ := List.mem_filter.1 hp
    simp only [decide_eq_true_eq] at h2
    obtain ⟨a, b⟩ := p
    simp only at h2 h1 ⊢
    obtain ⟨rfl, h3⟩ := h2
    exact ⟨h1, h3⟩
  · rintro ⟨h1, h2⟩
    exact List.mem_map.2 ⟨(v, w), List.mem_filter.2 ⟨h1, by simp [h2]⟩, rfl⟩
theorem next_lt {K : List (List Int)} {V : List Int} {P Q : List (List Int)} {v : Int} {i : Nat} (h0 : 0 < i) (h : i < (nextM K V P Q v).length) : (nextM K V P Q v).getD (i - 1) default < (nextM K V P Q v).getD i default := by
  have := comp_lt (sortZ_le (outM (edgesM K V P Q V.length) v))
  unfold nextM at h ⊢
  rw [List.getD_eq_getElem?_getD, List.getD_eq_getElem?_getD, List.getElem?_eq_getElem (by omega), List.getElem?_eq_getElem h]
  exact List.pairwise_iff_getElem.1 this (i - 1) i (by omega) h (by omega)
theorem mem_edges {K : List (List Int)} {V : List Int} {P Q : List (List Int)} {a b : Int} : ∀ n : Nat, (a, b) ∈ edgesM K V P Q n ↔ ∃ v : Nat, v < n ∧ ((a = v ∧ ∃ id ∈ Q.getD v default, 0 ≤ numM K V.length id ∧ b = fstM K V id) ∨ (b = v ∧ ∃ id ∈ P.getD v default, 0 ≤ numM K V.length id ∧ a = fstM K V id))
  | 0 => by simp [edgesM]
  | n + 1 => by
    simp only [edgesM, List.mem_append, mem_edges n]
    have hs : (a, b) ∈ sucE K V (n : Int) (Q.getD n default) ↔ (a = n ∧ ∃ id ∈ Q.getD n default, 0 ≤ numM K V.length id ∧ b = fstM K V id) := by
      unfold sucE
      simp only [List.mem_map, List.mem_filter, decide_eq_true_eq, Prod.mk.injEq]
      constructor
      · rintro ⟨id, ⟨h1, h2⟩, h3, h4⟩; exact ⟨h3.symm, id, h1, h2, h4.symm⟩
      · rintro ⟨h3, id, h1, h2, h4⟩; exact ⟨id, ⟨h1, h2⟩, h3.symm, h4.symm⟩
    have hp : (a, b) ∈ preE K V (n : Int) (P.getD n default) ↔ (b = n ∧ ∃ id ∈ P.getD n default, 0 ≤ numM K V.length id ∧ a = fstM K V id) := by
      unfold preE
      simp only [List.mem_map, List.mem_filter, decide_eq_true_eq, Prod.mk.injEq]
      constructor
      · rintro ⟨id, ⟨h1, h2⟩, h3, h4⟩; exact ⟨h4.symm, id, h1, h2, h3.symm⟩
      · rintro ⟨h3, id, h1, h2, h4⟩; exact ⟨id, ⟨h1, h2⟩, h4.symm, h3.symm⟩
    rw [hs, hp]
    constructor
    · rintro ((⟨v, hv, h⟩ | h) | h)
      · exact ⟨v, by omega, h⟩
      · exact ⟨n, by omega, .inl h⟩
      · exact ⟨n, by omega, .inr h⟩
    · rintro ⟨v, hv, h⟩
      rcases Nat.lt_or_ge v n with h1 | h1
      · exact .inl (.inl ⟨v, h1, h⟩)
      · obtain rfl : v = n := by omega
        rcases h with h | h
        · exact .inl (.inr h)
        · exact .inr h
/-- Who is next is a first one. -/
theorem next_root {K : List (List Int)} {S R V : List Int} {N : List (Int × Int)} {M : List Int} {P Q : List (List Int)} (hst : StK K S) (hR : RightU V R) (hr : rightGr K R V N M P Q = true) {v w : Int} (h : w ∈ nextM K V P Q v) : V.getD w.toNat default = w := by
  obtain ⟨u, hu, h1⟩ := (mem_edges V.length).1 (mem_next.1 h).1
  rcases h1 with ⟨_, id, _, h2, rfl⟩ | ⟨rfl, id, h1, _⟩
  · have hc := num_cases K V.length id hst.ok
    unfold fstM
    rw [if_neg (by omega)]
    exact find_fix hR (by omega) (by omega)
  · unfold rightGr at hr
    simp only [Bool.and_eq_true] at hr
    have hn := allB_get hr.2.2 hu
    unfold nodeB at hn
    simp only [Bool.and_eq_true, Bool.or_eq_true, decide_eq_true_eq] at hn
    rcases hn.2.2 with h3 | ⟨h3, _⟩
    · rw [Int.toNat_natCast]; exact h3
    · rw [List.length_eq_zero_iff.1 h3] at h1; simp at h1
end Go.Proofs.Ytkkjlmcnfoncdaa.Aw

/- What all laws of layer 13 ask; rows of variables. -/
set_option linter.unusedVariables false
set_option linter.unusedSimpArgs false
set_option linter.unusedSectionVars false
namespace Go.Proofs.Ytkkjlmcnfoncdaa.Aw
open Go Go.RowKit
set_option maxRecDepth 10000
attribute [local irreducible] AWp AOL QS One AOLg QSg NX QX TRg TX AllO Fin3
def thereB (n : Nat) (l : List Int) : Bool := allB l.length fun i => decide (0 ≤ l.getD i default ∧ l.getD i default < (n : Int))
variable {A : Ar} (hA : A = real)
include hA
theorem there_c (R V : List Int) (N : List (Int × Int)) (M : List Int) (P Q : List (List Int)) (l : List Int) (hl : l.length ≤ 1000000) :
    PureCalls Try.prog 20 [grP A R V N M P Q, intsP A l] (BP (hid A (thereB V.length l))) := by
  refine PureCalls.of Try.func20 rfl (by kernel_rfl) rfl ?_
  try first | refine AOLg.of [] ?_ | refine QSg.of [] ?_
  repeat' (first | (refine AWp.pass ?_; first | refine AWp.seq ?_ | refine AWp.block ?_ | refine AWp.skip ?_ | refine AWp.regG [] Zc ?_ | refine AWp.cond_t rfl ?_ | refine AWp.cond_f rfl ?_ | (refine AWp.cond rfl ?_ ?_ <;> intro hc <;> (try rw [hc]) <;> ((try simp only [zn] at hc) <;> (try simp (disch := omega) only [zz hA, zb, zy, reduceCtorEq, Bool.false_eq_true, Int.reduceLT, Int.reduceLE, Int.reduceNeg] at hc) <;> (try simp only [zw] at hc)) <;> (try (exfalso; omega))) | refine AWp.exit ?_ | refine AWp.ret ⟨.inr rfl, _, RetOk.ev tabOk Zc, ?_⟩ | refine AWp.drawVG [] rfl (by decide +kernel) Zc ?_) | (refine AOLg.pass ?_; refine AOLg.nx hA tabOk Zc ?_; first | refine NX.done ?_ | refine NX.gt ?_ | refine NX.gf ?_ | (refine NX.gs ?_ ?_ <;> intro hc <;> rw [hc] <;> ((try simp only [zn] at hc) <;> (try simp (disch := omega) only [zz hA, zb, zy, reduceCtorEq, Bool.false_eq_true, Int.reduceLT, Int.reduceLE, Int.reduceNeg] at hc) <;> (try simp only [zw] at hc)) <;> (try (exfalso; omega))) | refine NX.k 1 (NX.one Z1 ?_) | refine NX.k 7 (NX.one Z7 ?_) | refine NX.k 10 (NX.one Z10 ?_) | refine NX.k 14 (NX.one Z14 ?_) | refine NX.k 18 (NX.one Z18 ?_) | refine NX.raw ?_) | (refine TRg.pass ?_; refine TRg.nx hA tabOk Zc ?_; first | refine TX.done ?_ | refine TX.gt ?_ | refine TX.gf ?_ | (refine TX.gs ?_ ?_ <;> intro hc <;> rw [hc] <;> ((try simp only [zn] at hc) <;> (try simp (disch := omega) only [zz hA, zb, zy, reduceCtorEq, Bool.false_eq_true, Int.reduceLT, Int.reduceLE, Int.reduceNeg] at hc) <;> (try simp only [zw] at hc)) <;> (try (exfalso; omega))) | refine TX.k 1 (TX.one Z1 ?_) | refine TX.k 7 (TX.one Z7 ?_) | refine TX.k 10 (TX.one Z10 ?_) | refine TX.k 14 (TX.one Z14 ?_) | refine TX.k 18 (TX.one Z18 ?_) | refine TX.raw ?_) | refine Fin3.of Zc (by repeat' (first | exact True.intro | exact rfl | refine And.intro ?_ ?_)) ?_ ?_ | (refine AllO.pass ?_; first | exact AllO.nil | (refine AllO.cons (One.ev hA tabOk ?_) ?_ <;> (first | refine AllO.pass ?_ | ((conv => lhs; cbv); done))) | (refine AllO.cons (One.skipB ?_) ?_ <;> (first | refine AllO.pass ?_ | ((conv => lhs; cbv); done))) | refine AllO.consX ZX rfl rfl ?_) | refine Thn.exit ?_ | refine Blk.here ?_ | refine Blk.other (by decide) ?_ | refine ⟨.inl rfl, _, RetOk.ev tabOk Zc, ?_⟩ | fail)
  refine AWp.loopU (fun k : Nat => [(5, .ic (.lit (.int .i64 (hid A (cN k)))))]) (fun _ => _) (fun k => l.length - k) (fun k => k ≤ l.length ∧ ∀ j, j < k → 0 ≤ l.getD j default ∧ l.getD j default < (V.length : Int)) 0 (by conv => lhs; cbv) ⟨Nat.zero_le _, by simp⟩ (by ((repeat' (first | exact subE.nil | refine subE.cons rfl ?_ | refine subE.int rfl ?_ ?_ | refine subE.bool rfl ?_ ?_ | refine subE.str rfl ?_ ?_ | refine subE.sl rfl ?_ ?_))) <;> simp [hA, real, hid, cN]) rfl ?_
  rintro k ⟨hk, hall⟩
  by_cases hlt : k < l.length
  · by_cases hok : 0 ≤ l.getD k default ∧ l.getD k default < (V.length : Int)
    · try first | refine AOLg.of [] ?_ | refine QSg.of [] ?_
      repeat' (first | (refine AWp.pass ?_; first | refine AWp.seq ?_ | refine AWp.block ?_ | refine AWp.skip ?_ | refine AWp.regG [] Zc ?_ | refine AWp.cond_t rfl ?_ | refine AWp.cond_f rfl ?_ | (refine AWp.cond rfl ?_ ?_ <;> intro hc <;> (try rw [hc]) <;> ((try simp only [zn] at hc) <;> (try simp (disch := omega) only [zz hA, zb, zy, reduceCtorEq, Bool.false_eq_true, Int.reduceLT, Int.reduceLE, Int.reduceNeg] at hc) <;> (try simp only [zw] at hc)) <;> (try (exfalso; omega))) | refine AWp.exit ?_ | refine AWp.ret ⟨.inr rfl, _, RetOk.ev tabOk Zc, ?_⟩ | refine AWp.drawVG [] rfl (by decide +kernel) Zc ?_) | (refine AOLg.pass ?_; refine AOLg.nx hA tabOk Zc ?_; first | refine NX.done ?_ | refine NX.gt ?_ | refine NX.gf ?_ | (refine NX.gs ?_ ?_ <;> intro hc <;> rw [hc] <;> ((try simp only [zn] at hc) <;> (try simp (disch := omega) only [zz hA, zb, zy, reduceCtorEq, Bool.false_eq_true, Int.reduceLT, Int.reduceLE, Int.reduceNeg] at hc) <;> (try simp only [zw] at hc)) <;> (try (exfalso; omega))) | refine NX.k 1 (NX.one Z1 ?_) | refine NX.k 7 (NX.one Z7 ?_) | refine NX.k 10 (NX.one Z10 ?_) | refine NX.k 14 (NX.one Z14 ?_) | refine NX.k 18 (NX.one Z18 ?_) | refine NX.raw ?_) | (refine TRg.pass ?_; refine TRg.nx hA tabOk Zc ?_; first | refine TX.done ?_ | refine TX.gt ?_ | refine TX.gf ?_ | (refine TX.gs ?_ ?_ <;> intro hc <;> rw [hc] <;> ((try simp only [zn] at hc) <;> (try simp (disch := omega) only [zz hA, zb, zy, reduceCtorEq, Bool.false_eq_true, Int.reduceLT, Int.reduceLE, Int.reduceNeg] at hc) <;> (try simp only [zw] at hc)) <;> (try (exfalso; omega))) | refine TX.k 1 (TX.one Z1 ?_) | refine TX.k 7 (TX.one Z7 ?_) | refine TX.k 10 (TX.one Z10 ?_) | refine TX.k 14 (TX.one Z14 ?_) | refine TX.k 18 (TX.one Z18 ?_) | refine TX.raw ?_) | refine Fin3.of Zc (by repeat' (first | exact True.intro | exact rfl | refine And.intro ?_ ?_)) ?_ ?_ | (refine AllO.pass ?_; first | exact AllO.nil | (refine AllO.cons (One.ev hA tabOk ?_) ?_ <;> (first | refine AllO.pass ?_ | ((conv => lhs; cbv); done))) | (refine AllO.cons (One.skipB ?_) ?_ <;> (first | refine AllO.pass ?_ | ((conv => lhs; cbv); done))) | refine AllO.consX ZX rfl rfl ?_) | refine Thn.exit ?_ | refine Blk.here ?_ | refine Blk.other (by decide) ?_ | refine ⟨.inl rfl, _, RetOk.ev tabOk Zc, ?_⟩ | fail)
      all_goals try (exfalso; omega)
      refine ⟨k + 1, ?_, ?_, rfl, rfl, ?_, Zk⟩ <;> (try omega)
      repeat' (first | exact subE.nil | refine subE.cons rfl ?_ | refine subE.int rfl ?_ ?_ | refine subE.bool rfl ?_ ?_ | refine subE.str rfl ?_ ?_ | refine subE.sl rfl ?_ ?_)
      all_goals first | exact Zd | skip
      refine ⟨by omega, fun j hj => ?_⟩
      rcases Nat.lt_or_ge j k with h | h
      · exact hall j h
      · obtain rfl : j = k := by omega
        exact hok
    · have hf : thereB V.length l = false := by
        unfold thereB
        cases h : allB l.length _ with
        | false => rfl
        | true => exact absurd (by simpa using allB_get h hlt) hok
      rw [hf]
      try first | refine AOLg.of [] ?_ | refine QSg.of [] ?_
      repeat' (first | (refine AWp.pass ?_; first | refine AWp.seq ?_ | refine AWp.block ?_ | refine AWp.skip ?_ | refine AWp.regG [] Zc ?_ | refine AWp.cond_t rfl ?_ | refine AWp.cond_f rfl ?_ | (refine AWp.cond rfl ?_ ?_ <;> intro hc <;> (try rw [hc]) <;> ((try simp only [zn] at hc) <;> (try simp (disch := omega) only [zz hA, zb, zy, reduceCtorEq, Bool.false_eq_true, Int.reduceLT, Int.reduceLE, Int.reduceNeg] at hc) <;> (try simp only [zw] at hc)) <;> (try (exfalso; omega))) | refine AWp.exit ?_ | refine AWp.ret ⟨.inr rfl, _, RetOk.ev tabOk Zc, ?_⟩ | refine AWp.drawVG [] rfl (by decide +kernel) Zc ?_) | (refine AOLg.pass ?_; refine AOLg.nx hA tabOk Zc ?_; first | refine NX.done ?_ | refine NX.gt ?_ | refine NX.gf ?_ | (refine NX.gs ?_ ?_ <;> intro hc <;> rw [hc] <;> ((try simp only [zn] at hc) <;> (try simp (disch := omega) only [zz hA, zb, zy, reduceCtorEq, Bool.false_eq_true, Int.reduceLT, Int.reduceLE, Int.reduceNeg] at hc) <;> (try simp only [zw] at hc)) <;> (try (exfalso; omega))) | refine NX.k 1 (NX.one Z1 ?_) | refine NX.k 7 (NX.one Z7 ?_) | refine NX.k 10 (NX.one Z10 ?_) | refine NX.k 14 (NX.one Z14 ?_) | refine NX.k 18 (NX.one Z18 ?_) | refine NX.raw ?_) | (refine TRg.pass ?_; refine TRg.nx hA tabOk Zc ?_; first | refine TX.done ?_ | refine TX.gt ?_ | refine TX.gf ?_ | (refine TX.gs ?_ ?_ <;> intro hc <;> rw [hc] <;> ((try simp only [zn] at hc) <;> (try simp (disch := omega) only [zz hA, zb, zy, reduceCtorEq, Bool.false_eq_true, Int.reduceLT, Int.reduceLE, Int.reduceNeg] at hc) <;> (try simp only [zw] at hc)) <;> (try (exfalso; omega))) | refine TX.k 1 (TX.one Z1 ?_) | refine TX.k 7 (TX.one Z7 ?_) | refine TX.k 10 (TX.one Z10 ?_) | refine TX.k 14 (TX.one Z14 ?_) | refine TX.k 18 (TX.one Z18 ?_) | refine TX.raw ?_) | refine Fin3.of Zc (by repeat' (first | exact True.intro | exact rfl | refine And.intro ?_ ?_)) ?_ ?_ | (refine AllO.pass ?_; first | exact AllO.nil | (refine AllO.cons (One.ev hA tabOk ?_) ?_ <;> (first | refine AllO.pass ?_ | ((conv => lhs; cbv); done))) | (refine AllO.cons (One.skipB ?_) ?_ <;> (first | refine AllO.pass ?_ | ((conv => lhs; cbv); done))) | refine AllO.consX ZX rfl rfl ?_) | refine Thn.exit ?_ | refine Blk.here ?_ | refine Blk.other (by decide) ?_ | refine ⟨.inl rfl, _, RetOk.ev tabOk Zc, ?_⟩ | fail)
      all_goals try (exfalso; omega)
      all_goals (refine rPV_then (by conv => lhs; cbv) ?_; simp only [hid_eq hA])
  · have hf : thereB V.length l = true := by
      unfold thereB
      exact allB_t fun j hj => by simpa using hall j (by omega)
    rw [hf]
    try first | refine AOLg.of [] ?_ | refine QSg.of [] ?_
    repeat' (first | (refine AWp.pass ?_; first | refine AWp.seq ?_ | refine AWp.block ?_ | refine AWp.skip ?_ | refine AWp.regG [] Zc ?_ | refine AWp.cond_t rfl ?_ | refine AWp.cond_f rfl ?_ | (refine AWp.cond rfl ?_ ?_ <;> intro hc <;> (try rw [hc]) <;> ((try simp only [zn] at hc) <;> (try simp (disch := omega) only [zz hA, zb, zy, reduceCtorEq, Bool.false_eq_true, Int.reduceLT, Int.reduceLE, Int.reduceNeg] at hc) <;> (try simp only [zw] at hc)) <;> (try (exfalso; omega))) | refine AWp.exit ?_ | refine AWp.ret ⟨.inr rfl, _, RetOk.ev tabOk Zc, ?_⟩ | refine AWp.drawVG [] rfl (by decide +kernel) Zc ?_) | (refine AOLg.pass ?_; refine AOLg.nx hA tabOk Zc ?_; first | refine NX.done ?_ | refine NX.gt ?_ | refine NX.gf ?_ | (refine NX.gs ?_ ?_ <;> intro hc <;> rw [hc] <;> ((try simp only [zn] at hc) <;> (try simp (disch := omega) only [zz hA, zb, zy, reduceCtorEq, Bool.false_eq_true, Int.reduceLT, Int.reduceLE, Int.reduceNeg] at hc) <;> (try simp only [zw] at hc)) <;> (try (exfalso; omega))) | refine NX.k 1 (NX.one Z1 ?_) | refine NX.k 7 (NX.one Z7 ?_) | refine NX.k 10 (NX.one Z10 ?_) | refine NX.k 14 (NX.one Z14 ?_) | refine NX.k 18 (NX.one Z18 ?_) | refine NX.raw ?_) | (refine TRg.pass ?_; refine TRg.nx hA tabOk Zc ?_; first | refine TX.done ?_ | refine TX.gt ?_ | refine TX.gf ?_ | (refine TX.gs ?_ ?_ <;> intro hc <;> rw [hc] <;> ((try simp only [zn] at hc) <;> (try simp (disch := omega) only [zz hA, zb, zy, reduceCtorEq, Bool.false_eq_true, Int.reduceLT, Int.reduceLE, Int.reduceNeg] at hc) <;> (try simp only [zw] at hc)) <;> (try (exfalso; omega))) | refine TX.k 1 (TX.one Z1 ?_) | refine TX.k 7 (TX.one Z7 ?_) | refine TX.k 10 (TX.one Z10 ?_) | refine TX.k 14 (TX.one Z14 ?_) | refine TX.k 18 (TX.one Z18 ?_) | refine TX.raw ?_) | refine Fin3.of Zc (by repeat' (first | exact True.intro | exact rfl | refine And.intro ?_ ?_)) ?_ ?_ | (refine AllO.pass ?_; first | exact AllO.nil | (refine AllO.cons (One.ev hA tabOk ?_) ?_ <;> (first | refine AllO.pass ?_ | ((conv => lhs; cbv); done))) | (refine AllO.cons (One.skipB ?_) ?_ <;> (first | refine AllO.pass ?_ | ((conv => lhs; cbv); done))) | refine AllO.consX ZX rfl rfl ?_) | refine Thn.exit ?_ | refine Blk.here ?_ | refine Blk.other (by decide) ?_ | refine ⟨.inl rfl, _, RetOk.ev tabOk Zc, ?_⟩ | fail)
    all_goals try (exfalso; omega)
    all_goals (refine rPV_then (by conv => lhs; cbv) ?_; simp only [hid_eq hA])
set_option maxHeartbeats 2000000 in
theorem of13_c (l : List Sg) (hl : FitG l) (K : List (List Int)) (S : List Int) (hk : FitsK K S) (R V : List Int) (N : List (Int × Int)) (M : List Int) (P Q : List (List Int)) (hg : FitGr R V N M P Q) :
    ∃ b : Bool, PureCalls Try.prog 19 [slP A 2 (encG A) l, keyedPV A K S, grP A R V N M P Q] (BP b) ∧ (b = true → OfG l K S R V N M P Q ∧ V.length ≤ 40) := by
  obtain ⟨k1, k2, k3⟩ := hk
  by_cases h64 : l.length ≤ 64
  · have c1 := sigRight_c hA l hl
    cases e1 : rightG l with
    | false =>
      rw [e1, hid_eq hA (α := Bool)] at c1
      refine ⟨false, ?_, fun h => by cases h⟩
      refine PureCalls.of Try.func19 rfl (by kernel_rfl) rfl ?_
      try first | refine AOLg.of [] ?_ | refine QSg.of [] ?_
      repeat' (first | (refine AWp.pass ?_; first | refine AWp.seq ?_ | refine AWp.block ?_ | refine AWp.skip ?_ | refine AWp.regG [] Zc ?_ | refine AWp.cond_t rfl ?_ | refine AWp.cond_f rfl ?_ | (refine AWp.cond rfl ?_ ?_ <;> intro hc <;> (try rw [hc]) <;> ((try simp only [zn] at hc) <;> (try simp (disch := omega) only [zz hA, zb, zy, reduceCtorEq, Bool.false_eq_true, Int.reduceLT, Int.reduceLE, Int.reduceNeg] at hc) <;> (try simp only [zw] at hc)) <;> (try (exfalso; omega))) | refine AWp.exit ?_ | refine AWp.ret ⟨.inr rfl, _, RetOk.ev tabOk Zc, ?_⟩) | (refine AOLg.pass ?_; refine AOLg.nx hA tabOk Zc ?_; first | refine NX.done ?_ | refine NX.gt ?_ | refine NX.gf ?_ | (refine NX.gs ?_ ?_ <;> intro hc <;> rw [hc] <;> ((try simp only [zn] at hc) <;> (try simp (disch := omega) only [zz hA, zb, zy, reduceCtorEq, Bool.false_eq_true, Int.reduceLT, Int.reduceLE, Int.reduceNeg] at hc) <;> (try simp only [zw] at hc)) <;> (try (exfalso; omega))) | (refine NX.kC ?_; first | (with_reducible refine NX.call (c1) ?_) | ((first | refine NX.call (c1) ?_)) | fail) | (refine NX.kO ?_; (first | refine NX.callO (c1) (by simp [allEq]) rfl ?_)) | refine NX.k 10 (NX.one Z10 ?_) | refine NX.k 14 (NX.one Z14 ?_) | refine NX.k 18 (NX.one Z18 ?_) | refine NX.raw ?_) | refine Thn.exit ?_ | refine Blk.here ?_ | refine Blk.other (by decide) ?_ | refine ⟨.inl rfl, _, RetOk.ev tabOk Zc, ?_⟩ | fail)
      all_goals exact Ze
    | true =>
      rw [e1, hid_eq hA (α := Bool)] at c1
      have c2 := refFew_c hA K S k1 k2 k3
      cases e2 : fewM K S with
      | false =>
        rw [e2, hid_eq hA (α := Bool)] at c2
        refine ⟨false, ?_, fun h => by cases h⟩
        refine PureCalls.of Try.func19 rfl (by kernel_rfl) rfl ?_
        try first | refine AOLg.of [] ?_ | refine QSg.of [] ?_
        repeat' (first | (refine AWp.pass ?_; first | refine AWp.seq ?_ | refine AWp.block ?_ | refine AWp.skip ?_ | refine AWp.regG [] Zc ?_ | refine AWp.cond_t rfl ?_ | refine AWp.cond_f rfl ?_ | (refine AWp.cond rfl ?_ ?_ <;> intro hc <;> (try rw [hc]) <;> ((try simp only [zn] at hc) <;> (try simp (disch := omega) only [zz hA, zb, zy, reduceCtorEq, Bool.false_eq_true, Int.reduceLT, Int.reduceLE, Int.reduceNeg] at hc) <;> (try simp only [zw] at hc)) <;> (try (exfalso; omega))) | refine AWp.exit ?_ | refine AWp.ret ⟨.inr rfl, _, RetOk.ev tabOk Zc, ?_⟩) | (refine AOLg.pass ?_; refine AOLg.nx hA tabOk Zc ?_; first | refine NX.done ?_ | refine NX.gt ?_ | refine NX.gf ?_ | (refine NX.gs ?_ ?_ <;> intro hc <;> rw [hc] <;> ((try simp only [zn] at hc) <;> (try simp (disch := omega) only [zz hA, zb, zy, reduceCtorEq, Bool.false_eq_true, Int.reduceLT, Int.reduceLE, Int.reduceNeg] at hc) <;> (try simp only [zw] at hc)) <;> (try (exfalso; omega))) | (refine NX.kC ?_; first | (with_reducible refine NX.call (c1) ?_) | (with_reducible refine NX.call (c2) ?_) | ((first | refine NX.call (c1) ?_ | refine NX.call (c2) ?_)) | fail) | (refine NX.kO ?_; (first | refine NX.callO (c1) (by simp [allEq]) rfl ?_ | refine NX.callO (c2) (by simp [allEq]) rfl ?_)) | refine NX.k 10 (NX.one Z10 ?_) | refine NX.k 14 (NX.one Z14 ?_) | refine NX.k 18 (NX.one Z18 ?_) | refine NX.raw ?_) | refine Thn.exit ?_ | refine Blk.here ?_ | refine Blk.other (by decide) ?_ | refine ⟨.inl rfl, _, RetOk.ev tabOk Zc, ?_⟩ | fail)
        all_goals exact Ze
      | true =>
        rw [e2, hid_eq hA (α := Bool)] at c2
        obtain ⟨b1, b2, b3⟩ := few_bounds e2
        have c3 := refTRight_c hA l K S (by omega) hl (by omega) (fun x hx => by have := b3 x hx; omega)
        cases e3 : rightT l K S with
        | false =>
          rw [e3, hid_eq hA (α := Bool)] at c3
          refine ⟨false, ?_, fun h => by cases h⟩
          refine PureCalls.of Try.func19 rfl (by kernel_rfl) rfl ?_
          try first | refine AOLg.of [] ?_ | refine QSg.of [] ?_
          repeat' (first | (refine AWp.pass ?_; first | refine AWp.seq ?_ | refine AWp.block ?_ | refine AWp.skip ?_ | refine AWp.regG [] Zc ?_ | refine AWp.cond_t rfl ?_ | refine AWp.cond_f rfl ?_ | (refine AWp.cond rfl ?_ ?_ <;> intro hc <;> (try rw [hc]) <;> ((try simp only [zn] at hc) <;> (try simp (disch := omega) only [zz hA, zb, zy, reduceCtorEq, Bool.false_eq_true, Int.reduceLT, Int.reduceLE, Int.reduceNeg] at hc) <;> (try simp only [zw] at hc)) <;> (try (exfalso; omega))) | refine AWp.exit ?_ | refine AWp.ret ⟨.inr rfl, _, RetOk.ev tabOk Zc, ?_⟩) | (refine AOLg.pass ?_; refine AOLg.nx hA tabOk Zc ?_; first | refine NX.done ?_ | refine NX.gt ?_ | refine NX.gf ?_ | (refine NX.gs ?_ ?_ <;> intro hc <;> rw [hc] <;> ((try simp only [zn] at hc) <;> (try simp (disch := omega) only [zz hA, zb, zy, reduceCtorEq, Bool.false_eq_true, Int.reduceLT, Int.reduceLE, Int.reduceNeg] at hc) <;> (try simp only [zw] at hc)) <;> (try (exfalso; omega))) | (refine NX.kC ?_; first | (with_reducible refine NX.call (c1) ?_) | (with_reducible refine NX.call (c2) ?_) | (with_reducible refine NX.call (c3) ?_) | ((first | refine NX.call (c1) ?_ | refine NX.call (c2) ?_ | refine NX.call (c3) ?_)) | fail) | (refine NX.kO ?_; (first | refine NX.callO (c1) (by simp [allEq]) rfl ?_ | refine NX.callO (c2) (by simp [allEq]) rfl ?_ | refine NX.callO (c3) (by simp [allEq]) rfl ?_)) | refine NX.k 10 (NX.one Z10 ?_) | refine NX.k 14 (NX.one Z14 ?_) | refine NX.k 18 (NX.one Z18 ?_) | refine NX.raw ?_) | refine Thn.exit ?_ | refine Blk.here ?_ | refine Blk.other (by decide) ?_ | refine ⟨.inl rfl, _, RetOk.ev tabOk Zc, ?_⟩ | fail)
          all_goals exact Ze
        | true =>
          rw [e3, hid_eq hA (α := Bool)] at c3
          obtain ⟨o1, o2, o3⟩ := okK e3
          have hst : StK K S := ⟨o1, o2, by omega, fun x hx => by have := b3 x hx; omega⟩
          have c4 := refGFew_c hA R V N M P Q hg
          cases e4 : fewGr R V N M P Q with
          | false =>
            rw [e4, hid_eq hA (α := Bool)] at c4
            refine ⟨false, ?_, fun h => by cases h⟩
            refine PureCalls.of Try.func19 rfl (by kernel_rfl) rfl ?_
            try first | refine AOLg.of [] ?_ | refine QSg.of [] ?_
            repeat' (first | (refine AWp.pass ?_; first | refine AWp.seq ?_ | refine AWp.block ?_ | refine AWp.skip ?_ | refine AWp.regG [] Zc ?_ | refine AWp.cond_t rfl ?_ | refine AWp.cond_f rfl ?_ | (refine AWp.cond rfl ?_ ?_ <;> intro hc <;> (try rw [hc]) <;> ((try simp only [zn] at hc) <;> (try simp (disch := omega) only [zz hA, zb, zy, reduceCtorEq, Bool.false_eq_true, Int.reduceLT, Int.reduceLE, Int.reduceNeg] at hc) <;> (try simp only [zw] at hc)) <;> (try (exfalso; omega))) | refine AWp.exit ?_ | refine AWp.ret ⟨.inr rfl, _, RetOk.ev tabOk Zc, ?_⟩) | (refine AOLg.pass ?_; refine AOLg.nx hA tabOk Zc ?_; first | refine NX.done ?_ | refine NX.gt ?_ | refine NX.gf ?_ | (refine NX.gs ?_ ?_ <;> intro hc <;> rw [hc] <;> ((try simp only [zn] at hc) <;> (try simp (disch := omega) only [zz hA, zb, zy, reduceCtorEq, Bool.false_eq_true, Int.reduceLT, Int.reduceLE, Int.reduceNeg] at hc) <;> (try simp only [zw] at hc)) <;> (try (exfalso; omega))) | (refine NX.kC ?_; first | (with_reducible refine NX.call (c1) ?_) | (with_reducible refine NX.call (c2) ?_) | (with_reducible refine NX.call (c3) ?_) | (with_reducible refine NX.call (c4) ?_) | ((first | refine NX.call (c1) ?_ | refine NX.call (c2) ?_ | refine NX.call (c3) ?_ | refine NX.call (c4) ?_)) | fail) | (refine NX.kO ?_; (first | refine NX.callO (c1) (by simp [allEq]) rfl ?_ | refine NX.callO (c2) (by simp [allEq]) rfl ?_ | refine NX.callO (c3) (by simp [allEq]) rfl ?_ | refine NX.callO (c4) (by simp [allEq]) rfl ?_)) | refine NX.k 10 (NX.one Z10 ?_) | refine NX.k 14 (NX.one Z14 ?_) | refine NX.k 18 (NX.one Z18 ?_) | refine NX.raw ?_) | refine Thn.exit ?_ | refine Blk.here ?_ | refine Blk.other (by decide) ?_ | refine ⟨.inl rfl, _, RetOk.ev tabOk Zc, ?_⟩ | fail)
            all_goals exact Ze
          | true =>
            rw [e4, hid_eq hA (α := Bool)] at c4
            have hfew : baseG R V N M P Q + sumL P P.length + sumL Q Q.length ≤ 1000 := by simpa [fewGr] using e4
            have hbs := hfew
            unfold baseG at hbs
            have hps : ∀ x ∈ P, x.length ≤ 1000000 := fun x hx => by have := sumL_mem P hx; omega
            have hqs : ∀ x ∈ Q, x.length ≤ 1000000 := fun x hx => by have := sumL_mem Q hx; omega
            by_cases h40 : V.length ≤ 40
            · have c5 := refGRight_c hA K S hst R V N M P Q (by omega) ⟨by simp only; omega, by simp only; omega, by simp only; omega⟩ ⟨by omega, hps⟩ ⟨by omega, hqs⟩
              cases e5 : rightGr K R V N M P Q with
              | false =>
                rw [e5, hid_eq hA (α := Bool)] at c5
                refine ⟨false, ?_, fun h => by cases h⟩
                refine PureCalls.of Try.func19 rfl (by kernel_rfl) rfl ?_
                try first | refine AOLg.of [] ?_ | refine QSg.of [] ?_
                repeat' (first | (refine AWp.pass ?_; first | refine AWp.seq ?_ | refine AWp.block ?_ | refine AWp.skip ?_ | refine AWp.regG [] Zc ?_ | refine AWp.cond_t rfl ?_ | refine AWp.cond_f rfl ?_ | (refine AWp.cond rfl ?_ ?_ <;> intro hc <;> (try rw [hc]) <;> ((try simp only [zn] at hc) <;> (try simp (disch := omega) only [zz hA, zb, zy, reduceCtorEq, Bool.false_eq_true, Int.reduceLT, Int.reduceLE, Int.reduceNeg] at hc) <;> (try simp only [zw] at hc)) <;> (try (exfalso; omega))) | refine AWp.exit ?_ | refine AWp.ret ⟨.inr rfl, _, RetOk.ev tabOk Zc, ?_⟩) | (refine AOLg.pass ?_; refine AOLg.nx hA tabOk Zc ?_; first | refine NX.done ?_ | refine NX.gt ?_ | refine NX.gf ?_ | (refine NX.gs ?_ ?_ <;> intro hc <;> rw [hc] <;> ((try simp only [zn] at hc) <;> (try simp (disch := omega) only [zz hA, zb, zy, reduceCtorEq, Bool.false_eq_true, Int.reduceLT, Int.reduceLE, Int.reduceNeg] at hc) <;> (try simp only [zw] at hc)) <;> (try (exfalso; omega))) | (refine NX.kC ?_; first | (with_reducible refine NX.call (c1) ?_) | (with_reducible refine NX.call (c2) ?_) | (with_reducible refine NX.call (c3) ?_) | (with_reducible refine NX.call (c4) ?_) | (with_reducible refine NX.call (c5) ?_) | ((first | refine NX.call (c1) ?_ | refine NX.call (c2) ?_ | refine NX.call (c3) ?_ | refine NX.call (c4) ?_ | refine NX.call (c5) ?_)) | fail) | (refine NX.kO ?_; (first | refine NX.callO (c1) (by simp [allEq]) rfl ?_ | refine NX.callO (c2) (by simp [allEq]) rfl ?_ | refine NX.callO (c3) (by simp [allEq]) rfl ?_ | refine NX.callO (c4) (by simp [allEq]) rfl ?_ | refine NX.callO (c5) (by simp [allEq]) rfl ?_)) | refine NX.k 10 (NX.one Z10 ?_) | refine NX.k 14 (NX.one Z14 ?_) | refine NX.k 18 (NX.one Z18 ?_) | refine NX.raw ?_) | refine Thn.exit ?_ | refine Blk.here ?_ | refine Blk.other (by decide) ?_ | refine ⟨.inl rfl, _, RetOk.ev tabOk Zc, ?_⟩ | fail)
                all_goals exact Ze
              | true =>
                rw [e5, hid_eq hA (α := Bool)] at c5
                have c6 := refAll_c hA K S R V N M P Q (by omega)
                have hru : RightU V R := by
                  have := e5
                  unfold rightGr at this
                  simp only [Bool.and_eq_true] at this
                  exact (rightB_iff V R).1 this.1.1
                refine ⟨allV K V.length, ?_, fun h => ⟨⟨hst, hru, h, hfew, e5⟩, h40⟩⟩
                rw [hid_eq hA (α := Bool)] at c6
                generalize allV K V.length = b at *
                refine PureCalls.of Try.func19 rfl (by kernel_rfl) rfl ?_
                try first | refine AOLg.of [] ?_ | refine QSg.of [] ?_
                repeat' (first | (refine AWp.pass ?_; first | refine AWp.seq ?_ | refine AWp.block ?_ | refine AWp.skip ?_ | refine AWp.regG [] Zc ?_ | refine AWp.cond_t rfl ?_ | refine AWp.cond_f rfl ?_ | (refine AWp.cond rfl ?_ ?_ <;> intro hc <;> (try rw [hc]) <;> ((try simp only [zn] at hc) <;> (try simp (disch := omega) only [zz hA, zb, zy, reduceCtorEq, Bool.false_eq_true, Int.reduceLT, Int.reduceLE, Int.reduceNeg] at hc) <;> (try simp only [zw] at hc)) <;> (try (exfalso; omega))) | refine AWp.exit ?_ | refine AWp.ret ⟨.inr rfl, _, RetOk.ev tabOk Zc, ?_⟩) | (refine AOLg.pass ?_; refine AOLg.nx hA tabOk Zc ?_; first | refine NX.done ?_ | refine NX.gt ?_ | refine NX.gf ?_ | (refine NX.gs ?_ ?_ <;> intro hc <;> rw [hc] <;> ((try simp only [zn] at hc) <;> (try simp (disch := omega) only [zz hA, zb, zy, reduceCtorEq, Bool.false_eq_true, Int.reduceLT, Int.reduceLE, Int.reduceNeg] at hc) <;> (try simp only [zw] at hc)) <;> (try (exfalso; omega))) | (refine NX.kC ?_; first | (with_reducible refine NX.call (c1) ?_) | (with_reducible refine NX.call (c2) ?_) | (with_reducible refine NX.call (c3) ?_) | (with_reducible refine NX.call (c4) ?_) | (with_reducible refine NX.call (c5) ?_) | (with_reducible refine NX.call (c6) ?_) | ((first | refine NX.call (c1) ?_ | refine NX.call (c2) ?_ | refine NX.call (c3) ?_ | refine NX.call (c4) ?_ | refine NX.call (c5) ?_ | refine NX.call (c6) ?_)) | fail) | (refine NX.kO ?_; (first | refine NX.callO (c1) (by simp [allEq]) rfl ?_ | refine NX.callO (c2) (by simp [allEq]) rfl ?_ | refine NX.callO (c3) (by simp [allEq]) rfl ?_ | refine NX.callO (c4) (by simp [allEq]) rfl ?_ | refine NX.callO (c5) (by simp [allEq]) rfl ?_ | refine NX.callO (c6) (by simp [allEq]) rfl ?_)) | refine NX.k 10 (NX.one Z10 ?_) | refine NX.k 14 (NX.one Z14 ?_) | refine NX.k 18 (NX.one Z18 ?_) | refine NX.raw ?_) | refine Thn.exit ?_ | refine Blk.here ?_ | refine Blk.other (by decide) ?_ | refine ⟨.inl rfl, _, RetOk.ev tabOk Zc, ?_⟩ | fail)
                all_goals first | exact Ze | (refine rPV_then (by conv => lhs; cbv) ?_; simp_all) | (refine rPV_then (by conv => lhs; cbv) ?_; rfl)
            · refine ⟨false, ?_, fun h => by cases h⟩
              refine PureCalls.of Try.func19 rfl (by kernel_rfl) rfl ?_
              try first | refine AOLg.of [] ?_ | refine QSg.of [] ?_
              repeat' (first | (refine AWp.pass ?_; first | refine AWp.seq ?_ | refine AWp.block ?_ | refine AWp.skip ?_ | refine AWp.regG [] Zc ?_ | refine AWp.cond_t rfl ?_ | refine AWp.cond_f rfl ?_ | (refine AWp.cond rfl ?_ ?_ <;> intro hc <;> (try rw [hc]) <;> ((try simp only [zn] at hc) <;> (try simp (disch := omega) only [zz hA, zb, zy, reduceCtorEq, Bool.false_eq_true, Int.reduceLT, Int.reduceLE, Int.reduceNeg] at hc) <;> (try simp only [zw] at hc)) <;> (try (exfalso; omega))) | refine AWp.exit ?_ | refine AWp.ret ⟨.inr rfl, _, RetOk.ev tabOk Zc, ?_⟩) | (refine AOLg.pass ?_; refine AOLg.nx hA tabOk Zc ?_; first | refine NX.done ?_ | refine NX.gt ?_ | refine NX.gf ?_ | (refine NX.gs ?_ ?_ <;> intro hc <;> rw [hc] <;> ((try simp only [zn] at hc) <;> (try simp (disch := omega) only [zz hA, zb, zy, reduceCtorEq, Bool.false_eq_true, Int.reduceLT, Int.reduceLE, Int.reduceNeg] at hc) <;> (try simp only [zw] at hc)) <;> (try (exfalso; omega))) | (refine NX.kC ?_; first | (with_reducible refine NX.call (c1) ?_) | (with_reducible refine NX.call (c2) ?_) | (with_reducible refine NX.call (c3) ?_) | (with_reducible refine NX.call (c4) ?_) | ((first | refine NX.call (c1) ?_ | refine NX.call (c2) ?_ | refine NX.call (c3) ?_ | refine NX.call (c4) ?_)) | fail) | (refine NX.kO ?_; (first | refine NX.callO (c1) (by simp [allEq]) rfl ?_ | refine NX.callO (c2) (by simp [allEq]) rfl ?_ | refine NX.callO (c3) (by simp [allEq]) rfl ?_ | refine NX.callO (c4) (by simp [allEq]) rfl ?_)) | refine NX.k 10 (NX.one Z10 ?_) | refine NX.k 14 (NX.one Z14 ?_) | refine NX.k 18 (NX.one Z18 ?_) | refine NX.raw ?_) | refine Thn.exit ?_ | refine Blk.here ?_ | refine Blk.other (by decide) ?_ | refine ⟨.inl rfl, _, RetOk.ev tabOk Zc, ?_⟩ | fail)
              all_goals exact Ze
  · refine ⟨false, ?_, fun h => by cases h⟩
    refine PureCalls.of Try.func19 rfl (by kernel_rfl) rfl ?_
    try first | refine AOLg.of [] ?_ | refine QSg.of [] ?_
    repeat' (first | (refine AWp.pass ?_; first | refine AWp.seq ?_ | refine AWp.block ?_ | refine AWp.skip ?_ | refine AWp.regG [] Zc ?_ | refine AWp.cond_t rfl ?_ | refine AWp.cond_f rfl ?_ | (refine AWp.cond rfl ?_ ?_ <;> intro hc <;> (try rw [hc]) <;> ((try simp only [zn] at hc) <;> (try simp (disch := omega) only [zz hA, zb, zy, reduceCtorEq, Bool.false_eq_true, Int.reduceLT, Int.reduceLE, Int.reduceNeg] at hc) <;> (try simp only [zw] at hc)) <;> (try (exfalso; omega))) | refine AWp.exit ?_ | refine AWp.ret ⟨.inr rfl, _, RetOk.ev tabOk Zc, ?_⟩) | (refine AOLg.pass ?_; refine AOLg.nx hA tabOk Zc ?_; first | refine NX.done ?_ | refine NX.gt ?_ | refine NX.gf ?_ | (refine NX.gs ?_ ?_ <;> intro hc <;> rw [hc] <;> ((try simp only [zn] at hc) <;> (try simp (disch := omega) only [zz hA, zb, zy, reduceCtorEq, Bool.false_eq_true, Int.reduceLT, Int.reduceLE, Int.reduceNeg] at hc) <;> (try simp only [zw] at hc)) <;> (try (exfalso; omega))) | refine NX.k 10 (NX.one Z10 ?_) | refine NX.k 14 (NX.one Z14 ?_) | refine NX.k 18 (NX.one Z18 ?_) | refine NX.raw ?_) | refine Thn.exit ?_ | refine Blk.here ?_ | refine Blk.other (by decide) ?_ | refine ⟨.inl rfl, _, RetOk.ev tabOk Zc, ?_⟩ | fail)
    all_goals exact Ze
end Go.Proofs.Ytkkjlmcnfoncdaa.Aw

/- Law CycNext. -/
set_option linter.unusedVariables false
set_option linter.unusedSimpArgs false
set_option linter.unusedSectionVars false
namespace Go.Proofs.Ytkkjlmcnfoncdaa.Aw
open Go Go.RowKit
set_option maxRecDepth 10000
attribute [local irreducible] AWp AOL QS One AOLg QSg NX QX TRg TX AllO Fin3
theorem there_two (n : Nat) (x y : Int) : thereB n [x, y] = true ↔ (0 ≤ x ∧ x < n) ∧ (0 ≤ y ∧ y < n) := by
  simp [thereB, allB, List.range_succ]
variable {A : Ar} (hA : A = real)
include hA
theorem there2_c (R V : List Int) (N : List (Int × Int)) (M : List Int) (P Q : List (List Int)) (x y : Int) (b : Bool) (hb : b = thereB V.length [x, y]) :
    PureCalls Try.prog 20 [grP A R V N M P Q, .c (.sl 1 false [[.lit (.int .i64 x)], [.lit (.int .i64 y)]])] (BP b) := by
  have := there_c hA R V N M P Q [x, y] (by simp)
  rw [← hb, hid_eq hA (α := Bool)] at this
  rw [show [[IC.lit (.int .i64 x)], [IC.lit (.int .i64 y)]] = hid A (List.map encI [x, y]) from (hid_eq hA _).symm]
  exact this
theorem ints_same (q r : List Int) (h : q = r) (hq : q.length ≤ 1000000) : PureCalls Try.prog 17 [intsP A q, intsP A r] (BP true) := by
  subst h
  have := uInts_c hA q q hq hq
  rwa [decide_eq_true rfl, hid_eq hA (α := Bool)] at this
set_option maxHeartbeats 4000000 in
theorem cnext_law (l : List Sg) (hl : FitG l) (K : List (List Int)) (S : List Int) (hk : FitsK K S) (R V : List Int) (N : List (Int × Int)) (M : List Int) (P Q : List (List Int)) (hg : FitGr R V N M P Q) (x y : Int) :
    PureCalls Try.prog 6 [.agg [.sl 2 false (hid A (List.map (encG A) l)), .sl 1 false (hid A (List.map (encK A) K)), .sl 1 false (hid A (List.map encI S)), .sl 1 false (hid A (List.map encI R)), .sl 1 false (hid A (List.map encI V)), .sl 2 false (hid A (List.map encN N)), .sl 1 false (hid A (List.map encI M)), .sl 1 false (hid A (List.map (encK A) P)), .sl 1 false (hid A (List.map (encK A) Q)), .lit (.int .i64 x), .lit (.int .i64 y)]] (BP true) := by
  have hsh := shown13_c hA
  obtain ⟨b, hof, hb⟩ := of13_c hA l hl K S hk R V N M P Q hg
  cases b with
  | false =>
    refine PureCalls.of Try.func6 rfl (by kernel_rfl) rfl ?_
    try first | refine AOLg.of [] ?_ | refine QSg.of [] ?_
    repeat' (first | (refine AWp.pass ?_; first | refine AWp.seq ?_ | refine AWp.block ?_ | refine AWp.skip ?_ | refine AWp.regG [] Zc ?_ | refine AWp.cond_t rfl ?_ | refine AWp.cond_f rfl ?_ | (refine AWp.cond rfl ?_ ?_ <;> intro hc <;> (try rw [hc]) <;> ((try simp only [zn] at hc) <;> (try simp (disch := omega) only [zz hA, zb, zy, reduceCtorEq, Bool.false_eq_true, Int.reduceLT, Int.reduceLE, Int.reduceNeg] at hc) <;> (try simp only [zw] at hc)) <;> (try (exfalso; omega))) | refine AWp.exit ?_ | refine AWp.ret ⟨.inr rfl, _, RetOk.ev tabOk Zc, ?_⟩ | refine AWp.drawVG [] rfl (by decide +kernel) Zc ?_) | (refine AOLg.pass ?_; refine AOLg.nx hA tabOk Zc ?_; first | refine NX.done ?_ | refine NX.gt ?_ | refine NX.gf ?_ | (refine NX.gs ?_ ?_ <;> intro hc <;> rw [hc] <;> ((try simp only [zn] at hc) <;> (try simp (disch := omega) only [zz hA, zb, zy, reduceCtorEq, Bool.false_eq_true, Int.reduceLT, Int.reduceLE, Int.reduceNeg] at hc) <;> (try simp only [zw] at hc)) <;> (try (exfalso; omega))) | (refine NX.kC ?_; first | (with_reducible refine NX.call (hsh) ?_) | (with_reducible refine NX.call (hof) ?_) | ((first | refine NX.call (hsh) ?_ | refine NX.call (hof) ?_)) | fail) | (refine NX.kO ?_; (first | refine NX.callO (hsh) (by simp [allEq]) rfl ?_ | refine NX.callO (hof) (by simp [allEq]) rfl ?_)) | refine NX.k 1 (NX.one Z1 ?_) | refine NX.k 7 (NX.one Z7 ?_) | refine NX.k 8 (NX.one Z8 ?_) | refine NX.k 9 (NX.one Z9 ?_) | refine NX.k 10 (NX.one Z10 ?_) | refine NX.k 14 (NX.one Z14 ?_) | refine NX.k 15 (NX.one Z15 ?_) | refine NX.k 17 (NX.one Z17 ?_) | refine NX.k 18 (NX.one Z18 ?_) | refine NX.raw ?_) | (refine TRg.pass ?_; refine TRg.nx hA tabOk Zc ?_; first | refine TX.done ?_ | refine TX.gt ?_ | refine TX.gf ?_ | (refine TX.gs ?_ ?_ <;> intro hc <;> rw [hc] <;> ((try simp only [zn] at hc) <;> (try simp (disch := omega) only [zz hA, zb, zy, reduceCtorEq, Bool.false_eq_true, Int.reduceLT, Int.reduceLE, Int.reduceNeg] at hc) <;> (try simp only [zw] at hc)) <;> (try (exfalso; omega))) | (refine TX.kC ?_; first | (with_reducible refine TX.call (hsh) ?_) | (with_reducible refine TX.call (hof) ?_) | ((first | refine TX.call (hsh) ?_ | refine TX.call (hof) ?_)) | fail) | (refine TX.kO ?_; (first | refine TX.callO (hsh) (by simp [allEq]) rfl ?_ | refine TX.callO (hof) (by simp [allEq]) rfl ?_)) | refine TX.k 1 (TX.one Z1 ?_) | refine TX.k 7 (TX.one Z7 ?_) | refine TX.k 8 (TX.one Z8 ?_) | refine TX.k 9 (TX.one Z9 ?_) | refine TX.k 10 (TX.one Z10 ?_) | refine TX.k 14 (TX.one Z14 ?_) | refine TX.k 15 (TX.one Z15 ?_) | refine TX.k 17 (TX.one Z17 ?_) | refine TX.k 18 (TX.one Z18 ?_) | refine TX.raw ?_) | refine Fin3.of Zc (by repeat' (first | exact True.intro | exact rfl | refine And.intro ?_ ?_)) ?_ ?_ | (refine AllO.pass ?_; first | exact AllO.nil | (refine AllO.cons (One.ev hA tabOk ?_) ?_ <;> (first | refine AllO.pass ?_ | ((conv => lhs; cbv); done))) | (refine AllO.cons (One.skipB ?_) ?_ <;> (first | refine AllO.pass ?_ | ((conv => lhs; cbv); done))) | ((with_reducible refine AllO.call Zc (hsh) ?_ ?_) <;> (first | refine AllO.pass ?_ | exact rfl | exact Zd)) | ((with_reducible refine AllO.call Zc (hof) ?_ ?_) <;> (first | refine AllO.pass ?_ | exact rfl | exact Zd)) | refine AllO.consX ZX rfl rfl ?_) | refine Thn.exit ?_ | refine Blk.here ?_ | refine Blk.other (by decide) ?_ | refine ⟨.inl rfl, _, RetOk.ev tabOk Zc, ?_⟩ | fail)
    all_goals exact Ze
  | true =>
    obtain ⟨ho, h40⟩ := hb rfl
    obtain ⟨b1, b2, b3, b4, b5, b6, b7, b8⟩ := ho.len
    have hst := ho.st
    have hru := ho.ru
    have hri := ho.right
    clear hb ho
    by_cases hxy : (0 ≤ x ∧ x < V.length) ∧ (0 ≤ y ∧ y < V.length)
    · have hth := there2_c hA R V N M P Q x y true ((there_two V.length x y).2 hxy).symm
      obtain ⟨⟨x0, x1⟩, ⟨y0, y1⟩⟩ := hxy
      have nx := next_c hA K S hst R V N M P Q hru (by omega) b5 b6 (fun z hz => by have := b7 z hz; omega) (fun z hz => by have := b8 z hz; omega) x x0 x1
      have ny := next_c hA K S hst R V N M P Q hru (by omega) b5 b6 (fun z hz => by have := b7 z hz; omega) (fun z hz => by have := b8 z hz; omega) y y0 y1
      have fx := refFind_c hA V N M R hru x x0 x1 (by omega)
      have fy := refFind_c hA V N M R hru y y0 y1 (by omega)
      have hpl : ∀ v : Nat, v < V.length → (P.getD v default).length ≤ 1000000 := fun v hv => by
        have := b7 (P.getD v default) (by rw [List.getD_eq_getElem?_getD, List.getElem?_eq_getElem (by omega)]; exact List.getElem_mem _)
        omega
      have hql : ∀ v : Nat, v < V.length → (Q.getD v default).length ≤ 1000000 := fun v hv => by
        have := b8 (Q.getD v default) (by rw [List.getD_eq_getElem?_getD, List.getElem?_eq_getElem (by omega)]; exact List.getElem_mem _)
        omega
      have hnl : ∀ v, (nextM K V P Q v).length ≤ V.length := fun v => nodup_len V.length _ ((comp_lt (sortZ_le _)).imp fun h => by omega) (fun w hw => next_range hst.ok hru P Q v w hw)
      have hat : ∀ i : Nat, i < (nextM K V P Q (findU V x)).length → (0 ≤ (nextM K V P Q (findU V x)).getD i default ∧ (nextM K V P Q (findU V x)).getD i default < V.length) ∧ V.getD ((nextM K V P Q (findU V x)).getD i default).toNat default = (nextM K V P Q (findU V x)).getD i default ∧ (nextM K V P Q (findU V x)).getD i default ≠ findU V x := fun i hi => by
        have hm : (nextM K V P Q (findU V x)).getD i default ∈ nextM K V P Q (findU V x) := by rw [List.getD_eq_getElem?_getD, List.getElem?_eq_getElem hi]; exact List.getElem_mem _
        exact ⟨next_range hst.ok hru P Q _ _ hm, next_root hst hru hri hm, (mem_next.1 hm).2⟩
      have hlt : ∀ i : Nat, 0 < i → i < (nextM K V P Q (findU V x)).length → (nextM K V P Q (findU V x)).getD (i - 1) default < (nextM K V P Q (findU V x)).getD i default := fun i h0 hi => next_lt h0 hi
      have hnx := hnl (findU V x)
      have hin : findU V x = findU V y → PureCalls Try.prog 17 [intsP A (nextM K V P Q (findU V x)), intsP A (nextM K V P Q (findU V y))] (BP true) := fun e => ints_same hA _ _ (by rw [e]) (by omega)
      clear hpl hql hnl
      generalize nextM K V P Q (findU V x) = L at *
      generalize nextM K V P Q (findU V y) = L2 at *
      generalize findU V x = p at *
      generalize findU V y = q at *
      refine PureCalls.of Try.func6 rfl (by kernel_rfl) rfl ?_
      try first | refine AOLg.of [] ?_ | refine QSg.of [] ?_
      repeat' (first | (refine AWp.pass ?_; first | refine AWp.seq ?_ | refine AWp.block ?_ | refine AWp.skip ?_ | refine AWp.regG [] Zc ?_ | refine AWp.cond_t rfl ?_ | refine AWp.cond_f rfl ?_ | (refine AWp.cond rfl ?_ ?_ <;> intro hc <;> (try rw [hc]) <;> ((try simp only [zn] at hc) <;> (try simp (disch := omega) only [zz hA, zb, zy, reduceCtorEq, Bool.false_eq_true, Int.reduceLT, Int.reduceLE, Int.reduceNeg] at hc) <;> (try simp only [zw] at hc)) <;> (try (exfalso; omega))) | refine AWp.exit ?_ | refine AWp.ret ⟨.inr rfl, _, RetOk.ev tabOk Zc, ?_⟩ | refine AWp.drawVG [] rfl (by decide +kernel) Zc ?_) | (refine AOLg.pass ?_; refine AOLg.nx hA tabOk Zc ?_; first | refine NX.done ?_ | refine NX.gt ?_ | refine NX.gf ?_ | (refine NX.gs ?_ ?_ <;> intro hc <;> rw [hc] <;> ((try simp only [zn] at hc) <;> (try simp (disch := omega) only [zz hA, zb, zy, reduceCtorEq, Bool.false_eq_true, Int.reduceLT, Int.reduceLE, Int.reduceNeg] at hc) <;> (try simp only [zw] at hc)) <;> (try (exfalso; omega))) | (refine NX.kC ?_; first | (with_reducible refine NX.call (hsh) ?_) | (with_reducible refine NX.call (hof) ?_) | (with_reducible refine NX.call (hth) ?_) | (with_reducible refine NX.call (nx) ?_) | (with_reducible refine NX.call (fx) ?_) | ((first | refine NX.call (hsh) ?_ | refine NX.call (hof) ?_ | refine NX.call (hth) ?_ | refine NX.call (nx) ?_ | refine NX.call (fx) ?_)) | fail) | (refine NX.kO ?_; (first | refine NX.callO (hsh) (by simp [allEq]) rfl ?_ | refine NX.callO (hof) (by simp [allEq]) rfl ?_ | refine NX.callO (hth) (by simp [allEq]) rfl ?_ | refine NX.callO (nx) (by simp [allEq]) rfl ?_ | refine NX.callO (fx) (by simp [allEq]) rfl ?_)) | refine NX.k 1 (NX.one Z1 ?_) | refine NX.k 7 (NX.one Z7 ?_) | refine NX.k 8 (NX.one Z8 ?_) | refine NX.k 9 (NX.one Z9 ?_) | refine NX.k 10 (NX.one Z10 ?_) | refine NX.k 14 (NX.one Z14 ?_) | refine NX.k 15 (NX.one Z15 ?_) | refine NX.k 17 (NX.one Z17 ?_) | refine NX.k 18 (NX.one Z18 ?_) | refine NX.raw ?_) | (refine TRg.pass ?_; refine TRg.nx hA tabOk Zc ?_; first | refine TX.done ?_ | refine TX.gt ?_ | refine TX.gf ?_ | (refine TX.gs ?_ ?_ <;> intro hc <;> rw [hc] <;> ((try simp only [zn] at hc) <;> (try simp (disch := omega) only [zz hA, zb, zy, reduceCtorEq, Bool.false_eq_true, Int.reduceLT, Int.reduceLE, Int.reduceNeg] at hc) <;> (try simp only [zw] at hc)) <;> (try (exfalso; omega))) | (refine TX.kC ?_; first | (with_reducible refine TX.call (hsh) ?_) | (with_reducible refine TX.call (hof) ?_) | (with_reducible refine TX.call (hth) ?_) | (with_reducible refine TX.call (nx) ?_) | (with_reducible refine TX.call (fx) ?_) | ((first | refine TX.call (hsh) ?_ | refine TX.call (hof) ?_ | refine TX.call (hth) ?_ | refine TX.call (nx) ?_ | refine TX.call (fx) ?_)) | fail) | (refine TX.kO ?_; (first | refine TX.callO (hsh) (by simp [allEq]) rfl ?_ | refine TX.callO (hof) (by simp [allEq]) rfl ?_ | refine TX.callO (hth) (by simp [allEq]) rfl ?_ | refine TX.callO (nx) (by simp [allEq]) rfl ?_ | refine TX.callO (fx) (by simp [allEq]) rfl ?_)) | refine TX.k 1 (TX.one Z1 ?_) | refine TX.k 7 (TX.one Z7 ?_) | refine TX.k 8 (TX.one Z8 ?_) | refine TX.k 9 (TX.one Z9 ?_) | refine TX.k 10 (TX.one Z10 ?_) | refine TX.k 14 (TX.one Z14 ?_) | refine TX.k 15 (TX.one Z15 ?_) | refine TX.k 17 (TX.one Z17 ?_) | refine TX.k 18 (TX.one Z18 ?_) | refine TX.raw ?_) | refine Fin3.of Zc (by repeat' (first | exact True.intro | exact rfl | refine And.intro ?_ ?_)) ?_ ?_ | (refine AllO.pass ?_; first | exact AllO.nil | (refine AllO.cons (One.ev hA tabOk ?_) ?_ <;> (first | refine AllO.pass ?_ | ((conv => lhs; cbv); done))) | (refine AllO.cons (One.skipB ?_) ?_ <;> (first | refine AllO.pass ?_ | ((conv => lhs; cbv); done))) | ((with_reducible refine AllO.call Zc (hsh) ?_ ?_) <;> (first | refine AllO.pass ?_ | exact rfl | exact Zd)) | ((with_reducible refine AllO.call Zc (hof) ?_ ?_) <;> (first | refine AllO.pass ?_ | exact rfl | exact Zd)) | ((with_reducible refine AllO.call Zc (hth) ?_ ?_) <;> (first | refine AllO.pass ?_ | exact rfl | exact Zd)) | ((with_reducible refine AllO.call Zc (nx) ?_ ?_) <;> (first | refine AllO.pass ?_ | exact rfl | exact Zd)) | ((with_reducible refine AllO.call Zc (fx) ?_ ?_) <;> (first | refine AllO.pass ?_ | exact rfl | exact Zd)) | refine AllO.consX ZX rfl rfl ?_) | refine Thn.exit ?_ | refine Blk.here ?_ | refine Blk.other (by decide) ?_ | refine ⟨.inl rfl, _, RetOk.ev tabOk Zc, ?_⟩ | fail)
      all_goals try (exfalso; omega)
      refine AWp.loopU (fun k : Nat => [(11, .ic (.lit (.int .i64 (hid A (cN k)))))]) (fun _ => _) (fun k => L.length - k) (fun k => k ≤ L.length) 0 (by conv => lhs; cbv) (Nat.zero_le _) (by ((repeat' (first | exact subE.nil | refine subE.cons rfl ?_ | refine subE.int rfl ?_ ?_ | refine subE.bool rfl ?_ ?_ | refine subE.str rfl ?_ ?_ | refine subE.sl rfl ?_ ?_))) <;> simp [hA, real, hid, cN]) rfl ?_
      intro k hk
      by_cases hkl : k < L.length
      · obtain ⟨a1, a2, a3⟩ := hat k hkl
        have a4 := fun h0 => hlt k h0 hkl
        have a5 : ∀ z : Int, z = (k : Int) - 1 → 0 < k → L.getD z.toNat default < L.getD k default := fun z hz h0 => by
          rw [show z.toNat = k - 1 by omega]; exact a4 h0
        clear hat hlt hin
        try first | refine AOLg.of [] ?_ | refine QSg.of [] ?_
        repeat' (first | (refine AWp.pass ?_; first | refine AWp.seq ?_ | refine AWp.block ?_ | refine AWp.skip ?_ | refine AWp.regG [] Zc ?_ | refine AWp.cond_t rfl ?_ | refine AWp.cond_f rfl ?_ | (refine AWp.cond rfl ?_ ?_ <;> intro hc <;> (try rw [hc]) <;> ((try simp only [zn] at hc) <;> (try simp (disch := omega) only [zz hA, zb, zy, reduceCtorEq, Bool.false_eq_true, Int.reduceLT, Int.reduceLE, Int.reduceNeg] at hc) <;> (try simp only [zw] at hc)) <;> (try (exfalso; omega))) | refine AWp.exit ?_ | refine AWp.ret ⟨.inr rfl, _, RetOk.ev tabOk Zc, ?_⟩ | refine AWp.drawVG [] rfl (by decide +kernel) Zc ?_) | (refine AOLg.pass ?_; refine AOLg.nx hA tabOk Zc ?_; first | refine NX.done ?_ | refine NX.gt ?_ | refine NX.gf ?_ | (refine NX.gs ?_ ?_ <;> intro hc <;> rw [hc] <;> ((try simp only [zn] at hc) <;> (try simp (disch := omega) only [zz hA, zb, zy, reduceCtorEq, Bool.false_eq_true, Int.reduceLT, Int.reduceLE, Int.reduceNeg] at hc) <;> (try simp only [zw] at hc)) <;> (try (exfalso; omega))) | refine NX.k 1 (NX.one Z1 ?_) | refine NX.k 7 (NX.one Z7 ?_) | refine NX.k 8 (NX.one Z8 ?_) | refine NX.k 9 (NX.one Z9 ?_) | refine NX.k 10 (NX.one Z10 ?_) | refine NX.k 14 (NX.one Z14 ?_) | refine NX.k 15 (NX.one Z15 ?_) | refine NX.k 17 (NX.one Z17 ?_) | refine NX.k 18 (NX.one Z18 ?_) | refine NX.raw ?_) | (refine TRg.pass ?_; refine TRg.nx hA tabOk Zc ?_; first | refine TX.done ?_ | refine TX.gt ?_ | refine TX.gf ?_ | (refine TX.gs ?_ ?_ <;> intro hc <;> rw [hc] <;> ((try simp only [zn] at hc) <;> (try simp (disch := omega) only [zz hA, zb, zy, reduceCtorEq, Bool.false_eq_true, Int.reduceLT, Int.reduceLE, Int.reduceNeg] at hc) <;> (try simp only [zw] at hc)) <;> (try (exfalso; omega))) | refine TX.k 1 (TX.one Z1 ?_) | refine TX.k 7 (TX.one Z7 ?_) | refine TX.k 8 (TX.one Z8 ?_) | refine TX.k 9 (TX.one Z9 ?_) | refine TX.k 10 (TX.one Z10 ?_) | refine TX.k 14 (TX.one Z14 ?_) | refine TX.k 15 (TX.one Z15 ?_) | refine TX.k 17 (TX.one Z17 ?_) | refine TX.k 18 (TX.one Z18 ?_) | refine TX.raw ?_) | refine Fin3.of Zc (by repeat' (first | exact True.intro | exact rfl | refine And.intro ?_ ?_)) ?_ ?_ | (refine AllO.pass ?_; first | exact AllO.nil | (refine AllO.cons (One.ev hA tabOk ?_) ?_ <;> (first | refine AllO.pass ?_ | ((conv => lhs; cbv); done))) | (refine AllO.cons (One.skipB ?_) ?_ <;> (first | refine AllO.pass ?_ | ((conv => lhs; cbv); done))) | refine AllO.consX ZX rfl rfl ?_) | refine Thn.exit ?_ | refine Blk.here ?_ | refine Blk.other (by decide) ?_ | refine ⟨.inl rfl, _, RetOk.ev tabOk Zc, ?_⟩ | fail)
        all_goals try (exfalso; omega)
        all_goals first | (exfalso; have := a5 _ rfl (by omega); omega) | (refine ⟨k + 1, ?_, ?_, rfl, rfl, ?_, Zk⟩ <;> first | omega | (((repeat' (first | exact subE.nil | refine subE.cons rfl ?_ | refine subE.int rfl ?_ ?_ | refine subE.bool rfl ?_ ?_ | refine subE.str rfl ?_ ?_ | refine subE.sl rfl ?_ ?_))) <;> exact Zd))
      · clear hat hlt
        by_cases hpq : p = q
        · have hin := hin hpq
          try first | refine AOLg.of [] ?_ | refine QSg.of [] ?_
          repeat' (first | (refine AWp.pass ?_; first | refine AWp.seq ?_ | refine AWp.block ?_ | refine AWp.skip ?_ | refine AWp.regG [] Zc ?_ | refine AWp.cond_t rfl ?_ | refine AWp.cond_f rfl ?_ | (refine AWp.cond rfl ?_ ?_ <;> intro hc <;> (try rw [hc]) <;> ((try simp only [zn] at hc) <;> (try simp (disch := omega) only [zz hA, zb, zy, reduceCtorEq, Bool.false_eq_true, Int.reduceLT, Int.reduceLE, Int.reduceNeg] at hc) <;> (try simp only [zw] at hc)) <;> (try (exfalso; omega))) | refine AWp.exit ?_ | refine AWp.ret ⟨.inr rfl, _, RetOk.ev tabOk Zc, ?_⟩ | refine AWp.drawVG [] rfl (by decide +kernel) Zc ?_) | (refine AOLg.pass ?_; refine AOLg.nx hA tabOk Zc ?_; first | refine NX.done ?_ | refine NX.gt ?_ | refine NX.gf ?_ | (refine NX.gs ?_ ?_ <;> intro hc <;> rw [hc] <;> ((try simp only [zn] at hc) <;> (try simp (disch := omega) only [zz hA, zb, zy, reduceCtorEq, Bool.false_eq_true, Int.reduceLT, Int.reduceLE, Int.reduceNeg] at hc) <;> (try simp only [zw] at hc)) <;> (try (exfalso; omega))) | (refine NX.kC ?_; first | (with_reducible refine NX.call (fy) ?_) | (with_reducible refine NX.call (ny) ?_) | (with_reducible refine NX.call (hin) ?_) | ((first | refine NX.call (fy) ?_ | refine NX.call (ny) ?_ | refine NX.call (hin) ?_)) | fail) | (refine NX.kO ?_; (first | refine NX.callO (fy) (by simp [allEq]) rfl ?_ | refine NX.callO (ny) (by simp [allEq]) rfl ?_ | refine NX.callO (hin) (by simp [allEq]) rfl ?_)) | refine NX.k 1 (NX.one Z1 ?_) | refine NX.k 7 (NX.one Z7 ?_) | refine NX.k 8 (NX.one Z8 ?_) | refine NX.k 9 (NX.one Z9 ?_) | refine NX.k 10 (NX.one Z10 ?_) | refine NX.k 14 (NX.one Z14 ?_) | refine NX.k 15 (NX.one Z15 ?_) | refine NX.k 17 (NX.one Z17 ?_) | refine NX.k 18 (NX.one Z18 ?_) | refine NX.raw ?_) | (refine TRg.pass ?_; refine TRg.nx hA tabOk Zc ?_; first | refine TX.done ?_ | refine TX.gt ?_ | refine TX.gf ?_ | (refine TX.gs ?_ ?_ <;> intro hc <;> rw [hc] <;> ((try simp only [zn] at hc) <;> (try simp (disch := omega) only [zz hA, zb, zy, reduceCtorEq, Bool.false_eq_true, Int.reduceLT, Int.reduceLE, Int.reduceNeg] at hc) <;> (try simp only [zw] at hc)) <;> (try (exfalso; omega))) | (refine TX.kC ?_; first | (with_reducible refine TX.call (fy) ?_) | (with_reducible refine TX.call (ny) ?_) | (with_reducible refine TX.call (hin) ?_) | ((first | refine TX.call (fy) ?_ | refine TX.call (ny) ?_ | refine TX.call (hin) ?_)) | fail) | (refine TX.kO ?_; (first | refine TX.callO (fy) (by simp [allEq]) rfl ?_ | refine TX.callO (ny) (by simp [allEq]) rfl ?_ | refine TX.callO (hin) (by simp [allEq]) rfl ?_)) | refine TX.k 1 (TX.one Z1 ?_) | refine TX.k 7 (TX.one Z7 ?_) | refine TX.k 8 (TX.one Z8 ?_) | refine TX.k 9 (TX.one Z9 ?_) | refine TX.k 10 (TX.one Z10 ?_) | refine TX.k 14 (TX.one Z14 ?_) | refine TX.k 15 (TX.one Z15 ?_) | refine TX.k 17 (TX.one Z17 ?_) | refine TX.k 18 (TX.one Z18 ?_) | refine TX.raw ?_) | refine Fin3.of Zc (by repeat' (first | exact True.intro | exact rfl | refine And.intro ?_ ?_)) ?_ ?_ | (refine AllO.pass ?_; first | exact AllO.nil | (refine AllO.cons (One.ev hA tabOk ?_) ?_ <;> (first | refine AllO.pass ?_ | ((conv => lhs; cbv); done))) | (refine AllO.cons (One.skipB ?_) ?_ <;> (first | refine AllO.pass ?_ | ((conv => lhs; cbv); done))) | ((with_reducible refine AllO.call Zc (fy) ?_ ?_) <;> (first | refine AllO.pass ?_ | exact rfl | exact Zd)) | ((with_reducible refine AllO.call Zc (ny) ?_ ?_) <;> (first | refine AllO.pass ?_ | exact rfl | exact Zd)) | ((with_reducible refine AllO.call Zc (hin) ?_ ?_) <;> (first | refine AllO.pass ?_ | exact rfl | exact Zd)) | refine AllO.consX ZX rfl rfl ?_) | refine Thn.exit ?_ | refine Blk.here ?_ | refine Blk.other (by decide) ?_ | refine ⟨.inl rfl, _, RetOk.ev tabOk Zc, ?_⟩ | fail)
          all_goals exact Ze
        · clear hin
          try first | refine AOLg.of [] ?_ | refine QSg.of [] ?_
          repeat' (first | (refine AWp.pass ?_; first | refine AWp.seq ?_ | refine AWp.block ?_ | refine AWp.skip ?_ | refine AWp.regG [] Zc ?_ | refine AWp.cond_t rfl ?_ | refine AWp.cond_f rfl ?_ | (refine AWp.cond rfl ?_ ?_ <;> intro hc <;> (try rw [hc]) <;> ((try simp only [zn] at hc) <;> (try simp (disch := omega) only [zz hA, zb, zy, reduceCtorEq, Bool.false_eq_true, Int.reduceLT, Int.reduceLE, Int.reduceNeg] at hc) <;> (try simp only [zw] at hc)) <;> (try (exfalso; omega))) | refine AWp.exit ?_ | refine AWp.ret ⟨.inr rfl, _, RetOk.ev tabOk Zc, ?_⟩ | refine AWp.drawVG [] rfl (by decide +kernel) Zc ?_) | (refine AOLg.pass ?_; refine AOLg.nx hA tabOk Zc ?_; first | refine NX.done ?_ | refine NX.gt ?_ | refine NX.gf ?_ | (refine NX.gs ?_ ?_ <;> intro hc <;> rw [hc] <;> ((try simp only [zn] at hc) <;> (try simp (disch := omega) only [zz hA, zb, zy, reduceCtorEq, Bool.false_eq_true, Int.reduceLT, Int.reduceLE, Int.reduceNeg] at hc) <;> (try simp only [zw] at hc)) <;> (try (exfalso; omega))) | (refine NX.kC ?_; first | (with_reducible refine NX.call (fy) ?_) | ((first | refine NX.call (fy) ?_)) | fail) | (refine NX.kO ?_; (first | refine NX.callO (fy) (by simp [allEq]) rfl ?_)) | refine NX.k 1 (NX.one Z1 ?_) | refine NX.k 7 (NX.one Z7 ?_) | refine NX.k 8 (NX.one Z8 ?_) | refine NX.k 9 (NX.one Z9 ?_) | refine NX.k 10 (NX.one Z10 ?_) | refine NX.k 14 (NX.one Z14 ?_) | refine NX.k 15 (NX.one Z15 ?_) | refine NX.k 17 (NX.one Z17 ?_) | refine NX.k 18 (NX.one Z18 ?_) | refine NX.raw ?_) | (refine TRg.pass ?_; refine TRg.nx hA tabOk Zc ?_; first | refine TX.done ?_ | refine TX.gt ?_ | refine TX.gf ?_ | (refine TX.gs ?_ ?_ <;> intro hc <;> rw [hc] <;> ((try simp only [zn] at hc) <;> (try simp (disch := omega) only [zz hA, zb, zy, reduceCtorEq, Bool.false_eq_true, Int.reduceLT, Int.reduceLE, Int.reduceNeg] at hc) <;> (try simp only [zw] at hc)) <;> (try (exfalso; omega))) | (refine TX.kC ?_; first | (with_reducible refine TX.call (fy) ?_) | ((first | refine TX.call (fy) ?_)) | fail) | (refine TX.kO ?_; (first | refine TX.callO (fy) (by simp [allEq]) rfl ?_)) | refine TX.k 1 (TX.one Z1 ?_) | refine TX.k 7 (TX.one Z7 ?_) | refine TX.k 8 (TX.one Z8 ?_) | refine TX.k 9 (TX.one Z9 ?_) | refine TX.k 10 (TX.one Z10 ?_) | refine TX.k 14 (TX.one Z14 ?_) | refine TX.k 15 (TX.one Z15 ?_) | refine TX.k 17 (TX.one Z17 ?_) | refine TX.k 18 (TX.one Z18 ?_) | refine TX.raw ?_) | refine Fin3.of Zc (by repeat' (first | exact True.intro | exact rfl | refine And.intro ?_ ?_)) ?_ ?_ | (refine AllO.pass ?_; first | exact AllO.nil | (refine AllO.cons (One.ev hA tabOk ?_) ?_ <;> (first | refine AllO.pass ?_ | ((conv => lhs; cbv); done))) | (refine AllO.cons (One.skipB ?_) ?_ <;> (first | refine AllO.pass ?_ | ((conv => lhs; cbv); done))) | ((with_reducible refine AllO.call Zc (fy) ?_ ?_) <;> (first | refine AllO.pass ?_ | exact rfl | exact Zd)) | refine AllO.consX ZX rfl rfl ?_) | refine Thn.exit ?_ | refine Blk.here ?_ | refine Blk.other (by decide) ?_ | refine ⟨.inl rfl, _, RetOk.ev tabOk Zc, ?_⟩ | fail)
          all_goals exact Ze
    · have hth := there2_c hA R V N M P Q x y false (by
        cases h : thereB V.length [x, y] with
        | false => rfl
        | true => exact absurd ((there_two V.length x y).1 h) hxy)
      refine PureCalls.of Try.func6 rfl (by kernel_rfl) rfl ?_
      try first | refine AOLg.of [] ?_ | refine QSg.of [] ?_
      repeat' (first | (refine AWp.pass ?_; first | refine AWp.seq ?_ | refine AWp.block ?_ | refine AWp.skip ?_ | refine AWp.regG [] Zc ?_ | refine AWp.cond_t rfl ?_ | refine AWp.cond_f rfl ?_ | (refine AWp.cond rfl ?_ ?_ <;> intro hc <;> (try rw [hc]) <;> ((try simp only [zn] at hc) <;> (try simp (disch := omega) only [zz hA, zb, zy, reduceCtorEq, Bool.false_eq_true, Int.reduceLT, Int.reduceLE, Int.reduceNeg] at hc) <;> (try simp only [zw] at hc)) <;> (try (exfalso; omega))) | refine AWp.exit ?_ | refine AWp.ret ⟨.inr rfl, _, RetOk.ev tabOk Zc, ?_⟩ | refine AWp.drawVG [] rfl (by decide +kernel) Zc ?_) | (refine AOLg.pass ?_; refine AOLg.nx hA tabOk Zc ?_; first | refine NX.done ?_ | refine NX.gt ?_ | refine NX.gf ?_ | (refine NX.gs ?_ ?_ <;> intro hc <;> rw [hc] <;> ((try simp only [zn] at hc) <;> (try simp (disch := omega) only [zz hA, zb, zy, reduceCtorEq, Bool.false_eq_true, Int.reduceLT, Int.reduceLE, Int.reduceNeg] at hc) <;> (try simp only [zw] at hc)) <;> (try (exfalso; omega))) | (refine NX.kC ?_; first | (with_reducible refine NX.call (hsh) ?_) | (with_reducible refine NX.call (hof) ?_) | (with_reducible refine NX.call (hth) ?_) | ((first | refine NX.call (hsh) ?_ | refine NX.call (hof) ?_ | refine NX.call (hth) ?_)) | fail) | (refine NX.kO ?_; (first | refine NX.callO (hsh) (by simp [allEq]) rfl ?_ | refine NX.callO (hof) (by simp [allEq]) rfl ?_ | refine NX.callO (hth) (by simp [allEq]) rfl ?_)) | refine NX.k 1 (NX.one Z1 ?_) | refine NX.k 7 (NX.one Z7 ?_) | refine NX.k 8 (NX.one Z8 ?_) | refine NX.k 9 (NX.one Z9 ?_) | refine NX.k 10 (NX.one Z10 ?_) | refine NX.k 14 (NX.one Z14 ?_) | refine NX.k 15 (NX.one Z15 ?_) | refine NX.k 17 (NX.one Z17 ?_) | refine NX.k 18 (NX.one Z18 ?_) | refine NX.raw ?_) | (refine TRg.pass ?_; refine TRg.nx hA tabOk Zc ?_; first | refine TX.done ?_ | refine TX.gt ?_ | refine TX.gf ?_ | (refine TX.gs ?_ ?_ <;> intro hc <;> rw [hc] <;> ((try simp only [zn] at hc) <;> (try simp (disch := omega) only [zz hA, zb, zy, reduceCtorEq, Bool.false_eq_true, Int.reduceLT, Int.reduceLE, Int.reduceNeg] at hc) <;> (try simp only [zw] at hc)) <;> (try (exfalso; omega))) | (refine TX.kC ?_; first | (with_reducible refine TX.call (hsh) ?_) | (with_reducible refine TX.call (hof) ?_) | (with_reducible refine TX.call (hth) ?_) | ((first | refine TX.call (hsh) ?_ | refine TX.call (hof) ?_ | refine TX.call (hth) ?_)) | fail) | (refine TX.kO ?_; (first | refine TX.callO (hsh) (by simp [allEq]) rfl ?_ | refine TX.callO (hof) (by simp [allEq]) rfl ?_ | refine TX.callO (hth) (by simp [allEq]) rfl ?_)) | refine TX.k 1 (TX.one Z1 ?_) | refine TX.k 7 (TX.one Z7 ?_) | refine TX.k 8 (TX.one Z8 ?_) | refine TX.k 9 (TX.one Z9 ?_) | refine TX.k 10 (TX.one Z10 ?_) | refine TX.k 14 (TX.one Z14 ?_) | refine TX.k 15 (TX.one Z15 ?_) | refine TX.k 17 (TX.one Z17 ?_) | refine TX.k 18 (TX.one Z18 ?_) | refine TX.raw ?_) | refine Fin3.of Zc (by repeat' (first | exact True.intro | exact rfl | refine And.intro ?_ ?_)) ?_ ?_ | (refine AllO.pass ?_; first | exact AllO.nil | (refine AllO.cons (One.ev hA tabOk ?_) ?_ <;> (first | refine AllO.pass ?_ | ((conv => lhs; cbv); done))) | (refine AllO.cons (One.skipB ?_) ?_ <;> (first | refine AllO.pass ?_ | ((conv => lhs; cbv); done))) | ((with_reducible refine AllO.call Zc (hsh) ?_ ?_) <;> (first | refine AllO.pass ?_ | exact rfl | exact Zd)) | ((with_reducible refine AllO.call Zc (hof) ?_ ?_) <;> (first | refine AllO.pass ?_ | exact rfl | exact Zd)) | ((with_reducible refine AllO.call Zc (hth) ?_ ?_) <;> (first | refine AllO.pass ?_ | exact rfl | exact Zd)) | refine AllO.consX ZX rfl rfl ?_) | refine Thn.exit ?_ | refine Blk.here ?_ | refine Blk.other (by decide) ?_ | refine ⟨.inl rfl, _, RetOk.ev tabOk Zc, ?_⟩ | fail)
      all_goals exact Ze
end Go.Proofs.Ytkkjlmcnfoncdaa.Aw

/- Ways of one step; a constraint that is added leads from the one to the other: a plain law. -/
set_option linter.unusedVariables false
set_option linter.unusedSimpArgs false
namespace Go.Proofs.Ytkkjlmcnfoncdaa.Aw
open Go Go.RowKit
theorem path_self (nx : Int → List Int) (p d : Int) : pathM nx p p d = [p] := by
  have g : goesP nx p p d 0 = false := by
    unfold goesP
    rw [show (mapF (levP nx p 0).1 p).isSome = true by simp [levP, mapF]]
    simp
  have hst : stopP nx p p d d.toNat 0 = 0 := by
    cases d.toNat with
    | zero => rfl
    | succ f => simp [stopP, g]
  unfold pathM finP
  rw [hst]
  simp [levP, mapF, restP]
theorem mapF_app (F : List (Int × Int)) (w v z : Int) : mapF (F ++ [(w, v)]) z = if (mapF F z).isSome then mapF F z else if z = w then some v else none := by
  induction F with
  | nil => simp [mapF]
  | cons p r ih =>
    obtain ⟨a, b⟩ := p
    simp only [List.cons_append, mapF]
    split
    · simp
    · exact ih
theorem foldP_val (p : Int) : ∀ (l : List Int) (s : List (Int × Int) × List Int), (∀ z v, mapF s.1 z = some v → v = p) → (∀ z v, mapF (l.foldl (inP p) s).1 z = some v → v = p) ∧ (∀ z, z ∈ l ∨ (mapF s.1 z).isSome = true → (mapF (l.foldl (inP p) s).1 z).isSome = true)
  | [], s, h => ⟨h, fun z hz => by simpa using hz⟩
  | w :: l, s, h => by
    have h1 : (∀ z v, mapF (inP p s w).1 z = some v → v = p) ∧ (∀ z, z = w ∨ (mapF s.1 z).isSome = true → (mapF (inP p s w).1 z).isSome = true) := by
      unfold inP
      split
      · rename_i hw
        exact ⟨h, fun z hz => by rcases hz with rfl | hz <;> assumption⟩
      · refine ⟨fun z v hv => ?_, fun z hz => ?_⟩
        · simp only [mapF_app] at hv
          split at hv
          · exact h z v hv
          · split at hv
            · simp at hv; exact hv.symm
            · simp at hv
        · simp only [mapF_app]
          split
          · assumption
          · rcases hz with rfl | hz
            · simp
            · contradiction
    have h2 := foldP_val p l (inP p s w) h1.1
    refine ⟨h2.1, fun z hz => h2.2 z ?_⟩
    rcases hz with hz | hz
    · rcases List.mem_cons.1 hz with rfl | hz
      · exact .inr (h1.2 _ (.inl rfl))
      · exact .inl hz
    · exact .inr (h1.2 z (.inr hz))
theorem path_one {nx : Int → List Int} {p q : Int} (h : q ∈ nx p) (hne : q ≠ p) : pathM nx p q 1 = [p, q] := by
  have l1 : (levP nx p 1).1 = ((nx p).foldl (inP p) ([(p, p)], [])).1 := by
    simp [levP, visP]
  have hf := foldP_val p (nx p) ([(p, p)], []) (fun z v hv => by
    simp only [mapF] at hv
    split at hv
    · simp at hv; exact hv.symm
    · simp at hv)
  rw [← l1] at hf
  have hs := hf.2 q (.inl h)
  have g0 : goesP nx p q 1 0 = true := by
    unfold goesP
    simp [levP, mapF, hne]
  have g1 : goesP nx p q 1 1 = false := by
    unfold goesP
    simp
  have hst : stopP nx p q 1 1 0 = 1 := by simp [stopP, g0, g1]
  have hfin : finP nx p q 1 = (levP nx p 1).1 := by
    unfold finP
    rw [show (1 : Int).toNat = 1 from rfl, hst]
  unfold pathM
  rw [hfin, if_pos hs]
  obtain ⟨v, hv⟩ := Option.isSome_iff_exists.1 hs
  obtain rfl := hf.1 q v hv
  have hlen : 0 < (levP nx v 1).1.length := by
    have := (mapF_idx (mapF_some.1 hs)).2.1
    omega
  obtain ⟨f, hfl⟩ : ∃ f, (levP nx v 1).1.length = f + 1 := ⟨(levP nx v 1).1.length - 1, by omega⟩
  rw [hfl]
  simp only [restP, if_neg hne, hv, Option.getD_some, restP_stop]
  rfl
theorem layI_mem (l : List Int) (id : Int) : id ∈ layI l id := by
  unfold layI
  split
  · rename_i h
    have : l.getD (kM l id) default ∈ l := by rw [List.getD_eq_getElem?_getD, List.getElem?_eq_getElem h.1]; exact List.getElem_mem _
    rw [h.2] at this
    exact this
  · simp
theorem layI_len (l : List Int) (id : Int) : (layI l id).length ≤ l.length + 1 := by
  have := kM_le l id
  unfold layI
  split
  · omega
  · simp; omega
theorem set_get (P : List (List Int)) (g : Nat) (r : List Int) (hg : g < P.length) : (P.set g r).getD g default = r := by
  rw [List.getD_eq_getElem?_getD, List.getElem?_set_self hg]; rfl
end Go.Proofs.Ytkkjlmcnfoncdaa.Aw

/- Law CycAdds. -/
set_option linter.unusedVariables false
set_option linter.unusedSimpArgs false
set_option linter.unusedSectionVars false
namespace Go.Proofs.Ytkkjlmcnfoncdaa.Aw
open Go Go.RowKit
set_option maxRecDepth 10000
attribute [local irreducible] AWp AOL QS One AOLg QSg NX QX TRg TX AllO Fin3
def memT (L : List Int) (q : Int) (k : Nat) : Bool := decide (q ∈ L.take k)
theorem memT_succ (L : List Int) (q : Int) (k : Nat) (h : k < L.length) : memT L q (k + 1) = (memT L q k || decide (L.getD k default = q)) := by
  unfold memT
  rw [takeS L k h, Bool.eq_iff_iff]
  simp only [decide_eq_true_eq, Bool.or_eq_true, List.mem_append, List.mem_singleton]
  exact ⟨fun h => h.imp id Eq.symm, fun h => h.imp id Eq.symm⟩
variable {A : Ar} (hA : A = real)
include hA
theorem one_c (b : Bool) : PureCalls Try.prog 25 [BP b] (IP (if b then 1 else 0)) := by
  refine PureCalls.of Try.func25 rfl (by kernel_rfl) rfl ?_
  cases b with
  | true =>
    try first | refine AOLg.of [] ?_ | refine QSg.of [] ?_
    repeat' (first | (refine AWp.pass ?_; first | refine AWp.seq ?_ | refine AWp.block ?_ | refine AWp.skip ?_ | refine AWp.regG [] Zc ?_ | refine AWp.cond_t rfl ?_ | refine AWp.cond_f rfl ?_ | (refine AWp.cond rfl ?_ ?_ <;> intro hc <;> (try rw [hc]) <;> ((try simp only [zn] at hc) <;> (try simp (disch := omega) only [zz hA, zb, zy, reduceCtorEq, Bool.false_eq_true, Int.reduceLT, Int.reduceLE, Int.reduceNeg] at hc) <;> (try simp only [zw] at hc)) <;> (try (exfalso; omega))) | refine AWp.exit ?_ | refine AWp.ret ⟨.inr rfl, _, RetOk.ev tabOk Zc, ?_⟩) | (refine AOLg.pass ?_; refine AOLg.nx hA tabOk Zc ?_; first | refine NX.done ?_ | refine NX.gt ?_ | refine NX.gf ?_ | (refine NX.gs ?_ ?_ <;> intro hc <;> rw [hc] <;> ((try simp only [zn] at hc) <;> (try simp (disch := omega) only [zz hA, zb, zy, reduceCtorEq, Bool.false_eq_true, Int.reduceLT, Int.reduceLE, Int.reduceNeg] at hc) <;> (try simp only [zw] at hc)) <;> (try (exfalso; omega))) | refine NX.raw ?_) | refine Thn.exit ?_ | refine Blk.here ?_ | refine Blk.other (by decide) ?_ | refine ⟨.inl rfl, _, RetOk.ev tabOk Zc, ?_⟩ | fail)
    all_goals (refine rPV_then (by conv => lhs; cbv) ?_; rfl)
  | false =>
    try first | refine AOLg.of [] ?_ | refine QSg.of [] ?_
    repeat' (first | (refine AWp.pass ?_; first | refine AWp.seq ?_ | refine AWp.block ?_ | refine AWp.skip ?_ | refine AWp.regG [] Zc ?_ | refine AWp.cond_t rfl ?_ | refine AWp.cond_f rfl ?_ | (refine AWp.cond rfl ?_ ?_ <;> intro hc <;> (try rw [hc]) <;> ((try simp only [zn] at hc) <;> (try simp (disch := omega) only [zz hA, zb, zy, reduceCtorEq, Bool.false_eq_true, Int.reduceLT, Int.reduceLE, Int.reduceNeg] at hc) <;> (try simp only [zw] at hc)) <;> (try (exfalso; omega))) | refine AWp.exit ?_ | refine AWp.ret ⟨.inr rfl, _, RetOk.ev tabOk Zc, ?_⟩) | (refine AOLg.pass ?_; refine AOLg.nx hA tabOk Zc ?_; first | refine NX.done ?_ | refine NX.gt ?_ | refine NX.gf ?_ | (refine NX.gs ?_ ?_ <;> intro hc <;> rw [hc] <;> ((try simp only [zn] at hc) <;> (try simp (disch := omega) only [zz hA, zb, zy, reduceCtorEq, Bool.false_eq_true, Int.reduceLT, Int.reduceLE, Int.reduceNeg] at hc) <;> (try simp only [zw] at hc)) <;> (try (exfalso; omega))) | refine NX.raw ?_) | refine Thn.exit ?_ | refine Blk.here ?_ | refine Blk.other (by decide) ?_ | refine ⟨.inl rfl, _, RetOk.ev tabOk Zc, ?_⟩ | fail)
    all_goals (refine rPV_then (by conv => lhs; cbv) ?_; rfl)
set_option maxHeartbeats 4000000 in
theorem cadds_walk (l : List Sg) (K : List (List Int)) (S : List Int) (R V : List Int) (N : List (Int × Int)) (M : List Int) (P Q P' Q' : List (List Int)) (x y p q ax ay : Int) (L W : List Int) (hLl : L.length ≤ 1000000)
    (hof : PureCalls Try.prog 19 [slP A 2 (encG A) l, keyedPV A K S, grP A R V N M P Q] (BP true)) (hth : PureCalls Try.prog 20 [grP A R V N M P Q, .c (.sl 1 false [[.lit (.int .i64 x)], [.lit (.int .i64 y)]])] (BP true))
    (hax : PureCalls Try.prog 24 [keyedPV A K S, IP x] (IP (hid A ax))) (hay : PureCalls Try.prog 24 [keyedPV A K S, IP y] (IP (hid A ay)))
    (hadd : ∃ sz ex w b, PureCalls Try.prog 23 [keyedPV A K S, grP A R V N M P Q, .agg [.lit (.int .i64 (hid A ax)), .lit (.int .i64 (hid A ay))]] (.tup [grP A R V N M P' Q', .c (.sl sz ex w), BP b]))
    (fx : PureCalls Try.prog 15 [clP A V N M, IP x] (IP (hid A p))) (fy : PureCalls Try.prog 15 [clP A V N M, IP y] (IP (hid A q)))
    (hnx : PureCalls Try.prog 22 [keyedPV A K S, grP A R V N M P' Q', IP x] (intsP A L)) (hpa : PureCalls Try.prog 21 [keyedPV A K S, grP A R V N M P' Q', IP x, IP y, IP 1] (intsP A W))
    (hin : p ≠ q ↔ q ∈ L) (hW1 : p = q → W.length = 1) (hW2 : p ≠ q → W.length = 2) :
    PureCalls Try.prog 7 [.agg [.sl 2 false (hid A (List.map (encG A) l)), .sl 1 false (hid A (List.map (encK A) K)), .sl 1 false (hid A (List.map encI S)), .sl 1 false (hid A (List.map encI R)), .sl 1 false (hid A (List.map encI V)), .sl 2 false (hid A (List.map encN N)), .sl 1 false (hid A (List.map encI M)), .sl 1 false (hid A (List.map (encK A) P)), .sl 1 false (hid A (List.map (encK A) Q)), .lit (.int .i64 x), .lit (.int .i64 y)]] (BP true) := by
  have hsh := shown13_c hA
  obtain ⟨sz, ex, w, b, hadd⟩ := hadd
  refine PureCalls.of Try.func7 rfl (by kernel_rfl) rfl ?_
  try first | refine AOLg.of [] ?_ | refine QSg.of [] ?_
  repeat' (first | (refine AWp.pass ?_; first | refine AWp.seq ?_ | refine AWp.block ?_ | refine AWp.skip ?_ | refine AWp.regG [] Zc ?_ | refine AWp.cond_t rfl ?_ | refine AWp.cond_f rfl ?_ | (refine AWp.cond rfl ?_ ?_ <;> intro hc <;> (try rw [hc]) <;> ((try simp only [zn] at hc) <;> (try simp (disch := omega) only [zz hA, zb, zy, reduceCtorEq, Bool.false_eq_true, Int.reduceLT, Int.reduceLE, Int.reduceNeg] at hc) <;> (try simp only [zw] at hc)) <;> (try (exfalso; omega))) | refine AWp.exit ?_ | refine AWp.ret ⟨.inr rfl, _, RetOk.ev tabOk Zc, ?_⟩ | refine AWp.drawVG [] rfl (by decide +kernel) Zc ?_) | (refine AOLg.pass ?_; refine AOLg.nx hA tabOk Zc ?_; first | refine NX.done ?_ | refine NX.gt ?_ | refine NX.gf ?_ | (refine NX.gs ?_ ?_ <;> intro hc <;> rw [hc] <;> ((try simp only [zn] at hc) <;> (try simp (disch := omega) only [zz hA, zb, zy, reduceCtorEq, Bool.false_eq_true, Int.reduceLT, Int.reduceLE, Int.reduceNeg] at hc) <;> (try simp only [zw] at hc)) <;> (try (exfalso; omega))) | (refine NX.kC ?_; first | (with_reducible refine NX.call (hsh) ?_) | (with_reducible refine NX.call (hof) ?_) | (with_reducible refine NX.call (hth) ?_) | (with_reducible refine NX.call (hax) ?_) | (with_reducible refine NX.call (hay) ?_) | (with_reducible refine NX.call (hadd) ?_) | (with_reducible refine NX.call (fx) ?_) | (with_reducible refine NX.call (fy) ?_) | (with_reducible refine NX.call (hnx) ?_) | ((first | refine NX.call (hsh) ?_ | refine NX.call (hof) ?_ | refine NX.call (hth) ?_ | refine NX.call (hax) ?_ | refine NX.call (hay) ?_ | refine NX.call (hadd) ?_ | refine NX.call (fx) ?_ | refine NX.call (fy) ?_ | refine NX.call (hnx) ?_)) | fail) | (refine NX.kO ?_; (first | refine NX.callO (hsh) (by simp [allEq]) rfl ?_ | refine NX.callO (hof) (by simp [allEq]) rfl ?_ | refine NX.callO (hth) (by simp [allEq]) rfl ?_ | refine NX.callO (hax) (by simp [allEq]) rfl ?_ | refine NX.callO (hay) (by simp [allEq]) rfl ?_ | refine NX.callO (hadd) (by simp [allEq]) rfl ?_ | refine NX.callO (fx) (by simp [allEq]) rfl ?_ | refine NX.callO (fy) (by simp [allEq]) rfl ?_ | refine NX.callO (hnx) (by simp [allEq]) rfl ?_)) | refine NX.k 1 (NX.one Z1 ?_) | refine NX.k 7 (NX.one Z7 ?_) | refine NX.k 8 (NX.one Z8 ?_) | refine NX.k 9 (NX.one Z9 ?_) | refine NX.k 10 (NX.one Z10 ?_) | refine NX.k 14 (NX.one Z14 ?_) | refine NX.k 15 (NX.one Z15 ?_) | refine NX.k 17 (NX.one Z17 ?_) | refine NX.k 18 (NX.one Z18 ?_) | (refine NX.one (One.buildArr tabOk rfl rfl rfl rfl rfl rfl) ?_) | refine NX.raw ?_) | (refine TRg.pass ?_; refine TRg.nx hA tabOk Zc ?_; first | refine TX.done ?_ | refine TX.gt ?_ | refine TX.gf ?_ | (refine TX.gs ?_ ?_ <;> intro hc <;> rw [hc] <;> ((try simp only [zn] at hc) <;> (try simp (disch := omega) only [zz hA, zb, zy, reduceCtorEq, Bool.false_eq_true, Int.reduceLT, Int.reduceLE, Int.reduceNeg] at hc) <;> (try simp only [zw] at hc)) <;> (try (exfalso; omega))) | (refine TX.kC ?_; first | (with_reducible refine TX.call (hsh) ?_) | (with_reducible refine TX.call (hof) ?_) | (with_reducible refine TX.call (hth) ?_) | (with_reducible refine TX.call (hax) ?_) | (with_reducible refine TX.call (hay) ?_) | (with_reducible refine TX.call (hadd) ?_) | (with_reducible refine TX.call (fx) ?_) | (with_reducible refine TX.call (fy) ?_) | (with_reducible refine TX.call (hnx) ?_) | ((first | refine TX.call (hsh) ?_ | refine TX.call (hof) ?_ | refine TX.call (hth) ?_ | refine TX.call (hax) ?_ | refine TX.call (hay) ?_ | refine TX.call (hadd) ?_ | refine TX.call (fx) ?_ | refine TX.call (fy) ?_ | refine TX.call (hnx) ?_)) | fail) | (refine TX.kO ?_; (first | refine TX.callO (hsh) (by simp [allEq]) rfl ?_ | refine TX.callO (hof) (by simp [allEq]) rfl ?_ | refine TX.callO (hth) (by simp [allEq]) rfl ?_ | refine TX.callO (hax) (by simp [allEq]) rfl ?_ | refine TX.callO (hay) (by simp [allEq]) rfl ?_ | refine TX.callO (hadd) (by simp [allEq]) rfl ?_ | refine TX.callO (fx) (by simp [allEq]) rfl ?_ | refine TX.callO (fy) (by simp [allEq]) rfl ?_ | refine TX.callO (hnx) (by simp [allEq]) rfl ?_)) | refine TX.k 1 (TX.one Z1 ?_) | refine TX.k 7 (TX.one Z7 ?_) | refine TX.k 8 (TX.one Z8 ?_) | refine TX.k 9 (TX.one Z9 ?_) | refine TX.k 10 (TX.one Z10 ?_) | refine TX.k 14 (TX.one Z14 ?_) | refine TX.k 15 (TX.one Z15 ?_) | refine TX.k 17 (TX.one Z17 ?_) | refine TX.k 18 (TX.one Z18 ?_) | (refine TX.one (One.buildArr tabOk rfl rfl rfl rfl rfl rfl) ?_) | refine TX.raw ?_) | refine Fin3.of Zc (by repeat' (first | exact True.intro | exact rfl | refine And.intro ?_ ?_)) ?_ ?_ | (refine AllO.pass ?_; first | exact AllO.nil | (refine AllO.cons (One.ev hA tabOk ?_) ?_ <;> (first | refine AllO.pass ?_ | ((conv => lhs; cbv); done))) | (refine AllO.cons (One.skipB ?_) ?_ <;> (first | refine AllO.pass ?_ | ((conv => lhs; cbv); done))) | ((with_reducible refine AllO.call Zc (hsh) ?_ ?_) <;> (first | refine AllO.pass ?_ | exact rfl | exact Zd)) | ((with_reducible refine AllO.call Zc (hof) ?_ ?_) <;> (first | refine AllO.pass ?_ | exact rfl | exact Zd)) | ((with_reducible refine AllO.call Zc (hth) ?_ ?_) <;> (first | refine AllO.pass ?_ | exact rfl | exact Zd)) | ((with_reducible refine AllO.call Zc (hax) ?_ ?_) <;> (first | refine AllO.pass ?_ | exact rfl | exact Zd)) | ((with_reducible refine AllO.call Zc (hay) ?_ ?_) <;> (first | refine AllO.pass ?_ | exact rfl | exact Zd)) | ((with_reducible refine AllO.call Zc (hadd) ?_ ?_) <;> (first | refine AllO.pass ?_ | exact rfl | exact Zd)) | ((with_reducible refine AllO.call Zc (fx) ?_ ?_) <;> (first | refine AllO.pass ?_ | exact rfl | exact Zd)) | ((with_reducible refine AllO.call Zc (fy) ?_ ?_) <;> (first | refine AllO.pass ?_ | exact rfl | exact Zd)) | ((with_reducible refine AllO.call Zc (hnx) ?_ ?_) <;> (first | refine AllO.pass ?_ | exact rfl | exact Zd)) | refine AllO.consX ZX rfl rfl ?_ | ((refine AllO.consX (One.buildArr tabOk rfl rfl rfl rfl rfl rfl) rfl rfl ?_) <;> (first | refine AllO.pass ?_ | exact Zd))) | refine Thn.exit ?_ | refine Blk.here ?_ | refine Blk.other (by decide) ?_ | refine ⟨.inl rfl, _, RetOk.ev tabOk Zc, ?_⟩ | fail)
  all_goals try (exfalso; omega)
  refine AWp.loopU (fun k : Nat => [(16, .ic (.lit (.int .i64 (hid A (cN k))))), (15, .ic (.lit (.bool (hid A (memT L q k)))))]) (fun _ => _) (fun k => L.length - k) (fun k => k ≤ L.length) 0 (by conv => lhs; cbv) (Nat.zero_le _) (by ((repeat' (first | exact subE.nil | refine subE.cons rfl ?_ | refine subE.int rfl ?_ ?_ | refine subE.bool rfl ?_ ?_ | refine subE.str rfl ?_ ?_ | refine subE.sl rfl ?_ ?_))) <;> simp [hA, real, hid, cN, memT]) rfl ?_
  intro k hk
  by_cases hkl : k < L.length
  · have hs := memT_succ L q k hkl
    cases hm : memT L q k with
    | true =>
      rw [hm, Bool.true_or] at hs
      rw [hid_eq hA (α := Bool)]
      try first | refine AOLg.of [] ?_ | refine QSg.of [] ?_
      repeat' (first | (refine AWp.pass ?_; first | refine AWp.seq ?_ | refine AWp.block ?_ | refine AWp.skip ?_ | refine AWp.regG [] Zc ?_ | refine AWp.cond_t rfl ?_ | refine AWp.cond_f rfl ?_ | (refine AWp.cond rfl ?_ ?_ <;> intro hc <;> (try rw [hc]) <;> ((try simp only [zn] at hc) <;> (try simp (disch := omega) only [zz hA, zb, zy, reduceCtorEq, Bool.false_eq_true, Int.reduceLT, Int.reduceLE, Int.reduceNeg] at hc) <;> (try simp only [zw] at hc)) <;> (try (exfalso; omega))) | refine AWp.exit ?_ | refine AWp.ret ⟨.inr rfl, _, RetOk.ev tabOk Zc, ?_⟩ | refine AWp.drawVG [] rfl (by decide +kernel) Zc ?_) | (refine AOLg.pass ?_; refine AOLg.nx hA tabOk Zc ?_; first | refine NX.done ?_ | refine NX.gt ?_ | refine NX.gf ?_ | (refine NX.gs ?_ ?_ <;> intro hc <;> rw [hc] <;> ((try simp only [zn] at hc) <;> (try simp (disch := omega) only [zz hA, zb, zy, reduceCtorEq, Bool.false_eq_true, Int.reduceLT, Int.reduceLE, Int.reduceNeg] at hc) <;> (try simp only [zw] at hc)) <;> (try (exfalso; omega))) | refine NX.k 1 (NX.one Z1 ?_) | refine NX.k 7 (NX.one Z7 ?_) | refine NX.k 8 (NX.one Z8 ?_) | refine NX.k 9 (NX.one Z9 ?_) | refine NX.k 10 (NX.one Z10 ?_) | refine NX.k 14 (NX.one Z14 ?_) | refine NX.k 15 (NX.one Z15 ?_) | refine NX.k 17 (NX.one Z17 ?_) | refine NX.k 18 (NX.one Z18 ?_) | refine NX.raw ?_) | (refine TRg.pass ?_; refine TRg.nx hA tabOk Zc ?_; first | refine TX.done ?_ | refine TX.gt ?_ | refine TX.gf ?_ | (refine TX.gs ?_ ?_ <;> intro hc <;> rw [hc] <;> ((try simp only [zn] at hc) <;> (try simp (disch := omega) only [zz hA, zb, zy, reduceCtorEq, Bool.false_eq_true, Int.reduceLT, Int.reduceLE, Int.reduceNeg] at hc) <;> (try simp only [zw] at hc)) <;> (try (exfalso; omega))) | refine TX.k 1 (TX.one Z1 ?_) | refine TX.k 7 (TX.one Z7 ?_) | refine TX.k 8 (TX.one Z8 ?_) | refine TX.k 9 (TX.one Z9 ?_) | refine TX.k 10 (TX.one Z10 ?_) | refine TX.k 14 (TX.one Z14 ?_) | refine TX.k 15 (TX.one Z15 ?_) | refine TX.k 17 (TX.one Z17 ?_) | refine TX.k 18 (TX.one Z18 ?_) | refine TX.raw ?_) | refine Fin3.of Zc (by repeat' (first | exact True.intro | exact rfl | refine And.intro ?_ ?_)) ?_ ?_ | (refine AllO.pass ?_; first | exact AllO.nil | (refine AllO.cons (One.ev hA tabOk ?_) ?_ <;> (first | refine AllO.pass ?_ | ((conv => lhs; cbv); done))) | (refine AllO.cons (One.skipB ?_) ?_ <;> (first | refine AllO.pass ?_ | ((conv => lhs; cbv); done))) | refine AllO.consX ZX rfl rfl ?_) | refine Thn.exit ?_ | refine Blk.here ?_ | refine Blk.other (by decide) ?_ | refine ⟨.inl rfl, _, RetOk.ev tabOk Zc, ?_⟩ | fail)
      all_goals try (exfalso; omega)
      all_goals
        refine ⟨k + 1, ?_, ?_, rfl, rfl, ?_, Zk⟩
        · omega
        · omega
        · (repeat' (first | exact subE.nil | refine subE.cons rfl ?_ | refine subE.int rfl ?_ ?_ | refine subE.bool rfl ?_ ?_ | refine subE.str rfl ?_ ?_ | refine subE.sl rfl ?_ ?_))
          · exact Zd
          · rw [hs]; simp only [hid_eq hA, rhid hA, cN, Int.toNat_natCast]; try simp [hA, real]
    | false =>
      rw [hm, Bool.false_or] at hs
      rw [hid_eq hA (α := Bool)]
      by_cases he : L.getD k default = q
      · rw [decide_eq_true he] at hs
        try first | refine AOLg.of [] ?_ | refine QSg.of [] ?_
        repeat' (first | (refine AWp.pass ?_; first | refine AWp.seq ?_ | refine AWp.block ?_ | refine AWp.skip ?_ | refine AWp.regG [] Zc ?_ | refine AWp.cond_t rfl ?_ | refine AWp.cond_f rfl ?_ | (refine AWp.cond rfl ?_ ?_ <;> intro hc <;> (try rw [hc]) <;> ((try simp only [zn] at hc) <;> (try simp (disch := omega) only [zz hA, zb, zy, reduceCtorEq, Bool.false_eq_true, Int.reduceLT, Int.reduceLE, Int.reduceNeg] at hc) <;> (try simp only [zw] at hc)) <;> (try (exfalso; omega))) | refine AWp.exit ?_ | refine AWp.ret ⟨.inr rfl, _, RetOk.ev tabOk Zc, ?_⟩ | refine AWp.drawVG [] rfl (by decide +kernel) Zc ?_) | (refine AOLg.pass ?_; refine AOLg.nx hA tabOk Zc ?_; first | refine NX.done ?_ | refine NX.gt ?_ | refine NX.gf ?_ | (refine NX.gs ?_ ?_ <;> intro hc <;> rw [hc] <;> ((try simp only [zn] at hc) <;> (try simp (disch := omega) only [zz hA, zb, zy, reduceCtorEq, Bool.false_eq_true, Int.reduceLT, Int.reduceLE, Int.reduceNeg] at hc) <;> (try simp only [zw] at hc)) <;> (try (exfalso; omega))) | refine NX.k 1 (NX.one Z1 ?_) | refine NX.k 7 (NX.one Z7 ?_) | refine NX.k 8 (NX.one Z8 ?_) | refine NX.k 9 (NX.one Z9 ?_) | refine NX.k 10 (NX.one Z10 ?_) | refine NX.k 14 (NX.one Z14 ?_) | refine NX.k 15 (NX.one Z15 ?_) | refine NX.k 17 (NX.one Z17 ?_) | refine NX.k 18 (NX.one Z18 ?_) | refine NX.raw ?_) | (refine TRg.pass ?_; refine TRg.nx hA tabOk Zc ?_; first | refine TX.done ?_ | refine TX.gt ?_ | refine TX.gf ?_ | (refine TX.gs ?_ ?_ <;> intro hc <;> rw [hc] <;> ((try simp only [zn] at hc) <;> (try simp (disch := omega) only [zz hA, zb, zy, reduceCtorEq, Bool.false_eq_true, Int.reduceLT, Int.reduceLE, Int.reduceNeg] at hc) <;> (try simp only [zw] at hc)) <;> (try (exfalso; omega))) | refine TX.k 1 (TX.one Z1 ?_) | refine TX.k 7 (TX.one Z7 ?_) | refine TX.k 8 (TX.one Z8 ?_) | refine TX.k 9 (TX.one Z9 ?_) | refine TX.k 10 (TX.one Z10 ?_) | refine TX.k 14 (TX.one Z14 ?_) | refine TX.k 15 (TX.one Z15 ?_) | refine TX.k 17 (TX.one Z17 ?_) | refine TX.k 18 (TX.one Z18 ?_) | refine TX.raw ?_) | refine Fin3.of Zc (by repeat' (first | exact True.intro | exact rfl | refine And.intro ?_ ?_)) ?_ ?_ | (refine AllO.pass ?_; first | exact AllO.nil | (refine AllO.cons (One.ev hA tabOk ?_) ?_ <;> (first | refine AllO.pass ?_ | ((conv => lhs; cbv); done))) | (refine AllO.cons (One.skipB ?_) ?_ <;> (first | refine AllO.pass ?_ | ((conv => lhs; cbv); done))) | refine AllO.consX ZX rfl rfl ?_) | refine Thn.exit ?_ | refine Blk.here ?_ | refine Blk.other (by decide) ?_ | refine ⟨.inl rfl, _, RetOk.ev tabOk Zc, ?_⟩ | fail)
        all_goals try (exfalso; omega)
        all_goals
          refine ⟨k + 1, ?_, ?_, rfl, rfl, ?_, Zk⟩
          · omega
          · omega
          · (repeat' (first | exact subE.nil | refine subE.cons rfl ?_ | refine subE.int rfl ?_ ?_ | refine subE.bool rfl ?_ ?_ | refine subE.str rfl ?_ ?_ | refine subE.sl rfl ?_ ?_))
            · exact Zd
            · rw [hs]; simp only [hid_eq hA, rhid hA, cN, Int.toNat_natCast]; try simp [hA, real]; try (simpa [List.getD_eq_getElem?_getD] using he)
      · rw [decide_eq_false he] at hs
        try first | refine AOLg.of [] ?_ | refine QSg.of [] ?_
        repeat' (first | (refine AWp.pass ?_; first | refine AWp.seq ?_ | refine AWp.block ?_ | refine AWp.skip ?_ | refine AWp.regG [] Zc ?_ | refine AWp.cond_t rfl ?_ | refine AWp.cond_f rfl ?_ | (refine AWp.cond rfl ?_ ?_ <;> intro hc <;> (try rw [hc]) <;> ((try simp only [zn] at hc) <;> (try simp (disch := omega) only [zz hA, zb, zy, reduceCtorEq, Bool.false_eq_true, Int.reduceLT, Int.reduceLE, Int.reduceNeg] at hc) <;> (try simp only [zw] at hc)) <;> (try (exfalso; omega))) | refine AWp.exit ?_ | refine AWp.ret ⟨.inr rfl, _, RetOk.ev tabOk Zc, ?_⟩ | refine AWp.drawVG [] rfl (by decide +kernel) Zc ?_) | (refine AOLg.pass ?_; refine AOLg.nx hA tabOk Zc ?_; first | refine NX.done ?_ | refine NX.gt ?_ | refine NX.gf ?_ | (refine NX.gs ?_ ?_ <;> intro hc <;> rw [hc] <;> ((try simp only [zn] at hc) <;> (try simp (disch := omega) only [zz hA, zb, zy, reduceCtorEq, Bool.false_eq_true, Int.reduceLT, Int.reduceLE, Int.reduceNeg] at hc) <;> (try simp only [zw] at hc)) <;> (try (exfalso; omega))) | refine NX.k 1 (NX.one Z1 ?_) | refine NX.k 7 (NX.one Z7 ?_) | refine NX.k 8 (NX.one Z8 ?_) | refine NX.k 9 (NX.one Z9 ?_) | refine NX.k 10 (NX.one Z10 ?_) | refine NX.k 14 (NX.one Z14 ?_) | refine NX.k 15 (NX.one Z15 ?_) | refine NX.k 17 (NX.one Z17 ?_) | refine NX.k 18 (NX.one Z18 ?_) | refine NX.raw ?_) | (refine TRg.pass ?_; refine TRg.nx hA tabOk Zc ?_; first | refine TX.done ?_ | refine TX.gt ?_ | refine TX.gf ?_ | (refine TX.gs ?_ ?_ <;> intro hc <;> rw [hc] <;> ((try simp only [zn] at hc) <;> (try simp (disch := omega) only [zz hA, zb, zy, reduceCtorEq, Bool.false_eq_true, Int.reduceLT, Int.reduceLE, Int.reduceNeg] at hc) <;> (try simp only [zw] at hc)) <;> (try (exfalso; omega))) | refine TX.k 1 (TX.one Z1 ?_) | refine TX.k 7 (TX.one Z7 ?_) | refine TX.k 8 (TX.one Z8 ?_) | refine TX.k 9 (TX.one Z9 ?_) | refine TX.k 10 (TX.one Z10 ?_) | refine TX.k 14 (TX.one Z14 ?_) | refine TX.k 15 (TX.one Z15 ?_) | refine TX.k 17 (TX.one Z17 ?_) | refine TX.k 18 (TX.one Z18 ?_) | refine TX.raw ?_) | refine Fin3.of Zc (by repeat' (first | exact True.intro | exact rfl | refine And.intro ?_ ?_)) ?_ ?_ | (refine AllO.pass ?_; first | exact AllO.nil | (refine AllO.cons (One.ev hA tabOk ?_) ?_ <;> (first | refine AllO.pass ?_ | ((conv => lhs; cbv); done))) | (refine AllO.cons (One.skipB ?_) ?_ <;> (first | refine AllO.pass ?_ | ((conv => lhs; cbv); done))) | refine AllO.consX ZX rfl rfl ?_) | refine Thn.exit ?_ | refine Blk.here ?_ | refine Blk.other (by decide) ?_ | refine ⟨.inl rfl, _, RetOk.ev tabOk Zc, ?_⟩ | fail)
        all_goals try (exfalso; omega)
        all_goals
          refine ⟨k + 1, ?_, ?_, rfl, rfl, ?_, Zk⟩
          · omega
          · omega
          · (repeat' (first | exact subE.nil | refine subE.cons rfl ?_ | refine subE.int rfl ?_ ?_ | refine subE.bool rfl ?_ ?_ | refine subE.str rfl ?_ ?_ | refine subE.sl rfl ?_ ?_))
            · exact Zd
            · rw [hs]; simp only [hid_eq hA, rhid hA, cN, Int.toNat_natCast]; try simp [hA, real]; try (simpa [List.getD_eq_getElem?_getD] using he)
  · have hmf : memT L q k = decide (q ∈ L) := by unfold memT; rw [List.take_of_length_le (by omega)]
    rw [hmf]
    by_cases hpq : p = q
    · rw [decide_eq_false (fun h => hin.2 h hpq), hid_eq hA (α := Bool)]
      have hw := hW1 hpq
      have h1 : ∀ z : Bool, z = false → PureCalls Try.prog 25 [BP z] (IP 0) := by rintro z rfl; exact one_c hA false
      subst hpq
      try first | refine AOLg.of [] ?_ | refine QSg.of [] ?_
      repeat' (first | (refine AWp.pass ?_; first | refine AWp.seq ?_ | refine AWp.block ?_ | refine AWp.skip ?_ | refine AWp.regG [] Zc ?_ | refine AWp.cond_t rfl ?_ | refine AWp.cond_f rfl ?_ | (refine AWp.cond rfl ?_ ?_ <;> intro hc <;> (try rw [hc]) <;> ((try simp only [zn] at hc) <;> (try simp (disch := omega) only [zz hA, zb, zy, reduceCtorEq, Bool.false_eq_true, Int.reduceLT, Int.reduceLE, Int.reduceNeg] at hc) <;> (try simp only [zw] at hc)) <;> (try (exfalso; omega))) | refine AWp.exit ?_ | refine AWp.ret ⟨.inr rfl, _, RetOk.ev tabOk Zc, ?_⟩ | refine AWp.drawVG [] rfl (by decide +kernel) Zc ?_) | (refine AOLg.pass ?_; refine AOLg.nx hA tabOk Zc ?_; first | refine NX.done ?_ | refine NX.gt ?_ | refine NX.gf ?_ | (refine NX.gs ?_ ?_ <;> intro hc <;> rw [hc] <;> ((try simp only [zn] at hc) <;> (try simp (disch := omega) only [zz hA, zb, zy, reduceCtorEq, Bool.false_eq_true, Int.reduceLT, Int.reduceLE, Int.reduceNeg] at hc) <;> (try simp only [zw] at hc)) <;> (try (exfalso; omega))) | (refine NX.kC ?_; first | (with_reducible refine NX.call (hpa) ?_) | (with_reducible refine NX.call (h1 _ (by simp only [rhid hA, hid_eq hA]; simp [hA, real])) ?_) | ((first | refine NX.call (hpa) ?_ | refine NX.call (h1 _ (by simp only [rhid hA, hid_eq hA]; simp [hA, real])) ?_)) | fail) | (refine NX.kO ?_; (first | refine NX.callO (hpa) (by simp [allEq]) rfl ?_ | refine NX.callO (h1 _ (by simp only [rhid hA, hid_eq hA]; simp [hA, real])) (by simp [allEq]) rfl ?_)) | refine NX.k 1 (NX.one Z1 ?_) | refine NX.k 7 (NX.one Z7 ?_) | refine NX.k 8 (NX.one Z8 ?_) | refine NX.k 9 (NX.one Z9 ?_) | refine NX.k 10 (NX.one Z10 ?_) | refine NX.k 14 (NX.one Z14 ?_) | refine NX.k 15 (NX.one Z15 ?_) | refine NX.k 17 (NX.one Z17 ?_) | refine NX.k 18 (NX.one Z18 ?_) | refine NX.raw ?_) | (refine TRg.pass ?_; refine TRg.nx hA tabOk Zc ?_; first | refine TX.done ?_ | refine TX.gt ?_ | refine TX.gf ?_ | (refine TX.gs ?_ ?_ <;> intro hc <;> rw [hc] <;> ((try simp only [zn] at hc) <;> (try simp (disch := omega) only [zz hA, zb, zy, reduceCtorEq, Bool.false_eq_true, Int.reduceLT, Int.reduceLE, Int.reduceNeg] at hc) <;> (try simp only [zw] at hc)) <;> (try (exfalso; omega))) | (refine TX.kC ?_; first | (with_reducible refine TX.call (hpa) ?_) | (with_reducible refine TX.call (h1 _ (by simp only [rhid hA, hid_eq hA]; simp [hA, real])) ?_) | ((first | refine TX.call (hpa) ?_ | refine TX.call (h1 _ (by simp only [rhid hA, hid_eq hA]; simp [hA, real])) ?_)) | fail) | (refine TX.kO ?_; (first | refine TX.callO (hpa) (by simp [allEq]) rfl ?_ | refine TX.callO (h1 _ (by simp only [rhid hA, hid_eq hA]; simp [hA, real])) (by simp [allEq]) rfl ?_)) | refine TX.k 1 (TX.one Z1 ?_) | refine TX.k 7 (TX.one Z7 ?_) | refine TX.k 8 (TX.one Z8 ?_) | refine TX.k 9 (TX.one Z9 ?_) | refine TX.k 10 (TX.one Z10 ?_) | refine TX.k 14 (TX.one Z14 ?_) | refine TX.k 15 (TX.one Z15 ?_) | refine TX.k 17 (TX.one Z17 ?_) | refine TX.k 18 (TX.one Z18 ?_) | refine TX.raw ?_) | refine Fin3.of Zc (by repeat' (first | exact True.intro | exact rfl | refine And.intro ?_ ?_)) ?_ ?_ | (refine AllO.pass ?_; first | exact AllO.nil | (refine AllO.cons (One.ev hA tabOk ?_) ?_ <;> (first | refine AllO.pass ?_ | ((conv => lhs; cbv); done))) | (refine AllO.cons (One.skipB ?_) ?_ <;> (first | refine AllO.pass ?_ | ((conv => lhs; cbv); done))) | ((with_reducible refine AllO.call Zc (hpa) ?_ ?_) <;> (first | refine AllO.pass ?_ | exact rfl | exact Zd)) | ((with_reducible refine AllO.call Zc (h1 _ (by simp only [rhid hA, hid_eq hA]; simp [hA, real])) ?_ ?_) <;> (first | refine AllO.pass ?_ | exact rfl | exact Zd)) | refine AllO.consX ZX rfl rfl ?_) | refine Thn.exit ?_ | refine Blk.here ?_ | refine Blk.other (by decide) ?_ | refine ⟨.inl rfl, _, RetOk.ev tabOk Zc, ?_⟩ | fail)
      all_goals first | exact Ze | trace_state
    · rw [decide_eq_true (hin.1 hpq), hid_eq hA (α := Bool)]
      have hw := hW2 hpq
      have h1 : ∀ z : Bool, z = true → PureCalls Try.prog 25 [BP z] (IP 1) := by rintro z rfl; exact one_c hA true
      try first | refine AOLg.of [] ?_ | refine QSg.of [] ?_
      repeat' (first | (refine AWp.pass ?_; first | refine AWp.seq ?_ | refine AWp.block ?_ | refine AWp.skip ?_ | refine AWp.regG [] Zc ?_ | refine AWp.cond_t rfl ?_ | refine AWp.cond_f rfl ?_ | (refine AWp.cond rfl ?_ ?_ <;> intro hc <;> (try rw [hc]) <;> ((try simp only [zn] at hc) <;> (try simp (disch := omega) only [zz hA, zb, zy, reduceCtorEq, Bool.false_eq_true, Int.reduceLT, Int.reduceLE, Int.reduceNeg] at hc) <;> (try simp only [zw] at hc)) <;> (try (exfalso; omega))) | refine AWp.exit ?_ | refine AWp.ret ⟨.inr rfl, _, RetOk.ev tabOk Zc, ?_⟩ | refine AWp.drawVG [] rfl (by decide +kernel) Zc ?_) | (refine AOLg.pass ?_; refine AOLg.nx hA tabOk Zc ?_; first | refine NX.done ?_ | refine NX.gt ?_ | refine NX.gf ?_ | (refine NX.gs ?_ ?_ <;> intro hc <;> rw [hc] <;> ((try simp only [zn] at hc) <;> (try simp (disch := omega) only [zz hA, zb, zy, reduceCtorEq, Bool.false_eq_true, Int.reduceLT, Int.reduceLE, Int.reduceNeg] at hc) <;> (try simp only [zw] at hc)) <;> (try (exfalso; omega))) | (refine NX.kC ?_; first | (with_reducible refine NX.call (hpa) ?_) | (with_reducible refine NX.call (h1 _ (by simp only [rhid hA, hid_eq hA]; simp [hA, real, hpq])) ?_) | ((first | refine NX.call (hpa) ?_ | refine NX.call (h1 _ (by simp only [rhid hA, hid_eq hA]; simp [hA, real, hpq])) ?_)) | fail) | (refine NX.kO ?_; (first | refine NX.callO (hpa) (by simp [allEq]) rfl ?_ | refine NX.callO (h1 _ (by simp only [rhid hA, hid_eq hA]; simp [hA, real, hpq])) (by simp [allEq]) rfl ?_)) | refine NX.k 1 (NX.one Z1 ?_) | refine NX.k 7 (NX.one Z7 ?_) | refine NX.k 8 (NX.one Z8 ?_) | refine NX.k 9 (NX.one Z9 ?_) | refine NX.k 10 (NX.one Z10 ?_) | refine NX.k 14 (NX.one Z14 ?_) | refine NX.k 15 (NX.one Z15 ?_) | refine NX.k 17 (NX.one Z17 ?_) | refine NX.k 18 (NX.one Z18 ?_) | refine NX.raw ?_) | (refine TRg.pass ?_; refine TRg.nx hA tabOk Zc ?_; first | refine TX.done ?_ | refine TX.gt ?_ | refine TX.gf ?_ | (refine TX.gs ?_ ?_ <;> intro hc <;> rw [hc] <;> ((try simp only [zn] at hc) <;> (try simp (disch := omega) only [zz hA, zb, zy, reduceCtorEq, Bool.false_eq_true, Int.reduceLT, Int.reduceLE, Int.reduceNeg] at hc) <;> (try simp only [zw] at hc)) <;> (try (exfalso; omega))) | (refine TX.kC ?_; first | (with_reducible refine TX.call (hpa) ?_) | (with_reducible refine TX.call (h1 _ (by simp only [rhid hA, hid_eq hA]; simp [hA, real, hpq])) ?_) | ((first | refine TX.call (hpa) ?_ | refine TX.call (h1 _ (by simp only [rhid hA, hid_eq hA]; simp [hA, real, hpq])) ?_)) | fail) | (refine TX.kO ?_; (first | refine TX.callO (hpa) (by simp [allEq]) rfl ?_ | refine TX.callO (h1 _ (by simp only [rhid hA, hid_eq hA]; simp [hA, real, hpq])) (by simp [allEq]) rfl ?_)) | refine TX.k 1 (TX.one Z1 ?_) | refine TX.k 7 (TX.one Z7 ?_) | refine TX.k 8 (TX.one Z8 ?_) | refine TX.k 9 (TX.one Z9 ?_) | refine TX.k 10 (TX.one Z10 ?_) | refine TX.k 14 (TX.one Z14 ?_) | refine TX.k 15 (TX.one Z15 ?_) | refine TX.k 17 (TX.one Z17 ?_) | refine TX.k 18 (TX.one Z18 ?_) | refine TX.raw ?_) | refine Fin3.of Zc (by repeat' (first | exact True.intro | exact rfl | refine And.intro ?_ ?_)) ?_ ?_ | (refine AllO.pass ?_; first | exact AllO.nil | (refine AllO.cons (One.ev hA tabOk ?_) ?_ <;> (first | refine AllO.pass ?_ | ((conv => lhs; cbv); done))) | (refine AllO.cons (One.skipB ?_) ?_ <;> (first | refine AllO.pass ?_ | ((conv => lhs; cbv); done))) | ((with_reducible refine AllO.call Zc (hpa) ?_ ?_) <;> (first | refine AllO.pass ?_ | exact rfl | exact Zd)) | ((with_reducible refine AllO.call Zc (h1 _ (by simp only [rhid hA, hid_eq hA]; simp [hA, real, hpq])) ?_ ?_) <;> (first | refine AllO.pass ?_ | exact rfl | exact Zd)) | refine AllO.consX ZX rfl rfl ?_) | refine Thn.exit ?_ | refine Blk.here ?_ | refine Blk.other (by decide) ?_ | refine ⟨.inl rfl, _, RetOk.ev tabOk Zc, ?_⟩ | fail)
      all_goals first | exact Ze | trace_state
theorem cadds_law (l : List Sg) (hl : FitG l) (K : List (List Int)) (S : List Int) (hk : FitsK K S) (R V : List Int) (N : List (Int × Int)) (M : List Int) (P Q : List (List Int)) (hg : FitGr R V N M P Q) (x y : Int) :
    PureCalls Try.prog 7 [.agg [.sl 2 false (hid A (List.map (encG A) l)), .sl 1 false (hid A (List.map (encK A) K)), .sl 1 false (hid A (List.map encI S)), .sl 1 false (hid A (List.map encI R)), .sl 1 false (hid A (List.map encI V)), .sl 2 false (hid A (List.map encN N)), .sl 1 false (hid A (List.map encI M)), .sl 1 false (hid A (List.map (encK A) P)), .sl 1 false (hid A (List.map (encK A) Q)), .lit (.int .i64 x), .lit (.int .i64 y)]] (BP true) := by
  obtain ⟨b, hof, hb⟩ := of13_c hA l hl K S hk R V N M P Q hg
  cases b with
  | false =>
    have hsh := shown13_c hA
    refine PureCalls.of Try.func7 rfl (by kernel_rfl) rfl ?_
    try first | refine AOLg.of [] ?_ | refine QSg.of [] ?_
    repeat' (first | (refine AWp.pass ?_; first | refine AWp.seq ?_ | refine AWp.block ?_ | refine AWp.skip ?_ | refine AWp.regG [] Zc ?_ | refine AWp.cond_t rfl ?_ | refine AWp.cond_f rfl ?_ | (refine AWp.cond rfl ?_ ?_ <;> intro hc <;> (try rw [hc]) <;> ((try simp only [zn] at hc) <;> (try simp (disch := omega) only [zz hA, zb, zy, reduceCtorEq, Bool.false_eq_true, Int.reduceLT, Int.reduceLE, Int.reduceNeg] at hc) <;> (try simp only [zw] at hc)) <;> (try (exfalso; omega))) | refine AWp.exit ?_ | refine AWp.ret ⟨.inr rfl, _, RetOk.ev tabOk Zc, ?_⟩ | refine AWp.drawVG [] rfl (by decide +kernel) Zc ?_) | (refine AOLg.pass ?_; refine AOLg.nx hA tabOk Zc ?_; first | refine NX.done ?_ | refine NX.gt ?_ | refine NX.gf ?_ | (refine NX.gs ?_ ?_ <;> intro hc <;> rw [hc] <;> ((try simp only [zn] at hc) <;> (try simp (disch := omega) only [zz hA, zb, zy, reduceCtorEq, Bool.false_eq_true, Int.reduceLT, Int.reduceLE, Int.reduceNeg] at hc) <;> (try simp only [zw] at hc)) <;> (try (exfalso; omega))) | (refine NX.kC ?_; first | (with_reducible refine NX.call (hsh) ?_) | (with_reducible refine NX.call (hof) ?_) | ((first | refine NX.call (hsh) ?_ | refine NX.call (hof) ?_)) | fail) | (refine NX.kO ?_; (first | refine NX.callO (hsh) (by simp [allEq]) rfl ?_ | refine NX.callO (hof) (by simp [allEq]) rfl ?_)) | refine NX.k 1 (NX.one Z1 ?_) | refine NX.k 7 (NX.one Z7 ?_) | refine NX.k 8 (NX.one Z8 ?_) | refine NX.k 9 (NX.one Z9 ?_) | refine NX.k 10 (NX.one Z10 ?_) | refine NX.k 14 (NX.one Z14 ?_) | refine NX.k 15 (NX.one Z15 ?_) | refine NX.k 17 (NX.one Z17 ?_) | refine NX.k 18 (NX.one Z18 ?_) | refine NX.raw ?_) | (refine TRg.pass ?_; refine TRg.nx hA tabOk Zc ?_; first | refine TX.done ?_ | refine TX.gt ?_ | refine TX.gf ?_ | (refine TX.gs ?_ ?_ <;> intro hc <;> rw [hc] <;> ((try simp only [zn] at hc) <;> (try simp (disch := omega) only [zz hA, zb, zy, reduceCtorEq, Bool.false_eq_true, Int.reduceLT, Int.reduceLE, Int.reduceNeg] at hc) <;> (try simp only [zw] at hc)) <;> (try (exfalso; omega))) | (refine TX.kC ?_; first | (with_reducible refine TX.call (hsh) ?_) | (with_reducible refine TX.call (hof) ?_) | ((first | refine TX.call (hsh) ?_ | refine TX.call (hof) ?_)) | fail) | (refine TX.kO ?_; (first | refine TX.callO (hsh) (by simp [allEq]) rfl ?_ | refine TX.callO (hof) (by simp [allEq]) rfl ?_)) | refine TX.k 1 (TX.one Z1 ?_) | refine TX.k 7 (TX.one Z7 ?_) | refine TX.k 8 (TX.one Z8 ?_) | refine TX.k 9 (TX.one Z9 ?_) | refine TX.k 10 (TX.one Z10 ?_) | refine TX.k 14 (TX.one Z14 ?_) | refine TX.k 15 (TX.one Z15 ?_) | refine TX.k 17 (TX.one Z17 ?_) | refine TX.k 18 (TX.one Z18 ?_) | refine TX.raw ?_) | refine Fin3.of Zc (by repeat' (first | exact True.intro | exact rfl | refine And.intro ?_ ?_)) ?_ ?_ | (refine AllO.pass ?_; first | exact AllO.nil | (refine AllO.cons (One.ev hA tabOk ?_) ?_ <;> (first | refine AllO.pass ?_ | ((conv => lhs; cbv); done))) | (refine AllO.cons (One.skipB ?_) ?_ <;> (first | refine AllO.pass ?_ | ((conv => lhs; cbv); done))) | ((with_reducible refine AllO.call Zc (hsh) ?_ ?_) <;> (first | refine AllO.pass ?_ | exact rfl | exact Zd)) | ((with_reducible refine AllO.call Zc (hof) ?_ ?_) <;> (first | refine AllO.pass ?_ | exact rfl | exact Zd)) | refine AllO.consX ZX rfl rfl ?_) | refine Thn.exit ?_ | refine Blk.here ?_ | refine Blk.other (by decide) ?_ | refine ⟨.inl rfl, _, RetOk.ev tabOk Zc, ?_⟩ | fail)
    all_goals exact Ze
  | true =>
    obtain ⟨ho, h40⟩ := hb rfl
    obtain ⟨b1, b2, b3, b4, b5, b6, b7, b8⟩ := ho.len
    have hst := ho.st
    have hru := ho.ru
    have hal := ho.all
    clear hb ho
    by_cases hxy : (0 ≤ x ∧ x < V.length) ∧ (0 ≤ y ∧ y < V.length)
    · have hth := there2_c hA R V N M P Q x y true ((there_two V.length x y).2 hxy).symm
      obtain ⟨⟨x0, x1⟩, ⟨y0, y1⟩⟩ := hxy
      have fx := refFind_c hA V N M R hru x x0 x1 (by omega)
      have fy := refFind_c hA V N M R hru y y0 y1 (by omega)
      have hax := refAtV_c hA K S x
      have hay := refAtV_c hA K S y
      have rx := find_range hru x0 x1
      have ry := find_range hru y0 y1
      have ex := find_find hru x0 x1
      have ey := find_find hru y0 y1
      have ax := allV_get hal x0 x1
      have ay := allV_get hal y0 y1
      have ap := allV_get hal rx.1 rx.2
      have aq := allV_get hal ry.1 ry.2
      have nax := num_at (n := V.length) ax x1
      have nay := num_at (n := V.length) ay y1
      have hX : repM K V (atV K x) = atV K (findU V x) := by unfold repM; rw [nax, if_neg (by omega)]
      have hY : repM K V (atV K y) = atV K (findU V y) := by unfold repM; rw [nay, if_neg (by omega)]
      have nX := num_at (n := V.length) ap rx.2
      have nY := num_at (n := V.length) aq ry.2
      have fX : fstM K V (atV K (findU V x)) = findU V x := by unfold fstM; rw [nX, if_neg (by omega), ex]
      have fY : fstM K V (atV K (findU V y)) = findU V y := by unfold fstM; rw [nY, if_neg (by omega), ey]
      have hid2 : ∀ a b : Int, (PV.agg [.lit (.int .i64 (hid A a)), .lit (.int .i64 (hid A b))]) = PV.agg [.lit (.int .i64 a), .lit (.int .i64 b)] := fun a b => by rw [hid_eq hA, hid_eq hA]
      have hset : ∀ (T : List (List Int)) (g : Nat) (r : List Int), (∀ z ∈ T, z.length ≤ 1000) → r.length ≤ 1001 → ∀ z ∈ T.set g r, z.length ≤ 1000000 := fun T g r hT hr z hz => by
        rcases List.mem_or_eq_of_mem_set hz with h | h
        · have := hT z h; omega
        · rw [h]; omega
      have key : ∀ P' Q' : List (List Int), P'.length = V.length → Q'.length = V.length → (∀ z ∈ P', z.length ≤ 1000000) → (∀ z ∈ Q', z.length ≤ 1000000) →
          (∃ sz ex w b, PureCalls Try.prog 23 [keyedPV A K S, grP A R V N M P Q, .agg [.lit (.int .i64 (atV K x)), .lit (.int .i64 (atV K y))]] (.tup [grP A R V N M P' Q', .c (.sl sz ex w), BP b])) →
          (findU V x ≠ findU V y → (findU V x, findU V y) ∈ edgesM K V P' Q' V.length) → PureCalls Try.prog 7 [.agg [.sl 2 false (hid A (List.map (encG A) l)), .sl 1 false (hid A (List.map (encK A) K)), .sl 1 false (hid A (List.map encI S)), .sl 1 false (hid A (List.map encI R)), .sl 1 false (hid A (List.map encI V)), .sl 2 false (hid A (List.map encN N)), .sl 1 false (hid A (List.map encI M)), .sl 1 false (hid A (List.map (encK A) P)), .sl 1 false (hid A (List.map (encK A) Q)), .lit (.int .i64 x), .lit (.int .i64 y)]] (BP true) := by
        intro P' Q' hP' hQ' hPl hQl hadd hedge
        have hnx := next_c hA K S hst R V N M P' Q' hru (by omega) hP' hQ' hPl hQl x x0 x1
        have hpa := path_c hA K S hst R V N M P' Q' hru (by omega) hP' hQ' hPl hQl x y x0 x1 y0 y1 1 (by decide) (by decide)
        have hnl : (nextM K V P' Q' (findU V x)).length ≤ V.length := nodup_len V.length _ ((comp_lt (sortZ_le _)).imp fun h => by omega) (fun w hw => next_range hst.ok hru P' Q' _ w hw)
        have hin : findU V x ≠ findU V y ↔ findU V y ∈ nextM K V P' Q' (findU V x) := ⟨fun h => mem_next.2 ⟨hedge h, Ne.symm h⟩, fun h => Ne.symm (mem_next.1 h).2⟩
        refine cadds_walk hA l K S R V N M P Q P' Q' x y (findU V x) (findU V y) (atV K x) (atV K y) _ _ (by omega) hof hth hax hay ?_ fx fy hnx hpa hin (fun h => ?_) (fun h => ?_)
        · obtain ⟨sz, ex, w, b, h⟩ := hadd
          exact ⟨sz, ex, w, b, by rw [hid2]; exact h⟩
        · rw [h, path_self]; rfl
        · rw [path_one (hin.1 h |> fun hm => by unfold nxG; rw [ex]; exact hm) (Ne.symm h)]; rfl
      have hPl : ∀ z ∈ P, z.length ≤ 1000000 := fun z hz => by have := b7 z hz; omega
      have hQl : ∀ z ∈ Q, z.length ≤ 1000000 := fun z hz => by have := b8 z hz; omega
      by_cases hpq : findU V x = findU V y
      · refine key P Q b5 b6 hPl hQl ⟨_, _, _, _, refAdd_c1 hA K S hst R V N M P Q hru b2 (atV K x) (atV K y) (by rw [hX, hY, hpq])⟩ (fun h => absurd hpq h)
      · cases hls : lessM R (findU V y) (findU V x) with
        | true =>
          refine key P _ b5 (by rw [List.length_set]; exact b6) hPl (hset _ _ _ b8 ?_) (refAdd_c2 hA K S hst R V N M P Q hru b1 b2 b5 b6 b7 b8 (atV K x) (atV K y) _ _ _ _ hX hY nX nY rx.1 rx.2 ry.1 hpq hls) (fun _ => ?_)
          · have := layI_len (Q.getD (findU V x).toNat default) (atV K (findU V y))
            have := b8 (Q.getD (findU V x).toNat default) (by rw [List.getD_eq_getElem?_getD, List.getElem?_eq_getElem (by omega)]; exact List.getElem_mem _)
            omega
          · refine (mem_edges V.length).2 ⟨(findU V x).toNat, by omega, .inl ⟨by omega, atV K (findU V y), ?_, by omega, fY.symm⟩⟩
            rw [set_get _ _ _ (by omega)]
            exact layI_mem _ _
        | false =>
          have hls2 : lessM R (findU V x) (findU V y) = true := by
            rcases less_tri R hpq with h | h
            · exact h
            · rw [h] at hls; cases hls
          refine key _ Q (by rw [List.length_set]; exact b5) b6 (hset _ _ _ b7 ?_) hQl (refAdd_c3 hA K S hst R V N M P Q hru b1 b2 b5 b6 b7 b8 (atV K x) (atV K y) _ _ _ _ hX hY nX nY rx.1 ry.1 hpq hls hls2 ry.2) (fun _ => ?_)
          · have := layI_len (P.getD (findU V y).toNat default) (atV K (findU V x))
            have := b7 (P.getD (findU V y).toNat default) (by rw [List.getD_eq_getElem?_getD, List.getElem?_eq_getElem (by omega)]; exact List.getElem_mem _)
            omega
          · refine (mem_edges V.length).2 ⟨(findU V y).toNat, by omega, .inr ⟨by omega, atV K (findU V x), ?_, by omega, fX.symm⟩⟩
            rw [set_get _ _ _ (by omega)]
            exact layI_mem _ _
    · have hsh := shown13_c hA
      have hth := there2_c hA R V N M P Q x y false (by
        cases h : thereB V.length [x, y] with
        | false => rfl
        | true => exact absurd ((there_two V.length x y).1 h) hxy)
      refine PureCalls.of Try.func7 rfl (by kernel_rfl) rfl ?_
      try first | refine AOLg.of [] ?_ | refine QSg.of [] ?_
      repeat' (first | (refine AWp.pass ?_; first | refine AWp.seq ?_ | refine AWp.block ?_ | refine AWp.skip ?_ | refine AWp.regG [] Zc ?_ | refine AWp.cond_t rfl ?_ | refine AWp.cond_f rfl ?_ | (refine AWp.cond rfl ?_ ?_ <;> intro hc <;> (try rw [hc]) <;> ((try simp only [zn] at hc) <;> (try simp (disch := omega) only [zz hA, zb, zy, reduceCtorEq, Bool.false_eq_true, Int.reduceLT, Int.reduceLE, Int.reduceNeg] at hc) <;> (try simp only [zw] at hc)) <;> (try (exfalso; omega))) | refine AWp.exit ?_ | refine AWp.ret ⟨.inr rfl, _, RetOk.ev tabOk Zc, ?_⟩ | refine AWp.drawVG [] rfl (by decide +kernel) Zc ?_) | (refine AOLg.pass ?_; refine AOLg.nx hA tabOk Zc ?_; first | refine NX.done ?_ | refine NX.gt ?_ | refine NX.gf ?_ | (refine NX.gs ?_ ?_ <;> intro hc <;> rw [hc] <;> ((try simp only [zn] at hc) <;> (try simp (disch := omega) only [zz hA, zb, zy, reduceCtorEq, Bool.false_eq_true, Int.reduceLT, Int.reduceLE, Int.reduceNeg] at hc) <;> (try simp only [zw] at hc)) <;> (try (exfalso; omega))) | (refine NX.kC ?_; first | (with_reducible refine NX.call (hsh) ?_) | (with_reducible refine NX.call (hof) ?_) | (with_reducible refine NX.call (hth) ?_) | ((first | refine NX.call (hsh) ?_ | refine NX.call (hof) ?_ | refine NX.call (hth) ?_)) | fail) | (refine NX.kO ?_; (first | refine NX.callO (hsh) (by simp [allEq]) rfl ?_ | refine NX.callO (hof) (by simp [allEq]) rfl ?_ | refine NX.callO (hth) (by simp [allEq]) rfl ?_)) | refine NX.k 1 (NX.one Z1 ?_) | refine NX.k 7 (NX.one Z7 ?_) | refine NX.k 8 (NX.one Z8 ?_) | refine NX.k 9 (NX.one Z9 ?_) | refine NX.k 10 (NX.one Z10 ?_) | refine NX.k 14 (NX.one Z14 ?_) | refine NX.k 15 (NX.one Z15 ?_) | refine NX.k 17 (NX.one Z17 ?_) | refine NX.k 18 (NX.one Z18 ?_) | refine NX.raw ?_) | (refine TRg.pass ?_; refine TRg.nx hA tabOk Zc ?_; first | refine TX.done ?_ | refine TX.gt ?_ | refine TX.gf ?_ | (refine TX.gs ?_ ?_ <;> intro hc <;> rw [hc] <;> ((try simp only [zn] at hc) <;> (try simp (disch := omega) only [zz hA, zb, zy, reduceCtorEq, Bool.false_eq_true, Int.reduceLT, Int.reduceLE, Int.reduceNeg] at hc) <;> (try simp only [zw] at hc)) <;> (try (exfalso; omega))) | (refine TX.kC ?_; first | (with_reducible refine TX.call (hsh) ?_) | (with_reducible refine TX.call (hof) ?_) | (with_reducible refine TX.call (hth) ?_) | ((first | refine TX.call (hsh) ?_ | refine TX.call (hof) ?_ | refine TX.call (hth) ?_)) | fail) | (refine TX.kO ?_; (first | refine TX.callO (hsh) (by simp [allEq]) rfl ?_ | refine TX.callO (hof) (by simp [allEq]) rfl ?_ | refine TX.callO (hth) (by simp [allEq]) rfl ?_)) | refine TX.k 1 (TX.one Z1 ?_) | refine TX.k 7 (TX.one Z7 ?_) | refine TX.k 8 (TX.one Z8 ?_) | refine TX.k 9 (TX.one Z9 ?_) | refine TX.k 10 (TX.one Z10 ?_) | refine TX.k 14 (TX.one Z14 ?_) | refine TX.k 15 (TX.one Z15 ?_) | refine TX.k 17 (TX.one Z17 ?_) | refine TX.k 18 (TX.one Z18 ?_) | refine TX.raw ?_) | refine Fin3.of Zc (by repeat' (first | exact True.intro | exact rfl | refine And.intro ?_ ?_)) ?_ ?_ | (refine AllO.pass ?_; first | exact AllO.nil | (refine AllO.cons (One.ev hA tabOk ?_) ?_ <;> (first | refine AllO.pass ?_ | ((conv => lhs; cbv); done))) | (refine AllO.cons (One.skipB ?_) ?_ <;> (first | refine AllO.pass ?_ | ((conv => lhs; cbv); done))) | ((with_reducible refine AllO.call Zc (hsh) ?_ ?_) <;> (first | refine AllO.pass ?_ | exact rfl | exact Zd)) | ((with_reducible refine AllO.call Zc (hof) ?_ ?_) <;> (first | refine AllO.pass ?_ | exact rfl | exact Zd)) | ((with_reducible refine AllO.call Zc (hth) ?_ ?_) <;> (first | refine AllO.pass ?_ | exact rfl | exact Zd)) | refine AllO.consX ZX rfl rfl ?_) | refine Thn.exit ?_ | refine Blk.here ?_ | refine Blk.other (by decide) ?_ | refine ⟨.inl rfl, _, RetOk.ev tabOk Zc, ?_⟩ | fail)
      all_goals exact Ze
end Go.Proofs.Ytkkjlmcnfoncdaa.Aw

/- The document's example of layer 12, part 2: its constraint. -/
set_option linter.unusedVariables false
set_option linter.unusedSimpArgs false
set_option linter.unusedSectionVars false
namespace Go.Proofs.Ytkkjlmcnfoncdaa.Aw
open Go Go.RowKit
set_option maxRecDepth 10000
attribute [local irreducible] AWp AOL QS One AOLg QSg NX QX TRg TX AllO Fin3
attribute [local irreducible] W.TRg W.TX W.AllO W.Fin3
abbrev gP2 (A : Ar) (P : List (List Int)) : PV := grP A [] [0, 1] [(-1, 0), (-1, 0)] [] P K2
variable {A : Ar} (hA : A = real)
include hA
end Go.Proofs.Ytkkjlmcnfoncdaa.Aw
