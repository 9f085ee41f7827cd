/- Texts of the proof, put together: the abstract walk, contracts of the functions that the statement reaches, plain laws, part 5 of 6. -/
import Derived.Test.YtgemcogfpkolfaaSBd
/- Contracts of package side, part 3: how a part varies; nodes from the last one on. -/
set_option linter.unusedVariables false
set_option linter.unusedSimpArgs false
set_option linter.unusedSectionVars false
namespace Go.Proofs.Ytgemcogfpkolfaa.Aw
open Go Go.RowKit
set_option maxRecDepth 10000
attribute [local irreducible] AWp AOL QS One AOLg QSg NX QX TRg TX AllO Fin3
variable {A : Ar} (hA : A = real)
include hA
theorem of1_c (k : Int) : PureCalls Try.prog 28 [IP k] (UP 43) := by
  refine PureCalls.of Try.func28 rfl (by kernel_rfl) rfl ?_
  try first | refine AOLg.of [] ?_ | refine QSg.of [] ?_
  repeat' (first
    | (refine AWp.pass ?_; first
        | refine AWp.seq ?_
        | refine AWp.block ?_
        | refine AWp.skip ?_
        | refine AWp.regG [] (by conv => lhs; cbv) ?_
        | refine AWp.cond_t rfl ?_
        | refine AWp.cond_f rfl ?_
        | (refine AWp.cond rfl ?_ ?_ <;> intro hc <;> (try rw [hc]) <;> ((try simp only [zn] at hc) <;> (try simp (disch := omega) only [zz hA, zb, zy, reduceCtorEq, Bool.false_eq_true, Int.reduceLT, Int.reduceLE, Int.reduceNeg] at hc) <;> (try simp only [zw] at hc)) <;> (try (exfalso; omega)))
        | refine AWp.exit ?_
        | refine AWp.ret ⟨.inr rfl, _, RetOk.ev tabOk (by conv => lhs; cbv), ?_⟩)
    | (refine AOLg.pass ?_; refine AOLg.nx hA tabOk (by conv => lhs; cbv) ?_; first
        | refine NX.done ?_
        | refine NX.gt ?_
        | refine NX.gf ?_
        | (refine NX.gs ?_ ?_ <;> intro hc <;> rw [hc] <;> ((try simp only [zn] at hc) <;> (try simp (disch := omega) only [zz hA, zb, zy, reduceCtorEq, Bool.false_eq_true, Int.reduceLT, Int.reduceLE, Int.reduceNeg] at hc) <;> (try simp only [zw] at hc)) <;> (try (exfalso; omega)))
        | refine NX.raw ?_)
    | refine Thn.exit ?_
    | refine Blk.here ?_
    | refine Blk.other (by decide) ?_
    | refine ⟨.inl rfl, _, RetOk.ev tabOk (by conv => lhs; cbv), ?_⟩
    | fail)
  refine rPV_then (by conv => lhs; cbv) ?_
  rfl
theorem of2_c (k : Int) (p : ByteArray) (b : Bool) (h : b = true → 0 ≤ k ∧ k < p.size) : ACalls Try.prog 30 [.ic (.lit (.int .i64 k)), .ptr 1 0, .ptr 0 0] [.var true 9 [.ic (.lit (.string (hid A p)))], .var true 4 [.ic (.lit (.bool (hid A b)))]]
    (fun x st' => x = .ic (.lit (.int .u8 (hid A (if b = true then sb p k else 61)))) ∧ st' = [.var true 9 [.ic (.lit (.string (hid A p)))], .var true 4 [.ic (.lit (.bool (hid A b)))]]) := by
  refine ACalls.of Try.func30 rfl (by kernel_rfl) rfl ?_
  cases b with
  | true =>
    obtain ⟨h1, h2⟩ := h rfl
    rw [hid_eq hA (α := Bool)]
    try first | refine AOLg.of [] ?_ | refine QSg.of [] ?_
    repeat' (first
      | (refine AWp.pass ?_; first
          | refine AWp.seq ?_
          | refine AWp.block ?_
          | refine AWp.skip ?_
          | refine AWp.regG [] (by conv => lhs; cbv) ?_
          | refine AWp.cond_t rfl ?_
          | refine AWp.cond_f rfl ?_
          | (refine AWp.cond rfl ?_ ?_ <;> intro hc <;> (try rw [hc]) <;> ((try simp only [zn] at hc) <;> (try simp (disch := omega) only [zz hA, zb, zy, reduceCtorEq, Bool.false_eq_true, Int.reduceLT, Int.reduceLE, Int.reduceNeg] at hc) <;> (try simp only [zw] at hc)) <;> (try (exfalso; omega)))
          | refine AWp.exit ?_
          | refine AWp.ret ⟨.inr rfl, _, RetOk.ev tabOk (by conv => lhs; cbv), ?_⟩)
      | (refine AOLg.pass ?_; refine AOLg.nx hA tabOk (by conv => lhs; cbv) ?_; first
          | refine NX.done ?_
          | refine NX.gt ?_
          | refine NX.gf ?_
          | (refine NX.gs ?_ ?_ <;> intro hc <;> rw [hc] <;> ((try simp only [zn] at hc) <;> (try simp (disch := omega) only [zz hA, zb, zy, reduceCtorEq, Bool.false_eq_true, Int.reduceLT, Int.reduceLE, Int.reduceNeg] at hc) <;> (try simp only [zw] at hc)) <;> (try (exfalso; omega)))
          | ((first | (refine NX.k 13 ?_; first | refine NX.one (One.byteM hA tabOk rfl rfl rfl rfl rfl ?_ ?_) ?_) | (refine NX.k 14 ?_; first | refine NX.one (One.loadRatM hA tabOk rfl rfl rfl rfl rfl rfl ?_) ?_)) <;> (first | refine AOLg.pass ?_ | (((try simp only [zn]) <;> (try simp (disch := omega) only [zz hA, zb, zy, reduceCtorEq, Bool.false_eq_true, Int.reduceLT, Int.reduceLE, Int.reduceNeg]) <;> (try simp only [zw])) <;> omega)))
          | refine NX.raw ?_)
      | refine Thn.exit ?_
      | refine Blk.here ?_
      | refine Blk.other (by decide) ?_
      | refine ⟨.inl rfl, _, RetOk.ev tabOk (by conv => lhs; cbv), ?_⟩
      | fail)
    refine ⟨?_, rfl⟩
    simp only [hid_eq hA, if_true]
  | false =>
    rw [hid_eq hA (α := Bool)]
    try first | refine AOLg.of [] ?_ | refine QSg.of [] ?_
    repeat' (first
      | (refine AWp.pass ?_; first
          | refine AWp.seq ?_
          | refine AWp.block ?_
          | refine AWp.skip ?_
          | refine AWp.regG [] (by conv => lhs; cbv) ?_
          | refine AWp.cond_t rfl ?_
          | refine AWp.cond_f rfl ?_
          | (refine AWp.cond rfl ?_ ?_ <;> intro hc <;> (try rw [hc]) <;> ((try simp only [zn] at hc) <;> (try simp (disch := omega) only [zz hA, zb, zy, reduceCtorEq, Bool.false_eq_true, Int.reduceLT, Int.reduceLE, Int.reduceNeg] at hc) <;> (try simp only [zw] at hc)) <;> (try (exfalso; omega)))
          | refine AWp.exit ?_
          | refine AWp.ret ⟨.inr rfl, _, RetOk.ev tabOk (by conv => lhs; cbv), ?_⟩)
      | (refine AOLg.pass ?_; refine AOLg.nx hA tabOk (by conv => lhs; cbv) ?_; first
          | refine NX.done ?_
          | refine NX.gt ?_
          | refine NX.gf ?_
          | (refine NX.gs ?_ ?_ <;> intro hc <;> rw [hc] <;> ((try simp only [zn] at hc) <;> (try simp (disch := omega) only [zz hA, zb, zy, reduceCtorEq, Bool.false_eq_true, Int.reduceLT, Int.reduceLE, Int.reduceNeg] at hc) <;> (try simp only [zw] at hc)) <;> (try (exfalso; omega)))
          | ((first | (refine NX.k 13 ?_; first | refine NX.one (One.byteM hA tabOk rfl rfl rfl rfl rfl ?_ ?_) ?_) | (refine NX.k 14 ?_; first | refine NX.one (One.loadRatM hA tabOk rfl rfl rfl rfl rfl rfl ?_) ?_)) <;> (first | refine AOLg.pass ?_ | (((try simp only [zn]) <;> (try simp (disch := omega) only [zz hA, zb, zy, reduceCtorEq, Bool.false_eq_true, Int.reduceLT, Int.reduceLE, Int.reduceNeg]) <;> (try simp only [zw])) <;> omega)))
          | refine NX.raw ?_)
      | refine Thn.exit ?_
      | refine Blk.here ?_
      | refine Blk.other (by decide) ?_
      | refine ⟨.inl rfl, _, RetOk.ev tabOk (by conv => lhs; cbv), ?_⟩
      | fail)
    refine ⟨?_, rfl⟩
    simp [hid_eq hA]
theorem backN_4 (p0 p1 p2 p3 : AObj) (E : List Nd) : ACalls Try.prog 27 [.ic (.sl 3 false (hid A (List.map (encD A) E)))] [p0, p1, p2, p3]
    (fun x st' => x = .fn (.func 44) [] [.ptr 4 0] ∧ st' = [p0, p1, p2, p3, .var true 23 [.ic (.sl 3 false (hid A (List.map (encD A) E)))]]) := by
  refine ACalls.of Try.func27 rfl (by kernel_rfl) rfl ?_
  try first | refine AOLg.of [] ?_ | refine QSg.of [] ?_
  repeat' (first
    | (refine AWp.pass ?_; first
        | refine AWp.seq ?_
        | refine AWp.block ?_
        | refine AWp.skip ?_
        | refine AWp.regG [] (by conv => lhs; cbv) ?_
        | refine AWp.cond_t rfl ?_
        | refine AWp.cond_f rfl ?_
        | (refine AWp.cond rfl ?_ ?_ <;> intro hc <;> (try rw [hc]) <;> ((try simp only [zn] at hc) <;> (try simp (disch := omega) only [zz hA, zb, zy, reduceCtorEq, Bool.false_eq_true, Int.reduceLT, Int.reduceLE, Int.reduceNeg] at hc) <;> (try simp only [zw] at hc)) <;> (try (exfalso; omega)))
        | refine AWp.exit ?_
        | refine AWp.ret ⟨.inr rfl, _, RetOk.ev tabOk (by conv => lhs; cbv), ?_⟩)
    | (refine AOLg.pass ?_; refine AOLg.nx hA tabOk (by conv => lhs; cbv) ?_; first
        | refine NX.done ?_
        | refine NX.gt ?_
        | refine NX.gf ?_
        | (refine NX.gs ?_ ?_ <;> intro hc <;> rw [hc] <;> ((try simp only [zn] at hc) <;> (try simp (disch := omega) only [zz hA, zb, zy, reduceCtorEq, Bool.false_eq_true, Int.reduceLT, Int.reduceLE, Int.reduceNeg] at hc) <;> (try simp only [zw] at hc)) <;> (try (exfalso; omega)))
        | refine NX.raw ?_)
    | refine Thn.exit ?_
    | refine Blk.here ?_
    | refine Blk.other (by decide) ?_
    | refine ⟨.inl rfl, _, RetOk.ev tabOk (by conv => lhs; cbv), ?_⟩
    | fail)
  exact ⟨rfl, rfl⟩
theorem backNI_4 (E : List Nd) (J : Nat → List AObj → Prop) (Fin : List AObj → Prop)
    (hJ : ∀ k st, J k st → ∃ p0 p1 p2 p3 p5, st = [p0, p1, p2, p3, .var true 23 [.ic (.sl 3 false (hid A (List.map (encD A) E)))], p5])
    (hy : ∀ k st z a b c, k < E.length → J (k + 1) st → z = (k : Int) → a = ndK (E.getD k default) → b = ndS (E.getD k default) → c = ndN (E.getD k default) → AYield Try.prog 5 [.ic (.lit (.int .i64 z)), .agg [.ic (.lit (.int .i64 a)), .ic (.lit (.string b)), .ic (.lit (.int .i64 c))]] st (fun x st' => x = .ic (Bo true) ∧ J k st' ∨ x = .ic (Bo false) ∧ Fin st'))
    (hlen : E.length ≤ 1000000) (st : List AObj) (h0 : J E.length st) : ACalls Try.prog 44 [.yl 5, .ptr 4 0] st (fun x st' => x = .tup [] ∧ (J 0 st' ∨ Fin st')) := by
  obtain ⟨p0, p1, p2, p3, p5, rfl⟩ := hJ _ _ h0
  refine ACalls.of Try.func44 rfl (by kernel_rfl) rfl ?_
  try first | refine AOLg.of [] ?_ | refine QSg.of [] ?_
  repeat' (first
    | (refine AWp.pass ?_; first
        | refine AWp.seq ?_
        | refine AWp.block ?_
        | refine AWp.skip ?_
        | refine AWp.regG [] (by conv => lhs; cbv) ?_
        | refine AWp.cond_t rfl ?_
        | refine AWp.cond_f rfl ?_
        | (refine AWp.cond rfl ?_ ?_ <;> intro hc <;> (try rw [hc]) <;> ((try simp only [zn] at hc) <;> (try simp (disch := omega) only [zz hA, zb, zy, reduceCtorEq, Bool.false_eq_true, Int.reduceLT, Int.reduceLE, Int.reduceNeg] at hc) <;> (try simp only [zw] at hc)) <;> (try (exfalso; omega)))
        | refine AWp.exit ?_
        | refine AWp.ret ⟨.inr rfl, _, RetOk.ev tabOk (by conv => lhs; cbv), ?_⟩)
    | (refine AOLg.pass ?_; refine AOLg.nx hA tabOk (by conv => lhs; cbv) ?_; first
        | refine NX.done ?_
        | refine NX.gt ?_
        | refine NX.gf ?_
        | (refine NX.gs ?_ ?_ <;> intro hc <;> rw [hc] <;> ((try simp only [zn] at hc) <;> (try simp (disch := omega) only [zz hA, zb, zy, reduceCtorEq, Bool.false_eq_true, Int.reduceLT, Int.reduceLE, Int.reduceNeg] at hc) <;> (try simp only [zw] at hc)) <;> (try (exfalso; omega)))
        | ((first | (refine NX.k 1 ?_; first | refine NX.one (One.elemM hA tabOk rfl rfl rfl rfl ?_ ?_) ?_ | refine NX.one (One.elemOwnM hA tabOk rfl rfl rfl rfl rfl ?_ ?_) ?_) | (refine NX.k 10 ?_; first | refine NX.one (One.lenOwnM hA tabOk rfl rfl rfl rfl) ?_) | (refine NX.k 14 ?_; first | refine NX.one (One.loadRatM hA tabOk rfl rfl rfl rfl rfl rfl ?_) ?_)) <;> (first | refine AOLg.pass ?_ | (((try simp only [zn]) <;> (try simp (disch := omega) only [zz hA, zb, zy, reduceCtorEq, Bool.false_eq_true, Int.reduceLT, Int.reduceLE, Int.reduceNeg]) <;> (try simp only [zw])) <;> omega)))
        | refine NX.raw ?_)
    | refine Thn.exit ?_
    | refine Blk.here ?_
    | refine Blk.other (by decide) ?_
    | refine ⟨.inl rfl, _, RetOk.ev tabOk (by conv => lhs; cbv), ?_⟩
    | fail)
  refine AWp.loopU (fun x : Nat × List AObj => [(3, .ic (.lit (.int .i64 (hid A (cN x.1 - 1)))))]) (fun x => x.2) (fun x => x.1) (fun x => x.1 ≤ E.length ∧ J x.1 x.2) (E.length, _) (by conv => lhs; cbv) ⟨by simp, h0⟩ (.int rfl (by (((try simp only [zn]) <;> (try simp (disch := omega) only [zz hA, zb, zy, reduceCtorEq, Bool.false_eq_true, Int.reduceLT, Int.reduceLE, Int.reduceNeg]) <;> (try simp only [zw])) <;> omega)) .nil) rfl ?_
  rintro ⟨k, st⟩ ⟨hk, hj⟩
  simp only [] at hk hj ⊢
  obtain ⟨p0, p1, p2, p3, p5, rfl⟩ := hJ _ _ hj
  cases k with
  | zero =>
    try first | refine AOLg.of [] ?_ | refine QSg.of [] ?_
    repeat' (first
      | (refine AWp.pass ?_; first
          | refine AWp.seq ?_
          | refine AWp.block ?_
          | refine AWp.skip ?_
          | refine AWp.regG [] (by conv => lhs; cbv) ?_
          | refine AWp.cond_t rfl ?_
          | refine AWp.cond_f rfl ?_
          | (refine AWp.cond rfl ?_ ?_ <;> intro hc <;> (try rw [hc]) <;> ((try simp only [zn] at hc) <;> (try simp (disch := omega) only [zz hA, zb, zy, reduceCtorEq, Bool.false_eq_true, Int.reduceLT, Int.reduceLE, Int.reduceNeg] at hc) <;> (try simp only [zw] at hc)) <;> (try (exfalso; omega)))
          | refine AWp.exit ?_
          | refine AWp.ret ⟨.inr rfl, _, RetOk.ev tabOk (by conv => lhs; cbv), ?_⟩)
      | (refine AOLg.pass ?_; refine AOLg.nx hA tabOk (by conv => lhs; cbv) ?_; first
          | refine NX.done ?_
          | refine NX.gt ?_
          | refine NX.gf ?_
          | (refine NX.gs ?_ ?_ <;> intro hc <;> rw [hc] <;> ((try simp only [zn] at hc) <;> (try simp (disch := omega) only [zz hA, zb, zy, reduceCtorEq, Bool.false_eq_true, Int.reduceLT, Int.reduceLE, Int.reduceNeg] at hc) <;> (try simp only [zw] at hc)) <;> (try (exfalso; omega)))
          | ((first | (refine NX.k 1 ?_; first | refine NX.one (One.elemM hA tabOk rfl rfl rfl rfl ?_ ?_) ?_ | refine NX.one (One.elemOwnM hA tabOk rfl rfl rfl rfl rfl ?_ ?_) ?_) | (refine NX.k 10 ?_; first | refine NX.one (One.lenOwnM hA tabOk rfl rfl rfl rfl) ?_) | (refine NX.k 14 ?_; first | refine NX.one (One.loadRatM hA tabOk rfl rfl rfl rfl rfl rfl ?_) ?_)) <;> (first | refine AOLg.pass ?_ | (((try simp only [zn]) <;> (try simp (disch := omega) only [zz hA, zb, zy, reduceCtorEq, Bool.false_eq_true, Int.reduceLT, Int.reduceLE, Int.reduceNeg]) <;> (try simp only [zw])) <;> omega)))
          | refine NX.raw ?_)
      | refine Thn.exit ?_
      | refine Blk.here ?_
      | refine Blk.other (by decide) ?_
      | refine ⟨.inl rfl, _, RetOk.ev tabOk (by conv => lhs; cbv), ?_⟩
      | fail)
    exact ⟨rfl, .inl hj⟩
  | succ k =>
    have hq : ∀ q : Int, q = cN (k + 1) - 1 → q.toNat = k := by
      intro q hq
      simp only [cN] at hq
      omega
    try first | refine AOLg.of [] ?_ | refine QSg.of [] ?_
    repeat' (first
      | (refine AWp.pass ?_; first
          | refine AWp.seq ?_
          | refine AWp.block ?_
          | refine AWp.skip ?_
          | refine AWp.regG [] (by conv => lhs; cbv) ?_
          | refine AWp.cond_t rfl ?_
          | refine AWp.cond_f rfl ?_
          | (refine AWp.cond rfl ?_ ?_ <;> intro hc <;> (try rw [hc]) <;> ((try simp only [zn] at hc) <;> (try simp (disch := omega) only [zz hA, zb, zy, reduceCtorEq, Bool.false_eq_true, Int.reduceLT, Int.reduceLE, Int.reduceNeg] at hc) <;> (try simp only [zw] at hc)) <;> (try (exfalso; omega)))
          | refine AWp.exit ?_
          | refine AWp.ret ⟨.inr rfl, _, RetOk.ev tabOk (by conv => lhs; cbv), ?_⟩)
      | (refine AOLg.pass ?_; refine AOLg.nx hA tabOk (by conv => lhs; cbv) ?_; first
          | refine NX.done ?_
          | refine NX.gt ?_
          | refine NX.gf ?_
          | (refine NX.gs ?_ ?_ <;> intro hc <;> rw [hc] <;> ((try simp only [zn] at hc) <;> (try simp (disch := omega) only [zz hA, zb, zy, reduceCtorEq, Bool.false_eq_true, Int.reduceLT, Int.reduceLE, Int.reduceNeg] at hc) <;> (try simp only [zw] at hc)) <;> (try (exfalso; omega)))
          | ((first | (refine NX.k 1 ?_; first | refine NX.one (One.elemM hA tabOk rfl rfl rfl rfl ?_ ?_) ?_ | refine NX.one (One.elemOwnM hA tabOk rfl rfl rfl rfl rfl ?_ ?_) ?_) | (refine NX.k 10 ?_; first | refine NX.one (One.lenOwnM hA tabOk rfl rfl rfl rfl) ?_) | (refine NX.k 14 ?_; first | refine NX.one (One.loadRatM hA tabOk rfl rfl rfl rfl rfl rfl ?_) ?_)) <;> (first | refine AOLg.pass ?_ | (((try simp only [zn]) <;> (try simp (disch := omega) only [zz hA, zb, zy, reduceCtorEq, Bool.false_eq_true, Int.reduceLT, Int.reduceLE, Int.reduceNeg]) <;> (try simp only [zw])) <;> omega)))
          | refine NX.raw ?_)
      | refine Thn.exit ?_
      | refine Blk.here ?_
      | refine Blk.other (by decide) ?_
      | refine ⟨.inl rfl, _, RetOk.ev tabOk (by conv => lhs; cbv), ?_⟩
      | fail)
    refine AOL.ycall rfl rfl (hy k _ _ _ _ _ (by omega) hj (by (((try simp only [zn]) <;> (try simp (disch := omega) only [zz hA, zb, zy, reduceCtorEq, Bool.false_eq_true, Int.reduceLT, Int.reduceLE, Int.reduceNeg]) <;> (try simp only [zw])) <;> omega)) (by simp only [hid_eq hA]; rw [hq _ rfl]) (by simp only [hid_eq hA]; rw [hq _ rfl]) (by simp only [hid_eq hA]; rw [hq _ rfl])) ?_
    rintro y st' (⟨rfl, hj'⟩ | ⟨rfl, hf⟩)
    · obtain ⟨p0, p1, p2, p3, p5, rfl⟩ := hJ _ _ hj'
      try first | refine AOLg.of [] ?_ | refine QSg.of [] ?_
      repeat' (first
        | (refine AWp.pass ?_; first
            | refine AWp.seq ?_
            | refine AWp.block ?_
            | refine AWp.skip ?_
            | refine AWp.regG [] (by conv => lhs; cbv) ?_
            | refine AWp.cond_t rfl ?_
            | refine AWp.cond_f rfl ?_
            | (refine AWp.cond rfl ?_ ?_ <;> intro hc <;> (try rw [hc]) <;> ((try simp only [zn] at hc) <;> (try simp (disch := omega) only [zz hA, zb, zy, reduceCtorEq, Bool.false_eq_true, Int.reduceLT, Int.reduceLE, Int.reduceNeg] at hc) <;> (try simp only [zw] at hc)) <;> (try (exfalso; omega)))
            | refine AWp.exit ?_
            | refine AWp.ret ⟨.inr rfl, _, RetOk.ev tabOk (by conv => lhs; cbv), ?_⟩)
        | (refine AOLg.pass ?_; refine AOLg.nx hA tabOk (by conv => lhs; cbv) ?_; first
            | refine NX.done ?_
            | refine NX.gt ?_
            | refine NX.gf ?_
            | (refine NX.gs ?_ ?_ <;> intro hc <;> rw [hc] <;> ((try simp only [zn] at hc) <;> (try simp (disch := omega) only [zz hA, zb, zy, reduceCtorEq, Bool.false_eq_true, Int.reduceLT, Int.reduceLE, Int.reduceNeg] at hc) <;> (try simp only [zw] at hc)) <;> (try (exfalso; omega)))
            | ((first | (refine NX.k 1 ?_; first | refine NX.one (One.elemM hA tabOk rfl rfl rfl rfl ?_ ?_) ?_ | refine NX.one (One.elemOwnM hA tabOk rfl rfl rfl rfl rfl ?_ ?_) ?_) | (refine NX.k 10 ?_; first | refine NX.one (One.lenOwnM hA tabOk rfl rfl rfl rfl) ?_) | (refine NX.k 14 ?_; first | refine NX.one (One.loadRatM hA tabOk rfl rfl rfl rfl rfl rfl ?_) ?_)) <;> (first | refine AOLg.pass ?_ | (((try simp only [zn]) <;> (try simp (disch := omega) only [zz hA, zb, zy, reduceCtorEq, Bool.false_eq_true, Int.reduceLT, Int.reduceLE, Int.reduceNeg]) <;> (try simp only [zw])) <;> omega)))
            | refine NX.raw ?_)
        | refine Thn.exit ?_
        | refine Blk.here ?_
        | refine Blk.other (by decide) ?_
        | refine ⟨.inl rfl, _, RetOk.ev tabOk (by conv => lhs; cbv), ?_⟩
        | fail)
      refine ⟨(k, _), ⟨?_, hj'⟩, ?_, rfl, rfl, ?_, (by repeat' (first | exact subE.nil | refine subE.cons rfl ?_))⟩
      · simp only []; omega
      · simp only []; omega
      · exact .int rfl (by (((try simp only [zn]) <;> (try simp (disch := omega) only [zz hA, zb, zy, reduceCtorEq, Bool.false_eq_true, Int.reduceLT, Int.reduceLE, Int.reduceNeg]) <;> (try simp only [zw])) <;> omega)) .nil
    · try first | refine AOLg.of [] ?_ | refine QSg.of [] ?_
      repeat' (first
        | (refine AWp.pass ?_; first
            | refine AWp.seq ?_
            | refine AWp.block ?_
            | refine AWp.skip ?_
            | refine AWp.regG [] (by conv => lhs; cbv) ?_
            | refine AWp.cond_t rfl ?_
            | refine AWp.cond_f rfl ?_
            | (refine AWp.cond rfl ?_ ?_ <;> intro hc <;> (try rw [hc]) <;> ((try simp only [zn] at hc) <;> (try simp (disch := omega) only [zz hA, zb, zy, reduceCtorEq, Bool.false_eq_true, Int.reduceLT, Int.reduceLE, Int.reduceNeg] at hc) <;> (try simp only [zw] at hc)) <;> (try (exfalso; omega)))
            | refine AWp.exit ?_
            | refine AWp.ret ⟨.inr rfl, _, RetOk.ev tabOk (by conv => lhs; cbv), ?_⟩)
        | (refine AOLg.pass ?_; refine AOLg.nx hA tabOk (by conv => lhs; cbv) ?_; first
            | refine NX.done ?_
            | refine NX.gt ?_
            | refine NX.gf ?_
            | (refine NX.gs ?_ ?_ <;> intro hc <;> rw [hc] <;> ((try simp only [zn] at hc) <;> (try simp (disch := omega) only [zz hA, zb, zy, reduceCtorEq, Bool.false_eq_true, Int.reduceLT, Int.reduceLE, Int.reduceNeg] at hc) <;> (try simp only [zw] at hc)) <;> (try (exfalso; omega)))
            | ((first | (refine NX.k 1 ?_; first | refine NX.one (One.elemM hA tabOk rfl rfl rfl rfl ?_ ?_) ?_ | refine NX.one (One.elemOwnM hA tabOk rfl rfl rfl rfl rfl ?_ ?_) ?_) | (refine NX.k 10 ?_; first | refine NX.one (One.lenOwnM hA tabOk rfl rfl rfl rfl) ?_) | (refine NX.k 14 ?_; first | refine NX.one (One.loadRatM hA tabOk rfl rfl rfl rfl rfl rfl ?_) ?_)) <;> (first | refine AOLg.pass ?_ | (((try simp only [zn]) <;> (try simp (disch := omega) only [zz hA, zb, zy, reduceCtorEq, Bool.false_eq_true, Int.reduceLT, Int.reduceLE, Int.reduceNeg]) <;> (try simp only [zw])) <;> omega)))
            | refine NX.raw ?_)
        | refine Thn.exit ?_
        | refine Blk.here ?_
        | refine Blk.other (by decide) ?_
        | refine ⟨.inl rfl, _, RetOk.ev tabOk (by conv => lhs; cbv), ?_⟩
        | fail)
      exact ⟨rfl, .inr hf⟩
end Go.Proofs.Ytgemcogfpkolfaa.Aw

/- Contract of side.Of: each node's side. -/
set_option linter.unusedVariables false
set_option linter.unusedSimpArgs false
set_option linter.unusedSectionVars false
namespace Go.Proofs.Ytgemcogfpkolfaa.Aw
open Go Go.RowKit
set_option maxRecDepth 10000
attribute [local irreducible] AWp AOL QS One AOLg QSg NX QX TRg TX AllO Fin3
theorem vary_parts (l : List Sg) (k : Int) (s : ByteArray) (n : Int) (hk : k = 3 ∨ k = 6) (h6 : k = 6 → 1 ≤ n) (j : Nat) (hj : (j : Int) < partsM k n) :
    ((partsS l k s n).2 = true → (0 : Int) ≤ j ∧ (j : Int) < (partsS l k s n).1.size) ∧ (if (partsS l k s n).2 = true then sb (partsS l k s n).1 j else 61) = varyD l k s n j := by
  rw [partsS_known]
  unfold varyD
  rw [if_pos hk]
  cases hb : knownD l k s n with
  | false => exact ⟨fun h => (Bool.noConfusion h), rfl⟩
  | true =>
    rw [if_pos rfl, if_pos rfl]
    unfold knownD at hb
    split at hb
    · cases hb
    rename_i hf
    unfold partsS
    rw [if_neg hf]
    unfold partsM at hj
    rcases hk with rfl | rfl
    · rw [if_pos rfl] at hb ⊢
      rw [if_neg (by decide)] at hj
      have := of_decide_eq_true hb
      refine ⟨fun _ => ⟨by omega, by simp only; omega⟩, ?_⟩
      rw [if_neg (by decide)]
    · rw [if_neg (by decide)] at hb ⊢
      rw [if_pos rfl] at hj
      have h := of_decide_eq_true hb
      have hn := h6 rfl
      obtain rfl : j = 0 := by omega
      rw [if_pos h, if_pos rfl]
      have hz := cutS_size (argG l (findG l s)) (n - 1) n (by omega) (by omega) h
      refine ⟨fun _ => ⟨by omega, by simp only; omega⟩, ?_⟩
      have := cutS_get (argG l (findG l s)) (n - 1) n 0 (by omega) h (by omega) (by omega)
      simpa using this
variable {A : Ar} (hA : A = real)
include hA
theorem of2_at (k : Nat) (p : ByteArray) (b : Bool) (h : b = true → (0 : Int) ≤ k ∧ (k : Int) < p.size) {V : Int} (hV : (if b = true then sb p k else 61) = V) : ∀ z : Int, z = k → ACalls Try.prog 30 [.ic (.lit (.int .i64 z)), .ptr 1 0, .ptr 0 0] [.var true 9 [.ic (.lit (.string (hid A p)))], .var true 4 [.ic (.lit (.bool (hid A b)))]]
    (fun x st' => x = .ic (.lit (.int .u8 (hid A V))) ∧ st' = [.var true 9 [.ic (.lit (.string (hid A p)))], .var true 4 [.ic (.lit (.bool (hid A b)))]]) := by
  rintro z rfl
  subst hV
  exact of2_c hA _ p b h
theorem turned_at (a v : Int) (h : sideOk a) : ∀ a' v', a' = a → v' = v → PureCalls Try.prog 31 [UP a', UP v'] (UP (hid A (turnD a v))) := by
  rintro a' v' rfl rfl
  exact turned_c hA _ _ h
set_option maxHeartbeats 16000000 in
theorem sOf_c (l : List Sg) (E : List Nd) (s : Int) (hl : l.length ≤ 1000000) (hsz : FitG l) (hg : goodD E) (h1 : manyD E E.length = 1) (hE : E.length ≤ 1000000) :
    PureCalls Try.prog 14 [slP A 2 (encG A) l, slP A 3 (encD A) E, UP s] (slP A 1 encU (sidesD l E s)) := by
  have hle : 1 ≤ E.length := by
    cases E with
    | nil => simp [manyD] at h1
    | cons => simp
  have hst := eStarts_c hA E hE hg.shape (fun i hi => by have := hg.parts hi; omega)
  have hSl := stD_len E E.length
  refine PureCalls.of Try.func14 rfl (by kernel_rfl) rfl ?_
  try first | refine AOLg.of [] ?_ | refine QSg.of [] ?_
  repeat' (first
    | (refine AWp.pass ?_; first
        | refine AWp.seq ?_
        | refine AWp.block ?_
        | refine AWp.skip ?_
        | refine AWp.regG [] (by conv => lhs; cbv) ?_
        | refine AWp.cond_t rfl ?_
        | refine AWp.cond_f rfl ?_
        | (refine AWp.cond rfl ?_ ?_ <;> intro hc <;> (try rw [hc]) <;> ((try simp only [zn] at hc) <;> (try simp (disch := omega) only [zz hA, zb, zy, reduceCtorEq, Bool.false_eq_true, Int.reduceLT, Int.reduceLE, Int.reduceNeg] at hc) <;> (try simp only [zw] at hc)) <;> (try (exfalso; omega)))
        | refine AWp.exit ?_
        | refine AWp.ret ⟨.inr rfl, _, RetOk.ev tabOk (by conv => lhs; cbv), ?_⟩
        | refine AWp.drawVG [] rfl (by decide +kernel) (by conv => lhs; cbv) ?_)
    | (refine AOLg.pass ?_; refine AOLg.nx hA tabOk (by conv => lhs; cbv) ?_; first
        | refine NX.done ?_
        | refine NX.gt ?_
        | refine NX.gf ?_
        | (refine NX.gs ?_ ?_ <;> intro hc <;> rw [hc] <;> ((try simp only [zn] at hc) <;> (try simp (disch := omega) only [zz hA, zb, zy, reduceCtorEq, Bool.false_eq_true, Int.reduceLT, Int.reduceLE, Int.reduceNeg] at hc) <;> (try simp only [zw] at hc)) <;> (try (exfalso; omega)))
        | (refine NX.kC ?_; first | (with_reducible refine NX.call (hst) ?_) | ((first | refine NX.call (hst) ?_)) | fail)
        | (refine NX.kO ?_; (first | refine NX.callO (hst) (by simp [allEq]) rfl ?_))
        | ((first | (refine NX.k 1 ?_; first | refine NX.one (One.elemM hA tabOk rfl rfl rfl rfl ?_ ?_) ?_ | refine NX.one (One.elemOwnM hA tabOk rfl rfl rfl rfl rfl ?_ ?_) ?_) | (refine NX.k 8 ?_; first | refine NX.one (One.eqBoolM hA tabOk rfl rfl rfl rfl rfl) ?_) | (refine NX.k 9 ?_; first | refine NX.one (One.neBoolM hA tabOk rfl rfl rfl rfl rfl) ?_) | (refine NX.k 10 ?_; first | refine NX.one (One.lenOwnM hA tabOk rfl rfl rfl rfl) ?_) | (refine NX.k 14 ?_; first | refine NX.one (One.loadRatM hA tabOk rfl rfl rfl rfl rfl rfl ?_) ?_) | (refine NX.k 15 ?_; first | refine NX.one (One.storeRatM hA tabOk _ rfl rfl rfl rfl rfl rfl rfl rfl (fun _ => rfl) ?_) ?_) | (refine NX.k 16 ?_; first | refine NX.one (One.makeM hA tabOk encI 0 rfl rfl rfl rfl rfl rfl rfl ?_ ?_ ?_) ?_) | (refine NX.k 18 ?_; first | refine NX.one (One.fieldRat tabOk rfl rfl rfl rfl (by decide) rfl rfl) ?_)) <;> (first | refine AOLg.pass ?_ | (((try simp only [zn]) <;> (try simp (disch := omega) only [zz hA, zb, zy, reduceCtorEq, Bool.false_eq_true, Int.reduceLT, Int.reduceLE, Int.reduceNeg]) <;> (try simp only [zw])) <;> omega)))
        | (refine NX.one (One.makeM hA tabOk encU 0 rfl rfl rfl rfl rfl rfl rfl (by (((try simp only [zn]) <;> (try simp (disch := omega) only [zz hA, zb, zy, reduceCtorEq, Bool.false_eq_true, Int.reduceLT, Int.reduceLE, Int.reduceNeg]) <;> (try simp only [zw])) <;> omega)) (by (((try simp only [zn]) <;> (try simp (disch := omega) only [zz hA, zb, zy, reduceCtorEq, Bool.false_eq_true, Int.reduceLT, Int.reduceLE, Int.reduceNeg]) <;> (try simp only [zw])) <;> omega)) (by (((try simp only [zn]) <;> (try simp (disch := omega) only [zz hA, zb, zy, reduceCtorEq, Bool.false_eq_true, Int.reduceLT, Int.reduceLE, Int.reduceNeg]) <;> (try simp only [zw])) <;> omega))) ?_)
        | refine NX.raw ?_)
    | (refine TRg.pass ?_; refine TRg.nx hA tabOk (by conv => lhs; cbv) ?_; first
        | refine TX.done ?_
        | refine TX.gt ?_
        | refine TX.gf ?_
        | (refine TX.gs ?_ ?_ <;> intro hc <;> rw [hc] <;> ((try simp only [zn] at hc) <;> (try simp (disch := omega) only [zz hA, zb, zy, reduceCtorEq, Bool.false_eq_true, Int.reduceLT, Int.reduceLE, Int.reduceNeg] at hc) <;> (try simp only [zw] at hc)) <;> (try (exfalso; omega)))
        | (refine TX.kC ?_; first | (with_reducible refine TX.call (hst) ?_) | ((first | refine TX.call (hst) ?_)) | fail)
        | (refine TX.kO ?_; (first | refine TX.callO (hst) (by simp [allEq]) rfl ?_))
        | ((first | (refine TX.k 1 ?_; first | refine TX.one (One.elemM hA tabOk rfl rfl rfl rfl ?_ ?_) ?_ | refine TX.one (One.elemOwnM hA tabOk rfl rfl rfl rfl rfl ?_ ?_) ?_) | (refine TX.k 8 ?_; first | refine TX.one (One.eqBoolM hA tabOk rfl rfl rfl rfl rfl) ?_) | (refine TX.k 9 ?_; first | refine TX.one (One.neBoolM hA tabOk rfl rfl rfl rfl rfl) ?_) | (refine TX.k 10 ?_; first | refine TX.one (One.lenOwnM hA tabOk rfl rfl rfl rfl) ?_) | (refine TX.k 14 ?_; first | refine TX.one (One.loadRatM hA tabOk rfl rfl rfl rfl rfl rfl ?_) ?_) | (refine TX.k 15 ?_; first | refine TX.one (One.storeRatM hA tabOk _ rfl rfl rfl rfl rfl rfl rfl rfl (fun _ => rfl) ?_) ?_) | (refine TX.k 16 ?_; first | refine TX.one (One.makeM hA tabOk encI 0 rfl rfl rfl rfl rfl rfl rfl ?_ ?_ ?_) ?_) | (refine TX.k 18 ?_; first | refine TX.one (One.fieldRat tabOk rfl rfl rfl rfl (by decide) rfl rfl) ?_)) <;> (first | refine TRg.pass ?_ | (((try simp only [zn]) <;> (try simp (disch := omega) only [zz hA, zb, zy, reduceCtorEq, Bool.false_eq_true, Int.reduceLT, Int.reduceLE, Int.reduceNeg]) <;> (try simp only [zw])) <;> omega)))
        | (refine TX.one (One.makeM hA tabOk encU 0 rfl rfl rfl rfl rfl rfl rfl (by (((try simp only [zn]) <;> (try simp (disch := omega) only [zz hA, zb, zy, reduceCtorEq, Bool.false_eq_true, Int.reduceLT, Int.reduceLE, Int.reduceNeg]) <;> (try simp only [zw])) <;> omega)) (by (((try simp only [zn]) <;> (try simp (disch := omega) only [zz hA, zb, zy, reduceCtorEq, Bool.false_eq_true, Int.reduceLT, Int.reduceLE, Int.reduceNeg]) <;> (try simp only [zw])) <;> omega)) (by (((try simp only [zn]) <;> (try simp (disch := omega) only [zz hA, zb, zy, reduceCtorEq, Bool.false_eq_true, Int.reduceLT, Int.reduceLE, Int.reduceNeg]) <;> (try simp only [zw])) <;> omega))) ?_)
        | refine TX.raw ?_)
    | refine Fin3.of (by conv => lhs; cbv) (by repeat' (first | exact True.intro | exact rfl | refine And.intro ?_ ?_)) ?_ ?_
    | (refine AllO.pass ?_; first
        | exact AllO.nil
        | (refine AllO.cons (One.ev hA tabOk ?_) ?_ <;> (first | refine AllO.pass ?_ | ((conv => lhs; cbv); done)))
        | (refine AllO.cons (One.skipB ?_) ?_ <;> (first | refine AllO.pass ?_ | ((conv => lhs; cbv); done)))
        | ((with_reducible refine AllO.call (by conv => lhs; cbv) (hst) ?_ ?_) <;> (first | refine AllO.pass ?_ | exact rfl | (((try simp only [zn]) <;> (try simp (disch := omega) only [zz hA, zb, zy, reduceCtorEq, Bool.false_eq_true, Int.reduceLT, Int.reduceLE, Int.reduceNeg]) <;> (try simp only [zw])) <;> omega)))
        | ((first | refine AllO.consX (One.elemM hA tabOk rfl rfl rfl rfl ?_ ?_) rfl rfl ?_ | refine AllO.consX (One.lenOwnM hA tabOk rfl rfl rfl rfl) rfl rfl ?_ | refine AllO.consX (One.elemOwnM hA tabOk rfl rfl rfl rfl rfl ?_ ?_) rfl rfl ?_ | refine AllO.consX (One.loadRatM hA tabOk rfl rfl rfl rfl rfl rfl ?_) rfl rfl ?_) <;> (first | refine AllO.pass ?_ | (((try simp only [zn]) <;> (try simp (disch := omega) only [zz hA, zb, zy, reduceCtorEq, Bool.false_eq_true, Int.reduceLT, Int.reduceLE, Int.reduceNeg]) <;> (try simp only [zw])) <;> omega))))
    | refine Thn.exit ?_
    | refine Blk.here ?_
    | refine Blk.other (by decide) ?_
    | refine ⟨.inl rfl, _, RetOk.ev tabOk (by conv => lhs; cbv), ?_⟩
    | fail)
  all_goals
    refine AOL.scall rfl rfl (backN_4 hA _ _ _ _ E) ?_
    rintro y st' ⟨rfl, rfl⟩
    try first | refine AOLg.of [] ?_ | refine QSg.of [] ?_
    repeat' (first
      | (refine AWp.pass ?_; first
          | refine AWp.seq ?_
          | refine AWp.block ?_
          | refine AWp.skip ?_
          | refine AWp.regG [] (by conv => lhs; cbv) ?_
          | refine AWp.cond_t rfl ?_
          | refine AWp.cond_f rfl ?_
          | (refine AWp.cond rfl ?_ ?_ <;> intro hc <;> (try rw [hc]) <;> ((try simp only [zn] at hc) <;> (try simp (disch := omega) only [zz hA, zb, zy, reduceCtorEq, Bool.false_eq_true, Int.reduceLT, Int.reduceLE, Int.reduceNeg] at hc) <;> (try simp only [zw] at hc)) <;> (try (exfalso; omega)))
          | refine AWp.exit ?_
          | refine AWp.ret ⟨.inr rfl, _, RetOk.ev tabOk (by conv => lhs; cbv), ?_⟩
          | refine AWp.drawVG [] rfl (by decide +kernel) (by conv => lhs; cbv) ?_)
      | (refine AOLg.pass ?_; refine AOLg.nx hA tabOk (by conv => lhs; cbv) ?_; first
          | refine NX.done ?_
          | refine NX.gt ?_
          | refine NX.gf ?_
          | (refine NX.gs ?_ ?_ <;> intro hc <;> rw [hc] <;> ((try simp only [zn] at hc) <;> (try simp (disch := omega) only [zz hA, zb, zy, reduceCtorEq, Bool.false_eq_true, Int.reduceLT, Int.reduceLE, Int.reduceNeg] at hc) <;> (try simp only [zw] at hc)) <;> (try (exfalso; omega)))
          | ((first | (refine NX.k 1 ?_; first | refine NX.one (One.elemM hA tabOk rfl rfl rfl rfl ?_ ?_) ?_ | refine NX.one (One.elemOwnM hA tabOk rfl rfl rfl rfl rfl ?_ ?_) ?_) | (refine NX.k 8 ?_; first | refine NX.one (One.eqBoolM hA tabOk rfl rfl rfl rfl rfl) ?_) | (refine NX.k 9 ?_; first | refine NX.one (One.neBoolM hA tabOk rfl rfl rfl rfl rfl) ?_) | (refine NX.k 10 ?_; first | refine NX.one (One.lenOwnM hA tabOk rfl rfl rfl rfl) ?_) | (refine NX.k 14 ?_; first | refine NX.one (One.loadRatM hA tabOk rfl rfl rfl rfl rfl rfl ?_) ?_) | (refine NX.k 15 ?_; first | refine NX.one (One.storeRatM hA tabOk _ rfl rfl rfl rfl rfl rfl rfl rfl (fun _ => rfl) ?_) ?_) | (refine NX.k 16 ?_; first | refine NX.one (One.makeM hA tabOk encI 0 rfl rfl rfl rfl rfl rfl rfl ?_ ?_ ?_) ?_) | (refine NX.k 18 ?_; first | refine NX.one (One.fieldRat tabOk rfl rfl rfl rfl (by decide) rfl rfl) ?_)) <;> (first | refine AOLg.pass ?_ | (((try simp only [zn]) <;> (try simp (disch := omega) only [zz hA, zb, zy, reduceCtorEq, Bool.false_eq_true, Int.reduceLT, Int.reduceLE, Int.reduceNeg]) <;> (try simp only [zw])) <;> omega)))
          | refine NX.raw ?_)
      | (refine TRg.pass ?_; refine TRg.nx hA tabOk (by conv => lhs; cbv) ?_; first
          | refine TX.done ?_
          | refine TX.gt ?_
          | refine TX.gf ?_
          | (refine TX.gs ?_ ?_ <;> intro hc <;> rw [hc] <;> ((try simp only [zn] at hc) <;> (try simp (disch := omega) only [zz hA, zb, zy, reduceCtorEq, Bool.false_eq_true, Int.reduceLT, Int.reduceLE, Int.reduceNeg] at hc) <;> (try simp only [zw] at hc)) <;> (try (exfalso; omega)))
          | ((first | (refine TX.k 1 ?_; first | refine TX.one (One.elemM hA tabOk rfl rfl rfl rfl ?_ ?_) ?_ | refine TX.one (One.elemOwnM hA tabOk rfl rfl rfl rfl rfl ?_ ?_) ?_) | (refine TX.k 8 ?_; first | refine TX.one (One.eqBoolM hA tabOk rfl rfl rfl rfl rfl) ?_) | (refine TX.k 9 ?_; first | refine TX.one (One.neBoolM hA tabOk rfl rfl rfl rfl rfl) ?_) | (refine TX.k 10 ?_; first | refine TX.one (One.lenOwnM hA tabOk rfl rfl rfl rfl) ?_) | (refine TX.k 14 ?_; first | refine TX.one (One.loadRatM hA tabOk rfl rfl rfl rfl rfl rfl ?_) ?_) | (refine TX.k 15 ?_; first | refine TX.one (One.storeRatM hA tabOk _ rfl rfl rfl rfl rfl rfl rfl rfl (fun _ => rfl) ?_) ?_) | (refine TX.k 16 ?_; first | refine TX.one (One.makeM hA tabOk encI 0 rfl rfl rfl rfl rfl rfl rfl ?_ ?_ ?_) ?_) | (refine TX.k 18 ?_; first | refine TX.one (One.fieldRat tabOk rfl rfl rfl rfl (by decide) rfl rfl) ?_)) <;> (first | refine TRg.pass ?_ | (((try simp only [zn]) <;> (try simp (disch := omega) only [zz hA, zb, zy, reduceCtorEq, Bool.false_eq_true, Int.reduceLT, Int.reduceLE, Int.reduceNeg]) <;> (try simp only [zw])) <;> omega)))
          | refine TX.raw ?_)
      | refine Fin3.of (by conv => lhs; cbv) (by repeat' (first | exact True.intro | exact rfl | refine And.intro ?_ ?_)) ?_ ?_
      | (refine AllO.pass ?_; first
          | exact AllO.nil
          | (refine AllO.cons (One.ev hA tabOk ?_) ?_ <;> (first | refine AllO.pass ?_ | ((conv => lhs; cbv); done)))
          | (refine AllO.cons (One.skipB ?_) ?_ <;> (first | refine AllO.pass ?_ | ((conv => lhs; cbv); done)))
          | ((first | refine AllO.consX (One.elemM hA tabOk rfl rfl rfl rfl ?_ ?_) rfl rfl ?_ | refine AllO.consX (One.lenOwnM hA tabOk rfl rfl rfl rfl) rfl rfl ?_ | refine AllO.consX (One.elemOwnM hA tabOk rfl rfl rfl rfl rfl ?_ ?_) rfl rfl ?_ | refine AllO.consX (One.loadRatM hA tabOk rfl rfl rfl rfl rfl rfl ?_) rfl rfl ?_) <;> (first | refine AllO.pass ?_ | (((try simp only [zn]) <;> (try simp (disch := omega) only [zz hA, zb, zy, reduceCtorEq, Bool.false_eq_true, Int.reduceLT, Int.reduceLE, Int.reduceNeg]) <;> (try simp only [zw])) <;> omega))))
      | refine Thn.exit ?_
      | refine Blk.here ?_
      | refine Blk.other (by decide) ?_
      | refine ⟨.inl rfl, _, RetOk.ev tabOk (by conv => lhs; cbv), ?_⟩
      | fail)
    refine AWp.norm (by conv => lhs; cbv) ?_
    refine AWp.rangeFunc' rfl ?_
    intro c hcr
    refine ⟨_, backNI_4 hA E
      (fun k st => k ≤ E.length ∧ st = [.var true 22 [.ic (.sl 2 false (hid A (List.map (encG A) l)))], .var true 41 [.ic (.sl 1 false (hid A (List.map encI (stD E E.length))))], .row true 0 5 1 (hid A (List.map encU (sdM l E (stD E E.length) s (E.length - k)))), .var true 31 [.own 2 0], .var true 23 [.ic (.sl 3 false (hid A (List.map (encD A) E)))], .lp c])
      (fun _ => False) ?_ ?_ hE _ ?_, ?_⟩
    · rintro k st ⟨_, rfl⟩
      exact ⟨_, _, _, _, _, rfl⟩
    · rintro i st z ka sa na hi ⟨_, rfl⟩ hz hka hsa hna
      have hi1 : E.length - 1 - (E.length - (i + 1)) = i := by omega
      have hstep : sdM l E (stD E E.length) s (E.length - i) = sdStep l E (stD E E.length) (sdM l E (stD E E.length) s (E.length - (i + 1))) i := by
        rw [show E.length - i = E.length - (i + 1) + 1 by omega, sdM, hi1]
      have hok := sd_at (l := l) hg h1 s (show E.length - (i + 1) < E.length by omega)
      rw [hi1] at hok
      have hol := sdM_len l E (stD E E.length) s (E.length - (i + 1))
      have hpr := hg.parts hi
      have hpd : pD E i = partsM (ndK (E.getD i default)) (ndN (E.getD i default)) := rfl
      have hq := mayD_parts (hg.may hi)
      have hsh := hg.shape i hi
      obtain ⟨p, hp⟩ : ∃ p : Nat, pD E i = p := ⟨(pD E i).toNat, by omega⟩
      have hap := kids_apart hg hi hp
      have hkin := fun k (h : k < p) => kids_in hg hi hp h
      have hkg := fun k (h : k < p) => kidsD_get (stD E E.length) i p k h
      have hwd := wayD_in hg.shape (show i ≤ E.length by omega)
      have hway : ∀ k : Nat, k ≤ p → (0 ≤ backD (stD E E.length) i k ∧ backD (stD E E.length) i k ≤ i) := fun k hk => ⟨hwd.lo k (by omega), hwd.hi k (by omega)⟩
      have hwayp : ∀ k : Nat, k < p → 0 < backD (stD E E.length) i k := fun k hk => hwd.pos k (by omega)
      unfold sdStep at hstep
      rw [hp, Int.toNat_natCast, ← hka, ← hsa, ← hna] at hstep
      rw [hp, ← hka, ← hna] at hpd
      rw [← hka, ← hna] at hq
      clear hsh hpr hwd hka hsa hna
      generalize sdM l E (stD E E.length) s (E.length - i) = O2 at *
      generalize sdM l E (stD E E.length) s (E.length - (i + 1)) = O at *
      generalize stD E E.length = S at *
      refine AYield.of' 6 hcr rfl (Nat.le_refl _) rfl rfl ?_
      intro ll
      simp only []
      try first | refine AOLg.of [] ?_ | refine QSg.of [] ?_
      repeat' (first
        | (refine AWp.pass ?_; first
            | refine AWp.seq ?_
            | refine AWp.block ?_
            | refine AWp.skip ?_
            | refine AWp.regG [] (by conv => lhs; cbv) ?_
            | refine AWp.cond_t rfl ?_
            | refine AWp.cond_f rfl ?_
            | (refine AWp.cond rfl ?_ ?_ <;> intro hc <;> (try rw [hc]) <;> ((try simp only [zn] at hc) <;> (try simp (disch := omega) only [zz hA, zb, zy, reduceCtorEq, Bool.false_eq_true, Int.reduceLT, Int.reduceLE, Int.reduceNeg] at hc) <;> (try simp only [zw] at hc)) <;> (try (exfalso; omega)))
            | refine AWp.exit ?_
            | refine AWp.ret ⟨.inr rfl, _, RetOk.ev tabOk (by conv => lhs; cbv), ?_⟩
            | refine AWp.drawVG [] rfl (by decide +kernel) (by conv => lhs; cbv) ?_)
        | (refine AOLg.pass ?_; refine AOLg.nx hA tabOk (by conv => lhs; cbv) ?_; first
            | refine NX.done ?_
            | refine NX.gt ?_
            | refine NX.gf ?_
            | (refine NX.gs ?_ ?_ <;> intro hc <;> rw [hc] <;> ((try simp only [zn] at hc) <;> (try simp (disch := omega) only [zz hA, zb, zy, reduceCtorEq, Bool.false_eq_true, Int.reduceLT, Int.reduceLE, Int.reduceNeg] at hc) <;> (try simp only [zw] at hc)) <;> (try (exfalso; omega)))
            | ((first | (refine NX.k 1 ?_; first | refine NX.one (One.elemM hA tabOk rfl rfl rfl rfl ?_ ?_) ?_ | refine NX.one (One.elemOwnM hA tabOk rfl rfl rfl rfl rfl ?_ ?_) ?_) | (refine NX.k 8 ?_; first | refine NX.one (One.eqBoolM hA tabOk rfl rfl rfl rfl rfl) ?_) | (refine NX.k 9 ?_; first | refine NX.one (One.neBoolM hA tabOk rfl rfl rfl rfl rfl) ?_) | (refine NX.k 10 ?_; first | refine NX.one (One.lenOwnM hA tabOk rfl rfl rfl rfl) ?_) | (refine NX.k 14 ?_; first | refine NX.one (One.loadRatM hA tabOk rfl rfl rfl rfl rfl rfl ?_) ?_) | (refine NX.k 15 ?_; first | refine NX.one (One.storeRatM hA tabOk _ rfl rfl rfl rfl rfl rfl rfl rfl (fun _ => rfl) ?_) ?_) | (refine NX.k 16 ?_; first | refine NX.one (One.makeM hA tabOk encI 0 rfl rfl rfl rfl rfl rfl rfl ?_ ?_ ?_) ?_) | (refine NX.k 18 ?_; first | refine NX.one (One.fieldRat tabOk rfl rfl rfl rfl (by decide) rfl rfl) ?_)) <;> (first | refine AOLg.pass ?_ | (((try simp only [zn]) <;> (try simp (disch := omega) only [zz hA, zb, zy, reduceCtorEq, Bool.false_eq_true, Int.reduceLT, Int.reduceLE, Int.reduceNeg]) <;> (try simp only [zw])) <;> omega)))
            | refine NX.raw ?_)
        | (refine TRg.pass ?_; refine TRg.nx hA tabOk (by conv => lhs; cbv) ?_; first
            | refine TX.done ?_
            | refine TX.gt ?_
            | refine TX.gf ?_
            | (refine TX.gs ?_ ?_ <;> intro hc <;> rw [hc] <;> ((try simp only [zn] at hc) <;> (try simp (disch := omega) only [zz hA, zb, zy, reduceCtorEq, Bool.false_eq_true, Int.reduceLT, Int.reduceLE, Int.reduceNeg] at hc) <;> (try simp only [zw] at hc)) <;> (try (exfalso; omega)))
            | ((first | (refine TX.k 1 ?_; first | refine TX.one (One.elemM hA tabOk rfl rfl rfl rfl ?_ ?_) ?_ | refine TX.one (One.elemOwnM hA tabOk rfl rfl rfl rfl rfl ?_ ?_) ?_) | (refine TX.k 8 ?_; first | refine TX.one (One.eqBoolM hA tabOk rfl rfl rfl rfl rfl) ?_) | (refine TX.k 9 ?_; first | refine TX.one (One.neBoolM hA tabOk rfl rfl rfl rfl rfl) ?_) | (refine TX.k 10 ?_; first | refine TX.one (One.lenOwnM hA tabOk rfl rfl rfl rfl) ?_) | (refine TX.k 14 ?_; first | refine TX.one (One.loadRatM hA tabOk rfl rfl rfl rfl rfl rfl ?_) ?_) | (refine TX.k 15 ?_; first | refine TX.one (One.storeRatM hA tabOk _ rfl rfl rfl rfl rfl rfl rfl rfl (fun _ => rfl) ?_) ?_) | (refine TX.k 16 ?_; first | refine TX.one (One.makeM hA tabOk encI 0 rfl rfl rfl rfl rfl rfl rfl ?_ ?_ ?_) ?_) | (refine TX.k 18 ?_; first | refine TX.one (One.fieldRat tabOk rfl rfl rfl rfl (by decide) rfl rfl) ?_)) <;> (first | refine TRg.pass ?_ | (((try simp only [zn]) <;> (try simp (disch := omega) only [zz hA, zb, zy, reduceCtorEq, Bool.false_eq_true, Int.reduceLT, Int.reduceLE, Int.reduceNeg]) <;> (try simp only [zw])) <;> omega)))
            | refine TX.raw ?_)
        | refine Fin3.of (by conv => lhs; cbv) (by repeat' (first | exact True.intro | exact rfl | refine And.intro ?_ ?_)) ?_ ?_
        | (refine AllO.pass ?_; first
            | exact AllO.nil
            | (refine AllO.cons (One.ev hA tabOk ?_) ?_ <;> (first | refine AllO.pass ?_ | ((conv => lhs; cbv); done)))
            | (refine AllO.cons (One.skipB ?_) ?_ <;> (first | refine AllO.pass ?_ | ((conv => lhs; cbv); done)))
            | ((first | refine AllO.consX (One.elemM hA tabOk rfl rfl rfl rfl ?_ ?_) rfl rfl ?_ | refine AllO.consX (One.lenOwnM hA tabOk rfl rfl rfl rfl) rfl rfl ?_ | refine AllO.consX (One.elemOwnM hA tabOk rfl rfl rfl rfl rfl ?_ ?_) rfl rfl ?_ | refine AllO.consX (One.loadRatM hA tabOk rfl rfl rfl rfl rfl rfl ?_) rfl rfl ?_) <;> (first | refine AllO.pass ?_ | (((try simp only [zn]) <;> (try simp (disch := omega) only [zz hA, zb, zy, reduceCtorEq, Bool.false_eq_true, Int.reduceLT, Int.reduceLE, Int.reduceNeg]) <;> (try simp only [zw])) <;> omega))))
        | refine Thn.exit ?_
        | refine Blk.here ?_
        | refine Blk.other (by decide) ?_
        | refine ⟨.inl rfl, _, RetOk.ev tabOk (by conv => lhs; cbv), ?_⟩
        | fail)
      refine ⟨rfl, rfl, ?_⟩
      intro bz hbz
      have hk7 : ka = 0 ∨ ka = 1 ∨ ka = 2 ∨ ka = 3 ∨ ka = 4 ∨ ka = 5 ∨ ka = 6 := by omega
      rcases hk7 with rfl | rfl | rfl | rfl | rfl | rfl | rfl
      · have hp0 : p = 0 := by unfold partsM at hpd; simp at hpd; omega
        have hn0 : na = 0 := by omega
        subst hn0 hp0
        have hO2 : O2 = O := hstep
        try first | refine AOLg.of [] ?_ | refine QSg.of [] ?_
        repeat' (first
          | (refine AWp.pass ?_; first
              | refine AWp.seq ?_
              | refine AWp.block ?_
              | refine AWp.skip ?_
              | refine AWp.regG [] (by conv => lhs; cbv) ?_
              | refine AWp.cond_t rfl ?_
              | refine AWp.cond_f rfl ?_
              | (refine AWp.cond rfl ?_ ?_ <;> intro hc <;> (try rw [hc]) <;> ((try simp only [zn] at hc) <;> (try simp (disch := omega) only [zz hA, zb, zy, reduceCtorEq, Bool.false_eq_true, Int.reduceLT, Int.reduceLE, Int.reduceNeg] at hc) <;> (try simp only [zw] at hc)) <;> (try (exfalso; omega)))
              | refine AWp.exit ?_
              | refine AWp.ret ⟨.inr rfl, _, RetOk.ev tabOk (by conv => lhs; cbv), ?_⟩
              | refine AWp.drawVG [] rfl (by decide +kernel) (by conv => lhs; cbv) ?_)
          | (refine AOLg.pass ?_; refine AOLg.nx hA tabOk (by conv => lhs; cbv) ?_; first
              | refine NX.done ?_
              | refine NX.gt ?_
              | refine NX.gf ?_
              | (refine NX.gs ?_ ?_ <;> intro hc <;> rw [hc] <;> ((try simp only [zn] at hc) <;> (try simp (disch := omega) only [zz hA, zb, zy, reduceCtorEq, Bool.false_eq_true, Int.reduceLT, Int.reduceLE, Int.reduceNeg] at hc) <;> (try simp only [zw] at hc)) <;> (try (exfalso; omega)))
              | ((first | (refine NX.k 1 ?_; first | refine NX.one (One.elemM hA tabOk rfl rfl rfl rfl ?_ ?_) ?_ | refine NX.one (One.elemOwnM hA tabOk rfl rfl rfl rfl rfl ?_ ?_) ?_) | (refine NX.k 8 ?_; first | refine NX.one (One.eqBoolM hA tabOk rfl rfl rfl rfl rfl) ?_) | (refine NX.k 9 ?_; first | refine NX.one (One.neBoolM hA tabOk rfl rfl rfl rfl rfl) ?_) | (refine NX.k 10 ?_; first | refine NX.one (One.lenOwnM hA tabOk rfl rfl rfl rfl) ?_) | (refine NX.k 14 ?_; first | refine NX.one (One.loadRatM hA tabOk rfl rfl rfl rfl rfl rfl ?_) ?_) | (refine NX.k 15 ?_; first | refine NX.one (One.storeRatM hA tabOk _ rfl rfl rfl rfl rfl rfl rfl rfl (fun _ => rfl) ?_) ?_) | (refine NX.k 16 ?_; first | refine NX.one (One.makeM hA tabOk encI 0 rfl rfl rfl rfl rfl rfl rfl ?_ ?_ ?_) ?_) | (refine NX.k 18 ?_; first | refine NX.one (One.fieldRat tabOk rfl rfl rfl rfl (by decide) rfl rfl) ?_)) <;> (first | refine AOLg.pass ?_ | (((try simp only [zn]) <;> (try simp (disch := omega) only [zz hA, zb, zy, reduceCtorEq, Bool.false_eq_true, Int.reduceLT, Int.reduceLE, Int.reduceNeg]) <;> (try simp only [zw])) <;> omega)))
              | refine NX.raw ?_)
          | (refine TRg.pass ?_; refine TRg.nx hA tabOk (by conv => lhs; cbv) ?_; first
              | refine TX.done ?_
              | refine TX.gt ?_
              | refine TX.gf ?_
              | (refine TX.gs ?_ ?_ <;> intro hc <;> rw [hc] <;> ((try simp only [zn] at hc) <;> (try simp (disch := omega) only [zz hA, zb, zy, reduceCtorEq, Bool.false_eq_true, Int.reduceLT, Int.reduceLE, Int.reduceNeg] at hc) <;> (try simp only [zw] at hc)) <;> (try (exfalso; omega)))
              | ((first | (refine TX.k 1 ?_; first | refine TX.one (One.elemM hA tabOk rfl rfl rfl rfl ?_ ?_) ?_ | refine TX.one (One.elemOwnM hA tabOk rfl rfl rfl rfl rfl ?_ ?_) ?_) | (refine TX.k 8 ?_; first | refine TX.one (One.eqBoolM hA tabOk rfl rfl rfl rfl rfl) ?_) | (refine TX.k 9 ?_; first | refine TX.one (One.neBoolM hA tabOk rfl rfl rfl rfl rfl) ?_) | (refine TX.k 10 ?_; first | refine TX.one (One.lenOwnM hA tabOk rfl rfl rfl rfl) ?_) | (refine TX.k 14 ?_; first | refine TX.one (One.loadRatM hA tabOk rfl rfl rfl rfl rfl rfl ?_) ?_) | (refine TX.k 15 ?_; first | refine TX.one (One.storeRatM hA tabOk _ rfl rfl rfl rfl rfl rfl rfl rfl (fun _ => rfl) ?_) ?_) | (refine TX.k 16 ?_; first | refine TX.one (One.makeM hA tabOk encI 0 rfl rfl rfl rfl rfl rfl rfl ?_ ?_ ?_) ?_) | (refine TX.k 18 ?_; first | refine TX.one (One.fieldRat tabOk rfl rfl rfl rfl (by decide) rfl rfl) ?_)) <;> (first | refine TRg.pass ?_ | (((try simp only [zn]) <;> (try simp (disch := omega) only [zz hA, zb, zy, reduceCtorEq, Bool.false_eq_true, Int.reduceLT, Int.reduceLE, Int.reduceNeg]) <;> (try simp only [zw])) <;> omega)))
              | refine TX.raw ?_)
          | refine Fin3.of (by conv => lhs; cbv) (by repeat' (first | exact True.intro | exact rfl | refine And.intro ?_ ?_)) ?_ ?_
          | (refine AllO.pass ?_; first
              | exact AllO.nil
              | (refine AllO.cons (One.ev hA tabOk ?_) ?_ <;> (first | refine AllO.pass ?_ | ((conv => lhs; cbv); done)))
              | (refine AllO.cons (One.skipB ?_) ?_ <;> (first | refine AllO.pass ?_ | ((conv => lhs; cbv); done)))
              | ((first | refine AllO.consX (One.elemM hA tabOk rfl rfl rfl rfl ?_ ?_) rfl rfl ?_ | refine AllO.consX (One.lenOwnM hA tabOk rfl rfl rfl rfl) rfl rfl ?_ | refine AllO.consX (One.elemOwnM hA tabOk rfl rfl rfl rfl rfl ?_ ?_) rfl rfl ?_ | refine AllO.consX (One.loadRatM hA tabOk rfl rfl rfl rfl rfl rfl ?_) rfl rfl ?_) <;> (first | refine AllO.pass ?_ | (((try simp only [zn]) <;> (try simp (disch := omega) only [zz hA, zb, zy, reduceCtorEq, Bool.false_eq_true, Int.reduceLT, Int.reduceLE, Int.reduceNeg]) <;> (try simp only [zw])) <;> omega))))
          | refine Thn.exit ?_
          | refine Blk.here ?_
          | refine Blk.other (by decide) ?_
          | refine ⟨.inl rfl, _, RetOk.ev tabOk (by conv => lhs; cbv), ?_⟩
          | fail)
        refine AWp.loopU (fun j : Nat => [(16, .ic (.lit (.int .i64 (hid A (cN 0 - 1 - cN j)))))]) (fun j => [.var true 22 [.ic (.sl 2 false (hid A (List.map (encG A) l)))], .var true 41 [.ic (.sl 1 false (hid A (List.map encI S)))], .row true 0 5 1 (hid A (List.map encU O)), .var true 31 [.own 2 0], .var true 23 [.ic (.sl 3 false (hid A (List.map (encD A) E)))], .lp bz, .var true 38 [.ic (.lit (.int .i64 0)), .ic (.lit (.string sa)), .ic (.lit (.int .i64 0))]]) (fun j => 0 - j) (fun j => j = 0) 0 (by conv => lhs; cbv) rfl (.int rfl (by (((try simp only [zn]) <;> (try simp (disch := omega) only [zz hA, zb, zy, reduceCtorEq, Bool.false_eq_true, Int.reduceLT, Int.reduceLE, Int.reduceNeg]) <;> (try simp only [zw])) <;> omega)) .nil) rfl ?_
        rintro j rfl
        try first | refine AOLg.of [] ?_ | refine QSg.of [] ?_
        repeat' (first
          | (refine AWp.pass ?_; first
              | refine AWp.seq ?_
              | refine AWp.block ?_
              | refine AWp.skip ?_
              | refine AWp.regG [] (by conv => lhs; cbv) ?_
              | refine AWp.cond_t rfl ?_
              | refine AWp.cond_f rfl ?_
              | (refine AWp.cond rfl ?_ ?_ <;> intro hc <;> (try rw [hc]) <;> ((try simp only [zn] at hc) <;> (try simp (disch := omega) only [zz hA, zb, zy, reduceCtorEq, Bool.false_eq_true, Int.reduceLT, Int.reduceLE, Int.reduceNeg] at hc) <;> (try simp only [zw] at hc)) <;> (try (exfalso; omega)))
              | refine AWp.exit ?_
              | refine AWp.ret ⟨.inr rfl, _, RetOk.ev tabOk (by conv => lhs; cbv), ?_⟩
              | refine AWp.drawVG [] rfl (by decide +kernel) (by conv => lhs; cbv) ?_)
          | (refine AOLg.pass ?_; refine AOLg.nx hA tabOk (by conv => lhs; cbv) ?_; first
              | refine NX.done ?_
              | refine NX.gt ?_
              | refine NX.gf ?_
              | (refine NX.gs ?_ ?_ <;> intro hc <;> rw [hc] <;> ((try simp only [zn] at hc) <;> (try simp (disch := omega) only [zz hA, zb, zy, reduceCtorEq, Bool.false_eq_true, Int.reduceLT, Int.reduceLE, Int.reduceNeg] at hc) <;> (try simp only [zw] at hc)) <;> (try (exfalso; omega)))
              | ((first | (refine NX.k 1 ?_; first | refine NX.one (One.elemM hA tabOk rfl rfl rfl rfl ?_ ?_) ?_ | refine NX.one (One.elemOwnM hA tabOk rfl rfl rfl rfl rfl ?_ ?_) ?_) | (refine NX.k 8 ?_; first | refine NX.one (One.eqBoolM hA tabOk rfl rfl rfl rfl rfl) ?_) | (refine NX.k 9 ?_; first | refine NX.one (One.neBoolM hA tabOk rfl rfl rfl rfl rfl) ?_) | (refine NX.k 10 ?_; first | refine NX.one (One.lenOwnM hA tabOk rfl rfl rfl rfl) ?_) | (refine NX.k 14 ?_; first | refine NX.one (One.loadRatM hA tabOk rfl rfl rfl rfl rfl rfl ?_) ?_) | (refine NX.k 15 ?_; first | refine NX.one (One.storeRatM hA tabOk _ rfl rfl rfl rfl rfl rfl rfl rfl (fun _ => rfl) ?_) ?_) | (refine NX.k 16 ?_; first | refine NX.one (One.makeM hA tabOk encI 0 rfl rfl rfl rfl rfl rfl rfl ?_ ?_ ?_) ?_) | (refine NX.k 18 ?_; first | refine NX.one (One.fieldRat tabOk rfl rfl rfl rfl (by decide) rfl rfl) ?_)) <;> (first | refine AOLg.pass ?_ | (((try simp only [zn]) <;> (try simp (disch := omega) only [zz hA, zb, zy, reduceCtorEq, Bool.false_eq_true, Int.reduceLT, Int.reduceLE, Int.reduceNeg]) <;> (try simp only [zw])) <;> omega)))
              | refine NX.raw ?_)
          | (refine TRg.pass ?_; refine TRg.nx hA tabOk (by conv => lhs; cbv) ?_; first
              | refine TX.done ?_
              | refine TX.gt ?_
              | refine TX.gf ?_
              | (refine TX.gs ?_ ?_ <;> intro hc <;> rw [hc] <;> ((try simp only [zn] at hc) <;> (try simp (disch := omega) only [zz hA, zb, zy, reduceCtorEq, Bool.false_eq_true, Int.reduceLT, Int.reduceLE, Int.reduceNeg] at hc) <;> (try simp only [zw] at hc)) <;> (try (exfalso; omega)))
              | ((first | (refine TX.k 1 ?_; first | refine TX.one (One.elemM hA tabOk rfl rfl rfl rfl ?_ ?_) ?_ | refine TX.one (One.elemOwnM hA tabOk rfl rfl rfl rfl rfl ?_ ?_) ?_) | (refine TX.k 8 ?_; first | refine TX.one (One.eqBoolM hA tabOk rfl rfl rfl rfl rfl) ?_) | (refine TX.k 9 ?_; first | refine TX.one (One.neBoolM hA tabOk rfl rfl rfl rfl rfl) ?_) | (refine TX.k 10 ?_; first | refine TX.one (One.lenOwnM hA tabOk rfl rfl rfl rfl) ?_) | (refine TX.k 14 ?_; first | refine TX.one (One.loadRatM hA tabOk rfl rfl rfl rfl rfl rfl ?_) ?_) | (refine TX.k 15 ?_; first | refine TX.one (One.storeRatM hA tabOk _ rfl rfl rfl rfl rfl rfl rfl rfl (fun _ => rfl) ?_) ?_) | (refine TX.k 16 ?_; first | refine TX.one (One.makeM hA tabOk encI 0 rfl rfl rfl rfl rfl rfl rfl ?_ ?_ ?_) ?_) | (refine TX.k 18 ?_; first | refine TX.one (One.fieldRat tabOk rfl rfl rfl rfl (by decide) rfl rfl) ?_)) <;> (first | refine TRg.pass ?_ | (((try simp only [zn]) <;> (try simp (disch := omega) only [zz hA, zb, zy, reduceCtorEq, Bool.false_eq_true, Int.reduceLT, Int.reduceLE, Int.reduceNeg]) <;> (try simp only [zw])) <;> omega)))
              | refine TX.raw ?_)
          | refine Fin3.of (by conv => lhs; cbv) (by repeat' (first | exact True.intro | exact rfl | refine And.intro ?_ ?_)) ?_ ?_
          | (refine AllO.pass ?_; first
              | exact AllO.nil
              | (refine AllO.cons (One.ev hA tabOk ?_) ?_ <;> (first | refine AllO.pass ?_ | ((conv => lhs; cbv); done)))
              | (refine AllO.cons (One.skipB ?_) ?_ <;> (first | refine AllO.pass ?_ | ((conv => lhs; cbv); done)))
              | ((first | refine AllO.consX (One.elemM hA tabOk rfl rfl rfl rfl ?_ ?_) rfl rfl ?_ | refine AllO.consX (One.lenOwnM hA tabOk rfl rfl rfl rfl) rfl rfl ?_ | refine AllO.consX (One.elemOwnM hA tabOk rfl rfl rfl rfl rfl ?_ ?_) rfl rfl ?_ | refine AllO.consX (One.loadRatM hA tabOk rfl rfl rfl rfl rfl rfl ?_) rfl rfl ?_) <;> (first | refine AllO.pass ?_ | (((try simp only [zn]) <;> (try simp (disch := omega) only [zz hA, zb, zy, reduceCtorEq, Bool.false_eq_true, Int.reduceLT, Int.reduceLE, Int.reduceNeg]) <;> (try simp only [zw])) <;> omega))))
          | refine Thn.exit ?_
          | refine Blk.here ?_
          | refine Blk.other (by decide) ?_
          | refine ⟨.inl rfl, _, RetOk.ev tabOk (by conv => lhs; cbv), ?_⟩
          | fail)
        refine ⟨rfl, Nat.le_of_ble_eq_true rfl, (by repeat' (first | exact trimOk.nil | refine trimOk.same ?_ | refine trimOk.turn rfl ?_)), ?_⟩
        refine .inl ⟨rfl, by omega, ?_⟩
        rw [hO2]
        rfl
      · have hp0 : p = 0 := by unfold partsM at hpd; simp at hpd; omega
        have hn0 : na = 0 := by omega
        subst hn0 hp0
        have hO2 : O2 = O := hstep
        try first | refine AOLg.of [] ?_ | refine QSg.of [] ?_
        repeat' (first
          | (refine AWp.pass ?_; first
              | refine AWp.seq ?_
              | refine AWp.block ?_
              | refine AWp.skip ?_
              | refine AWp.regG [] (by conv => lhs; cbv) ?_
              | refine AWp.cond_t rfl ?_
              | refine AWp.cond_f rfl ?_
              | (refine AWp.cond rfl ?_ ?_ <;> intro hc <;> (try rw [hc]) <;> ((try simp only [zn] at hc) <;> (try simp (disch := omega) only [zz hA, zb, zy, reduceCtorEq, Bool.false_eq_true, Int.reduceLT, Int.reduceLE, Int.reduceNeg] at hc) <;> (try simp only [zw] at hc)) <;> (try (exfalso; omega)))
              | refine AWp.exit ?_
              | refine AWp.ret ⟨.inr rfl, _, RetOk.ev tabOk (by conv => lhs; cbv), ?_⟩
              | refine AWp.drawVG [] rfl (by decide +kernel) (by conv => lhs; cbv) ?_)
          | (refine AOLg.pass ?_; refine AOLg.nx hA tabOk (by conv => lhs; cbv) ?_; first
              | refine NX.done ?_
              | refine NX.gt ?_
              | refine NX.gf ?_
              | (refine NX.gs ?_ ?_ <;> intro hc <;> rw [hc] <;> ((try simp only [zn] at hc) <;> (try simp (disch := omega) only [zz hA, zb, zy, reduceCtorEq, Bool.false_eq_true, Int.reduceLT, Int.reduceLE, Int.reduceNeg] at hc) <;> (try simp only [zw] at hc)) <;> (try (exfalso; omega)))
              | ((first | (refine NX.k 1 ?_; first | refine NX.one (One.elemM hA tabOk rfl rfl rfl rfl ?_ ?_) ?_ | refine NX.one (One.elemOwnM hA tabOk rfl rfl rfl rfl rfl ?_ ?_) ?_) | (refine NX.k 8 ?_; first | refine NX.one (One.eqBoolM hA tabOk rfl rfl rfl rfl rfl) ?_) | (refine NX.k 9 ?_; first | refine NX.one (One.neBoolM hA tabOk rfl rfl rfl rfl rfl) ?_) | (refine NX.k 10 ?_; first | refine NX.one (One.lenOwnM hA tabOk rfl rfl rfl rfl) ?_) | (refine NX.k 14 ?_; first | refine NX.one (One.loadRatM hA tabOk rfl rfl rfl rfl rfl rfl ?_) ?_) | (refine NX.k 15 ?_; first | refine NX.one (One.storeRatM hA tabOk _ rfl rfl rfl rfl rfl rfl rfl rfl (fun _ => rfl) ?_) ?_) | (refine NX.k 16 ?_; first | refine NX.one (One.makeM hA tabOk encI 0 rfl rfl rfl rfl rfl rfl rfl ?_ ?_ ?_) ?_) | (refine NX.k 18 ?_; first | refine NX.one (One.fieldRat tabOk rfl rfl rfl rfl (by decide) rfl rfl) ?_)) <;> (first | refine AOLg.pass ?_ | (((try simp only [zn]) <;> (try simp (disch := omega) only [zz hA, zb, zy, reduceCtorEq, Bool.false_eq_true, Int.reduceLT, Int.reduceLE, Int.reduceNeg]) <;> (try simp only [zw])) <;> omega)))
              | refine NX.raw ?_)
          | (refine TRg.pass ?_; refine TRg.nx hA tabOk (by conv => lhs; cbv) ?_; first
              | refine TX.done ?_
              | refine TX.gt ?_
              | refine TX.gf ?_
              | (refine TX.gs ?_ ?_ <;> intro hc <;> rw [hc] <;> ((try simp only [zn] at hc) <;> (try simp (disch := omega) only [zz hA, zb, zy, reduceCtorEq, Bool.false_eq_true, Int.reduceLT, Int.reduceLE, Int.reduceNeg] at hc) <;> (try simp only [zw] at hc)) <;> (try (exfalso; omega)))
              | ((first | (refine TX.k 1 ?_; first | refine TX.one (One.elemM hA tabOk rfl rfl rfl rfl ?_ ?_) ?_ | refine TX.one (One.elemOwnM hA tabOk rfl rfl rfl rfl rfl ?_ ?_) ?_) | (refine TX.k 8 ?_; first | refine TX.one (One.eqBoolM hA tabOk rfl rfl rfl rfl rfl) ?_) | (refine TX.k 9 ?_; first | refine TX.one (One.neBoolM hA tabOk rfl rfl rfl rfl rfl) ?_) | (refine TX.k 10 ?_; first | refine TX.one (One.lenOwnM hA tabOk rfl rfl rfl rfl) ?_) | (refine TX.k 14 ?_; first | refine TX.one (One.loadRatM hA tabOk rfl rfl rfl rfl rfl rfl ?_) ?_) | (refine TX.k 15 ?_; first | refine TX.one (One.storeRatM hA tabOk _ rfl rfl rfl rfl rfl rfl rfl rfl (fun _ => rfl) ?_) ?_) | (refine TX.k 16 ?_; first | refine TX.one (One.makeM hA tabOk encI 0 rfl rfl rfl rfl rfl rfl rfl ?_ ?_ ?_) ?_) | (refine TX.k 18 ?_; first | refine TX.one (One.fieldRat tabOk rfl rfl rfl rfl (by decide) rfl rfl) ?_)) <;> (first | refine TRg.pass ?_ | (((try simp only [zn]) <;> (try simp (disch := omega) only [zz hA, zb, zy, reduceCtorEq, Bool.false_eq_true, Int.reduceLT, Int.reduceLE, Int.reduceNeg]) <;> (try simp only [zw])) <;> omega)))
              | refine TX.raw ?_)
          | refine Fin3.of (by conv => lhs; cbv) (by repeat' (first | exact True.intro | exact rfl | refine And.intro ?_ ?_)) ?_ ?_
          | (refine AllO.pass ?_; first
              | exact AllO.nil
              | (refine AllO.cons (One.ev hA tabOk ?_) ?_ <;> (first | refine AllO.pass ?_ | ((conv => lhs; cbv); done)))
              | (refine AllO.cons (One.skipB ?_) ?_ <;> (first | refine AllO.pass ?_ | ((conv => lhs; cbv); done)))
              | ((first | refine AllO.consX (One.elemM hA tabOk rfl rfl rfl rfl ?_ ?_) rfl rfl ?_ | refine AllO.consX (One.lenOwnM hA tabOk rfl rfl rfl rfl) rfl rfl ?_ | refine AllO.consX (One.elemOwnM hA tabOk rfl rfl rfl rfl rfl ?_ ?_) rfl rfl ?_ | refine AllO.consX (One.loadRatM hA tabOk rfl rfl rfl rfl rfl rfl ?_) rfl rfl ?_) <;> (first | refine AllO.pass ?_ | (((try simp only [zn]) <;> (try simp (disch := omega) only [zz hA, zb, zy, reduceCtorEq, Bool.false_eq_true, Int.reduceLT, Int.reduceLE, Int.reduceNeg]) <;> (try simp only [zw])) <;> omega))))
          | refine Thn.exit ?_
          | refine Blk.here ?_
          | refine Blk.other (by decide) ?_
          | refine ⟨.inl rfl, _, RetOk.ev tabOk (by conv => lhs; cbv), ?_⟩
          | fail)
        refine AWp.loopU (fun j : Nat => [(16, .ic (.lit (.int .i64 (hid A (cN 0 - 1 - cN j)))))]) (fun j => [.var true 22 [.ic (.sl 2 false (hid A (List.map (encG A) l)))], .var true 41 [.ic (.sl 1 false (hid A (List.map encI S)))], .row true 0 5 1 (hid A (List.map encU O)), .var true 31 [.own 2 0], .var true 23 [.ic (.sl 3 false (hid A (List.map (encD A) E)))], .lp bz, .var true 38 [.ic (.lit (.int .i64 1)), .ic (.lit (.string sa)), .ic (.lit (.int .i64 0))]]) (fun j => 0 - j) (fun j => j = 0) 0 (by conv => lhs; cbv) rfl (.int rfl (by (((try simp only [zn]) <;> (try simp (disch := omega) only [zz hA, zb, zy, reduceCtorEq, Bool.false_eq_true, Int.reduceLT, Int.reduceLE, Int.reduceNeg]) <;> (try simp only [zw])) <;> omega)) .nil) rfl ?_
        rintro j rfl
        try first | refine AOLg.of [] ?_ | refine QSg.of [] ?_
        repeat' (first
          | (refine AWp.pass ?_; first
              | refine AWp.seq ?_
              | refine AWp.block ?_
              | refine AWp.skip ?_
              | refine AWp.regG [] (by conv => lhs; cbv) ?_
              | refine AWp.cond_t rfl ?_
              | refine AWp.cond_f rfl ?_
              | (refine AWp.cond rfl ?_ ?_ <;> intro hc <;> (try rw [hc]) <;> ((try simp only [zn] at hc) <;> (try simp (disch := omega) only [zz hA, zb, zy, reduceCtorEq, Bool.false_eq_true, Int.reduceLT, Int.reduceLE, Int.reduceNeg] at hc) <;> (try simp only [zw] at hc)) <;> (try (exfalso; omega)))
              | refine AWp.exit ?_
              | refine AWp.ret ⟨.inr rfl, _, RetOk.ev tabOk (by conv => lhs; cbv), ?_⟩
              | refine AWp.drawVG [] rfl (by decide +kernel) (by conv => lhs; cbv) ?_)
          | (refine AOLg.pass ?_; refine AOLg.nx hA tabOk (by conv => lhs; cbv) ?_; first
              | refine NX.done ?_
              | refine NX.gt ?_
              | refine NX.gf ?_
              | (refine NX.gs ?_ ?_ <;> intro hc <;> rw [hc] <;> ((try simp only [zn] at hc) <;> (try simp (disch := omega) only [zz hA, zb, zy, reduceCtorEq, Bool.false_eq_true, Int.reduceLT, Int.reduceLE, Int.reduceNeg] at hc) <;> (try simp only [zw] at hc)) <;> (try (exfalso; omega)))
              | ((first | (refine NX.k 1 ?_; first | refine NX.one (One.elemM hA tabOk rfl rfl rfl rfl ?_ ?_) ?_ | refine NX.one (One.elemOwnM hA tabOk rfl rfl rfl rfl rfl ?_ ?_) ?_) | (refine NX.k 8 ?_; first | refine NX.one (One.eqBoolM hA tabOk rfl rfl rfl rfl rfl) ?_) | (refine NX.k 9 ?_; first | refine NX.one (One.neBoolM hA tabOk rfl rfl rfl rfl rfl) ?_) | (refine NX.k 10 ?_; first | refine NX.one (One.lenOwnM hA tabOk rfl rfl rfl rfl) ?_) | (refine NX.k 14 ?_; first | refine NX.one (One.loadRatM hA tabOk rfl rfl rfl rfl rfl rfl ?_) ?_) | (refine NX.k 15 ?_; first | refine NX.one (One.storeRatM hA tabOk _ rfl rfl rfl rfl rfl rfl rfl rfl (fun _ => rfl) ?_) ?_) | (refine NX.k 16 ?_; first | refine NX.one (One.makeM hA tabOk encI 0 rfl rfl rfl rfl rfl rfl rfl ?_ ?_ ?_) ?_) | (refine NX.k 18 ?_; first | refine NX.one (One.fieldRat tabOk rfl rfl rfl rfl (by decide) rfl rfl) ?_)) <;> (first | refine AOLg.pass ?_ | (((try simp only [zn]) <;> (try simp (disch := omega) only [zz hA, zb, zy, reduceCtorEq, Bool.false_eq_true, Int.reduceLT, Int.reduceLE, Int.reduceNeg]) <;> (try simp only [zw])) <;> omega)))
              | refine NX.raw ?_)
          | (refine TRg.pass ?_; refine TRg.nx hA tabOk (by conv => lhs; cbv) ?_; first
              | refine TX.done ?_
              | refine TX.gt ?_
              | refine TX.gf ?_
              | (refine TX.gs ?_ ?_ <;> intro hc <;> rw [hc] <;> ((try simp only [zn] at hc) <;> (try simp (disch := omega) only [zz hA, zb, zy, reduceCtorEq, Bool.false_eq_true, Int.reduceLT, Int.reduceLE, Int.reduceNeg] at hc) <;> (try simp only [zw] at hc)) <;> (try (exfalso; omega)))
              | ((first | (refine TX.k 1 ?_; first | refine TX.one (One.elemM hA tabOk rfl rfl rfl rfl ?_ ?_) ?_ | refine TX.one (One.elemOwnM hA tabOk rfl rfl rfl rfl rfl ?_ ?_) ?_) | (refine TX.k 8 ?_; first | refine TX.one (One.eqBoolM hA tabOk rfl rfl rfl rfl rfl) ?_) | (refine TX.k 9 ?_; first | refine TX.one (One.neBoolM hA tabOk rfl rfl rfl rfl rfl) ?_) | (refine TX.k 10 ?_; first | refine TX.one (One.lenOwnM hA tabOk rfl rfl rfl rfl) ?_) | (refine TX.k 14 ?_; first | refine TX.one (One.loadRatM hA tabOk rfl rfl rfl rfl rfl rfl ?_) ?_) | (refine TX.k 15 ?_; first | refine TX.one (One.storeRatM hA tabOk _ rfl rfl rfl rfl rfl rfl rfl rfl (fun _ => rfl) ?_) ?_) | (refine TX.k 16 ?_; first | refine TX.one (One.makeM hA tabOk encI 0 rfl rfl rfl rfl rfl rfl rfl ?_ ?_ ?_) ?_) | (refine TX.k 18 ?_; first | refine TX.one (One.fieldRat tabOk rfl rfl rfl rfl (by decide) rfl rfl) ?_)) <;> (first | refine TRg.pass ?_ | (((try simp only [zn]) <;> (try simp (disch := omega) only [zz hA, zb, zy, reduceCtorEq, Bool.false_eq_true, Int.reduceLT, Int.reduceLE, Int.reduceNeg]) <;> (try simp only [zw])) <;> omega)))
              | refine TX.raw ?_)
          | refine Fin3.of (by conv => lhs; cbv) (by repeat' (first | exact True.intro | exact rfl | refine And.intro ?_ ?_)) ?_ ?_
          | (refine AllO.pass ?_; first
              | exact AllO.nil
              | (refine AllO.cons (One.ev hA tabOk ?_) ?_ <;> (first | refine AllO.pass ?_ | ((conv => lhs; cbv); done)))
              | (refine AllO.cons (One.skipB ?_) ?_ <;> (first | refine AllO.pass ?_ | ((conv => lhs; cbv); done)))
              | ((first | refine AllO.consX (One.elemM hA tabOk rfl rfl rfl rfl ?_ ?_) rfl rfl ?_ | refine AllO.consX (One.lenOwnM hA tabOk rfl rfl rfl rfl) rfl rfl ?_ | refine AllO.consX (One.elemOwnM hA tabOk rfl rfl rfl rfl rfl ?_ ?_) rfl rfl ?_ | refine AllO.consX (One.loadRatM hA tabOk rfl rfl rfl rfl rfl rfl ?_) rfl rfl ?_) <;> (first | refine AllO.pass ?_ | (((try simp only [zn]) <;> (try simp (disch := omega) only [zz hA, zb, zy, reduceCtorEq, Bool.false_eq_true, Int.reduceLT, Int.reduceLE, Int.reduceNeg]) <;> (try simp only [zw])) <;> omega))))
          | refine Thn.exit ?_
          | refine Blk.here ?_
          | refine Blk.other (by decide) ?_
          | refine ⟨.inl rfl, _, RetOk.ev tabOk (by conv => lhs; cbv), ?_⟩
          | fail)
        refine ⟨rfl, Nat.le_of_ble_eq_true rfl, (by repeat' (first | exact trimOk.nil | refine trimOk.same ?_ | refine trimOk.turn rfl ?_)), ?_⟩
        refine .inl ⟨rfl, by omega, ?_⟩
        rw [hO2]
        rfl
      · have hp0 : p = 0 := by unfold partsM at hpd; simp at hpd; omega
        have hn0 : na = 0 := by omega
        subst hn0 hp0
        have hO2 : O2 = O := hstep
        try first | refine AOLg.of [] ?_ | refine QSg.of [] ?_
        repeat' (first
          | (refine AWp.pass ?_; first
              | refine AWp.seq ?_
              | refine AWp.block ?_
              | refine AWp.skip ?_
              | refine AWp.regG [] (by conv => lhs; cbv) ?_
              | refine AWp.cond_t rfl ?_
              | refine AWp.cond_f rfl ?_
              | (refine AWp.cond rfl ?_ ?_ <;> intro hc <;> (try rw [hc]) <;> ((try simp only [zn] at hc) <;> (try simp (disch := omega) only [zz hA, zb, zy, reduceCtorEq, Bool.false_eq_true, Int.reduceLT, Int.reduceLE, Int.reduceNeg] at hc) <;> (try simp only [zw] at hc)) <;> (try (exfalso; omega)))
              | refine AWp.exit ?_
              | refine AWp.ret ⟨.inr rfl, _, RetOk.ev tabOk (by conv => lhs; cbv), ?_⟩
              | refine AWp.drawVG [] rfl (by decide +kernel) (by conv => lhs; cbv) ?_)
          | (refine AOLg.pass ?_; refine AOLg.nx hA tabOk (by conv => lhs; cbv) ?_; first
              | refine NX.done ?_
              | refine NX.gt ?_
              | refine NX.gf ?_
              | (refine NX.gs ?_ ?_ <;> intro hc <;> rw [hc] <;> ((try simp only [zn] at hc) <;> (try simp (disch := omega) only [zz hA, zb, zy, reduceCtorEq, Bool.false_eq_true, Int.reduceLT, Int.reduceLE, Int.reduceNeg] at hc) <;> (try simp only [zw] at hc)) <;> (try (exfalso; omega)))
              | ((first | (refine NX.k 1 ?_; first | refine NX.one (One.elemM hA tabOk rfl rfl rfl rfl ?_ ?_) ?_ | refine NX.one (One.elemOwnM hA tabOk rfl rfl rfl rfl rfl ?_ ?_) ?_) | (refine NX.k 8 ?_; first | refine NX.one (One.eqBoolM hA tabOk rfl rfl rfl rfl rfl) ?_) | (refine NX.k 9 ?_; first | refine NX.one (One.neBoolM hA tabOk rfl rfl rfl rfl rfl) ?_) | (refine NX.k 10 ?_; first | refine NX.one (One.lenOwnM hA tabOk rfl rfl rfl rfl) ?_) | (refine NX.k 14 ?_; first | refine NX.one (One.loadRatM hA tabOk rfl rfl rfl rfl rfl rfl ?_) ?_) | (refine NX.k 15 ?_; first | refine NX.one (One.storeRatM hA tabOk _ rfl rfl rfl rfl rfl rfl rfl rfl (fun _ => rfl) ?_) ?_) | (refine NX.k 16 ?_; first | refine NX.one (One.makeM hA tabOk encI 0 rfl rfl rfl rfl rfl rfl rfl ?_ ?_ ?_) ?_) | (refine NX.k 18 ?_; first | refine NX.one (One.fieldRat tabOk rfl rfl rfl rfl (by decide) rfl rfl) ?_)) <;> (first | refine AOLg.pass ?_ | (((try simp only [zn]) <;> (try simp (disch := omega) only [zz hA, zb, zy, reduceCtorEq, Bool.false_eq_true, Int.reduceLT, Int.reduceLE, Int.reduceNeg]) <;> (try simp only [zw])) <;> omega)))
              | refine NX.raw ?_)
          | (refine TRg.pass ?_; refine TRg.nx hA tabOk (by conv => lhs; cbv) ?_; first
              | refine TX.done ?_
              | refine TX.gt ?_
              | refine TX.gf ?_
              | (refine TX.gs ?_ ?_ <;> intro hc <;> rw [hc] <;> ((try simp only [zn] at hc) <;> (try simp (disch := omega) only [zz hA, zb, zy, reduceCtorEq, Bool.false_eq_true, Int.reduceLT, Int.reduceLE, Int.reduceNeg] at hc) <;> (try simp only [zw] at hc)) <;> (try (exfalso; omega)))
              | ((first | (refine TX.k 1 ?_; first | refine TX.one (One.elemM hA tabOk rfl rfl rfl rfl ?_ ?_) ?_ | refine TX.one (One.elemOwnM hA tabOk rfl rfl rfl rfl rfl ?_ ?_) ?_) | (refine TX.k 8 ?_; first | refine TX.one (One.eqBoolM hA tabOk rfl rfl rfl rfl rfl) ?_) | (refine TX.k 9 ?_; first | refine TX.one (One.neBoolM hA tabOk rfl rfl rfl rfl rfl) ?_) | (refine TX.k 10 ?_; first | refine TX.one (One.lenOwnM hA tabOk rfl rfl rfl rfl) ?_) | (refine TX.k 14 ?_; first | refine TX.one (One.loadRatM hA tabOk rfl rfl rfl rfl rfl rfl ?_) ?_) | (refine TX.k 15 ?_; first | refine TX.one (One.storeRatM hA tabOk _ rfl rfl rfl rfl rfl rfl rfl rfl (fun _ => rfl) ?_) ?_) | (refine TX.k 16 ?_; first | refine TX.one (One.makeM hA tabOk encI 0 rfl rfl rfl rfl rfl rfl rfl ?_ ?_ ?_) ?_) | (refine TX.k 18 ?_; first | refine TX.one (One.fieldRat tabOk rfl rfl rfl rfl (by decide) rfl rfl) ?_)) <;> (first | refine TRg.pass ?_ | (((try simp only [zn]) <;> (try simp (disch := omega) only [zz hA, zb, zy, reduceCtorEq, Bool.false_eq_true, Int.reduceLT, Int.reduceLE, Int.reduceNeg]) <;> (try simp only [zw])) <;> omega)))
              | refine TX.raw ?_)
          | refine Fin3.of (by conv => lhs; cbv) (by repeat' (first | exact True.intro | exact rfl | refine And.intro ?_ ?_)) ?_ ?_
          | (refine AllO.pass ?_; first
              | exact AllO.nil
              | (refine AllO.cons (One.ev hA tabOk ?_) ?_ <;> (first | refine AllO.pass ?_ | ((conv => lhs; cbv); done)))
              | (refine AllO.cons (One.skipB ?_) ?_ <;> (first | refine AllO.pass ?_ | ((conv => lhs; cbv); done)))
              | ((first | refine AllO.consX (One.elemM hA tabOk rfl rfl rfl rfl ?_ ?_) rfl rfl ?_ | refine AllO.consX (One.lenOwnM hA tabOk rfl rfl rfl rfl) rfl rfl ?_ | refine AllO.consX (One.elemOwnM hA tabOk rfl rfl rfl rfl rfl ?_ ?_) rfl rfl ?_ | refine AllO.consX (One.loadRatM hA tabOk rfl rfl rfl rfl rfl rfl ?_) rfl rfl ?_) <;> (first | refine AllO.pass ?_ | (((try simp only [zn]) <;> (try simp (disch := omega) only [zz hA, zb, zy, reduceCtorEq, Bool.false_eq_true, Int.reduceLT, Int.reduceLE, Int.reduceNeg]) <;> (try simp only [zw])) <;> omega))))
          | refine Thn.exit ?_
          | refine Blk.here ?_
          | refine Blk.other (by decide) ?_
          | refine ⟨.inl rfl, _, RetOk.ev tabOk (by conv => lhs; cbv), ?_⟩
          | fail)
        refine AWp.loopU (fun j : Nat => [(16, .ic (.lit (.int .i64 (hid A (cN 0 - 1 - cN j)))))]) (fun j => [.var true 22 [.ic (.sl 2 false (hid A (List.map (encG A) l)))], .var true 41 [.ic (.sl 1 false (hid A (List.map encI S)))], .row true 0 5 1 (hid A (List.map encU O)), .var true 31 [.own 2 0], .var true 23 [.ic (.sl 3 false (hid A (List.map (encD A) E)))], .lp bz, .var true 38 [.ic (.lit (.int .i64 2)), .ic (.lit (.string sa)), .ic (.lit (.int .i64 0))]]) (fun j => 0 - j) (fun j => j = 0) 0 (by conv => lhs; cbv) rfl (.int rfl (by (((try simp only [zn]) <;> (try simp (disch := omega) only [zz hA, zb, zy, reduceCtorEq, Bool.false_eq_true, Int.reduceLT, Int.reduceLE, Int.reduceNeg]) <;> (try simp only [zw])) <;> omega)) .nil) rfl ?_
        rintro j rfl
        try first | refine AOLg.of [] ?_ | refine QSg.of [] ?_
        repeat' (first
          | (refine AWp.pass ?_; first
              | refine AWp.seq ?_
              | refine AWp.block ?_
              | refine AWp.skip ?_
              | refine AWp.regG [] (by conv => lhs; cbv) ?_
              | refine AWp.cond_t rfl ?_
              | refine AWp.cond_f rfl ?_
              | (refine AWp.cond rfl ?_ ?_ <;> intro hc <;> (try rw [hc]) <;> ((try simp only [zn] at hc) <;> (try simp (disch := omega) only [zz hA, zb, zy, reduceCtorEq, Bool.false_eq_true, Int.reduceLT, Int.reduceLE, Int.reduceNeg] at hc) <;> (try simp only [zw] at hc)) <;> (try (exfalso; omega)))
              | refine AWp.exit ?_
              | refine AWp.ret ⟨.inr rfl, _, RetOk.ev tabOk (by conv => lhs; cbv), ?_⟩
              | refine AWp.drawVG [] rfl (by decide +kernel) (by conv => lhs; cbv) ?_)
          | (refine AOLg.pass ?_; refine AOLg.nx hA tabOk (by conv => lhs; cbv) ?_; first
              | refine NX.done ?_
              | refine NX.gt ?_
              | refine NX.gf ?_
              | (refine NX.gs ?_ ?_ <;> intro hc <;> rw [hc] <;> ((try simp only [zn] at hc) <;> (try simp (disch := omega) only [zz hA, zb, zy, reduceCtorEq, Bool.false_eq_true, Int.reduceLT, Int.reduceLE, Int.reduceNeg] at hc) <;> (try simp only [zw] at hc)) <;> (try (exfalso; omega)))
              | ((first | (refine NX.k 1 ?_; first | refine NX.one (One.elemM hA tabOk rfl rfl rfl rfl ?_ ?_) ?_ | refine NX.one (One.elemOwnM hA tabOk rfl rfl rfl rfl rfl ?_ ?_) ?_) | (refine NX.k 8 ?_; first | refine NX.one (One.eqBoolM hA tabOk rfl rfl rfl rfl rfl) ?_) | (refine NX.k 9 ?_; first | refine NX.one (One.neBoolM hA tabOk rfl rfl rfl rfl rfl) ?_) | (refine NX.k 10 ?_; first | refine NX.one (One.lenOwnM hA tabOk rfl rfl rfl rfl) ?_) | (refine NX.k 14 ?_; first | refine NX.one (One.loadRatM hA tabOk rfl rfl rfl rfl rfl rfl ?_) ?_) | (refine NX.k 15 ?_; first | refine NX.one (One.storeRatM hA tabOk _ rfl rfl rfl rfl rfl rfl rfl rfl (fun _ => rfl) ?_) ?_) | (refine NX.k 16 ?_; first | refine NX.one (One.makeM hA tabOk encI 0 rfl rfl rfl rfl rfl rfl rfl ?_ ?_ ?_) ?_) | (refine NX.k 18 ?_; first | refine NX.one (One.fieldRat tabOk rfl rfl rfl rfl (by decide) rfl rfl) ?_)) <;> (first | refine AOLg.pass ?_ | (((try simp only [zn]) <;> (try simp (disch := omega) only [zz hA, zb, zy, reduceCtorEq, Bool.false_eq_true, Int.reduceLT, Int.reduceLE, Int.reduceNeg]) <;> (try simp only [zw])) <;> omega)))
              | refine NX.raw ?_)
          | (refine TRg.pass ?_; refine TRg.nx hA tabOk (by conv => lhs; cbv) ?_; first
              | refine TX.done ?_
              | refine TX.gt ?_
              | refine TX.gf ?_
              | (refine TX.gs ?_ ?_ <;> intro hc <;> rw [hc] <;> ((try simp only [zn] at hc) <;> (try simp (disch := omega) only [zz hA, zb, zy, reduceCtorEq, Bool.false_eq_true, Int.reduceLT, Int.reduceLE, Int.reduceNeg] at hc) <;> (try simp only [zw] at hc)) <;> (try (exfalso; omega)))
              | ((first | (refine TX.k 1 ?_; first | refine TX.one (One.elemM hA tabOk rfl rfl rfl rfl ?_ ?_) ?_ | refine TX.one (One.elemOwnM hA tabOk rfl rfl rfl rfl rfl ?_ ?_) ?_) | (refine TX.k 8 ?_; first | refine TX.one (One.eqBoolM hA tabOk rfl rfl rfl rfl rfl) ?_) | (refine TX.k 9 ?_; first | refine TX.one (One.neBoolM hA tabOk rfl rfl rfl rfl rfl) ?_) | (refine TX.k 10 ?_; first | refine TX.one (One.lenOwnM hA tabOk rfl rfl rfl rfl) ?_) | (refine TX.k 14 ?_; first | refine TX.one (One.loadRatM hA tabOk rfl rfl rfl rfl rfl rfl ?_) ?_) | (refine TX.k 15 ?_; first | refine TX.one (One.storeRatM hA tabOk _ rfl rfl rfl rfl rfl rfl rfl rfl (fun _ => rfl) ?_) ?_) | (refine TX.k 16 ?_; first | refine TX.one (One.makeM hA tabOk encI 0 rfl rfl rfl rfl rfl rfl rfl ?_ ?_ ?_) ?_) | (refine TX.k 18 ?_; first | refine TX.one (One.fieldRat tabOk rfl rfl rfl rfl (by decide) rfl rfl) ?_)) <;> (first | refine TRg.pass ?_ | (((try simp only [zn]) <;> (try simp (disch := omega) only [zz hA, zb, zy, reduceCtorEq, Bool.false_eq_true, Int.reduceLT, Int.reduceLE, Int.reduceNeg]) <;> (try simp only [zw])) <;> omega)))
              | refine TX.raw ?_)
          | refine Fin3.of (by conv => lhs; cbv) (by repeat' (first | exact True.intro | exact rfl | refine And.intro ?_ ?_)) ?_ ?_
          | (refine AllO.pass ?_; first
              | exact AllO.nil
              | (refine AllO.cons (One.ev hA tabOk ?_) ?_ <;> (first | refine AllO.pass ?_ | ((conv => lhs; cbv); done)))
              | (refine AllO.cons (One.skipB ?_) ?_ <;> (first | refine AllO.pass ?_ | ((conv => lhs; cbv); done)))
              | ((first | refine AllO.consX (One.elemM hA tabOk rfl rfl rfl rfl ?_ ?_) rfl rfl ?_ | refine AllO.consX (One.lenOwnM hA tabOk rfl rfl rfl rfl) rfl rfl ?_ | refine AllO.consX (One.elemOwnM hA tabOk rfl rfl rfl rfl rfl ?_ ?_) rfl rfl ?_ | refine AllO.consX (One.loadRatM hA tabOk rfl rfl rfl rfl rfl rfl ?_) rfl rfl ?_) <;> (first | refine AllO.pass ?_ | (((try simp only [zn]) <;> (try simp (disch := omega) only [zz hA, zb, zy, reduceCtorEq, Bool.false_eq_true, Int.reduceLT, Int.reduceLE, Int.reduceNeg]) <;> (try simp only [zw])) <;> omega))))
          | refine Thn.exit ?_
          | refine Blk.here ?_
          | refine Blk.other (by decide) ?_
          | refine ⟨.inl rfl, _, RetOk.ev tabOk (by conv => lhs; cbv), ?_⟩
          | fail)
        refine ⟨rfl, Nat.le_of_ble_eq_true rfl, (by repeat' (first | exact trimOk.nil | refine trimOk.same ?_ | refine trimOk.turn rfl ?_)), ?_⟩
        refine .inl ⟨rfl, by omega, ?_⟩
        rw [hO2]
        rfl
      · have hpn : (p : Int) = na := by unfold partsM at hpd; simp at hpd; omega
        have hpt := sParts_c hA l 3 sa na hl hsz (by omega)
        have hvp := fun j h => vary_parts l 3 sa na (by decide) (by omega) j h
        generalize (partsS l 3 sa na).1 = pp at *
        generalize (partsS l 3 sa na).2 = pb at *
        try first | refine AOLg.of [] ?_ | refine QSg.of [] ?_
        repeat' (first
          | (refine AWp.pass ?_; first
              | refine AWp.seq ?_
              | refine AWp.block ?_
              | refine AWp.skip ?_
              | refine AWp.regG [] (by conv => lhs; cbv) ?_
              | refine AWp.cond_t rfl ?_
              | refine AWp.cond_f rfl ?_
              | (refine AWp.cond rfl ?_ ?_ <;> intro hc <;> (try rw [hc]) <;> ((try simp only [zn] at hc) <;> (try simp (disch := omega) only [zz hA, zb, zy, reduceCtorEq, Bool.false_eq_true, Int.reduceLT, Int.reduceLE, Int.reduceNeg] at hc) <;> (try simp only [zw] at hc)) <;> (try (exfalso; omega)))
              | refine AWp.exit ?_
              | refine AWp.ret ⟨.inr rfl, _, RetOk.ev tabOk (by conv => lhs; cbv), ?_⟩
              | refine AWp.drawVG [] rfl (by decide +kernel) (by conv => lhs; cbv) ?_)
          | (refine AOLg.pass ?_; refine AOLg.nx hA tabOk (by conv => lhs; cbv) ?_; first
              | refine NX.done ?_
              | refine NX.gt ?_
              | refine NX.gf ?_
              | (refine NX.gs ?_ ?_ <;> intro hc <;> rw [hc] <;> ((try simp only [zn] at hc) <;> (try simp (disch := omega) only [zz hA, zb, zy, reduceCtorEq, Bool.false_eq_true, Int.reduceLT, Int.reduceLE, Int.reduceNeg] at hc) <;> (try simp only [zw] at hc)) <;> (try (exfalso; omega)))
              | (refine NX.kC ?_; first | (with_reducible refine NX.call (hpt) ?_) | ((first | refine NX.call (hpt) ?_)) | fail)
              | (refine NX.kO ?_; (first | refine NX.callO (hpt) (by simp [allEq]) rfl ?_))
              | ((first | (refine NX.k 1 ?_; first | refine NX.one (One.elemM hA tabOk rfl rfl rfl rfl ?_ ?_) ?_ | refine NX.one (One.elemOwnM hA tabOk rfl rfl rfl rfl rfl ?_ ?_) ?_) | (refine NX.k 8 ?_; first | refine NX.one (One.eqBoolM hA tabOk rfl rfl rfl rfl rfl) ?_) | (refine NX.k 9 ?_; first | refine NX.one (One.neBoolM hA tabOk rfl rfl rfl rfl rfl) ?_) | (refine NX.k 10 ?_; first | refine NX.one (One.lenOwnM hA tabOk rfl rfl rfl rfl) ?_) | (refine NX.k 14 ?_; first | refine NX.one (One.loadRatM hA tabOk rfl rfl rfl rfl rfl rfl ?_) ?_) | (refine NX.k 15 ?_; first | refine NX.one (One.storeRatM hA tabOk _ rfl rfl rfl rfl rfl rfl rfl rfl (fun _ => rfl) ?_) ?_) | (refine NX.k 16 ?_; first | refine NX.one (One.makeM hA tabOk encI 0 rfl rfl rfl rfl rfl rfl rfl ?_ ?_ ?_) ?_) | (refine NX.k 18 ?_; first | refine NX.one (One.fieldRat tabOk rfl rfl rfl rfl (by decide) rfl rfl) ?_)) <;> (first | refine AOLg.pass ?_ | (((try simp only [zn]) <;> (try simp (disch := omega) only [zz hA, zb, zy, reduceCtorEq, Bool.false_eq_true, Int.reduceLT, Int.reduceLE, Int.reduceNeg]) <;> (try simp only [zw])) <;> omega)))
              | refine NX.raw ?_)
          | (refine TRg.pass ?_; refine TRg.nx hA tabOk (by conv => lhs; cbv) ?_; first
              | refine TX.done ?_
              | refine TX.gt ?_
              | refine TX.gf ?_
              | (refine TX.gs ?_ ?_ <;> intro hc <;> rw [hc] <;> ((try simp only [zn] at hc) <;> (try simp (disch := omega) only [zz hA, zb, zy, reduceCtorEq, Bool.false_eq_true, Int.reduceLT, Int.reduceLE, Int.reduceNeg] at hc) <;> (try simp only [zw] at hc)) <;> (try (exfalso; omega)))
              | (refine TX.kC ?_; first | (with_reducible refine TX.call (hpt) ?_) | ((first | refine TX.call (hpt) ?_)) | fail)
              | (refine TX.kO ?_; (first | refine TX.callO (hpt) (by simp [allEq]) rfl ?_))
              | ((first | (refine TX.k 1 ?_; first | refine TX.one (One.elemM hA tabOk rfl rfl rfl rfl ?_ ?_) ?_ | refine TX.one (One.elemOwnM hA tabOk rfl rfl rfl rfl rfl ?_ ?_) ?_) | (refine TX.k 8 ?_; first | refine TX.one (One.eqBoolM hA tabOk rfl rfl rfl rfl rfl) ?_) | (refine TX.k 9 ?_; first | refine TX.one (One.neBoolM hA tabOk rfl rfl rfl rfl rfl) ?_) | (refine TX.k 10 ?_; first | refine TX.one (One.lenOwnM hA tabOk rfl rfl rfl rfl) ?_) | (refine TX.k 14 ?_; first | refine TX.one (One.loadRatM hA tabOk rfl rfl rfl rfl rfl rfl ?_) ?_) | (refine TX.k 15 ?_; first | refine TX.one (One.storeRatM hA tabOk _ rfl rfl rfl rfl rfl rfl rfl rfl (fun _ => rfl) ?_) ?_) | (refine TX.k 16 ?_; first | refine TX.one (One.makeM hA tabOk encI 0 rfl rfl rfl rfl rfl rfl rfl ?_ ?_ ?_) ?_) | (refine TX.k 18 ?_; first | refine TX.one (One.fieldRat tabOk rfl rfl rfl rfl (by decide) rfl rfl) ?_)) <;> (first | refine TRg.pass ?_ | (((try simp only [zn]) <;> (try simp (disch := omega) only [zz hA, zb, zy, reduceCtorEq, Bool.false_eq_true, Int.reduceLT, Int.reduceLE, Int.reduceNeg]) <;> (try simp only [zw])) <;> omega)))
              | refine TX.raw ?_)
          | refine Fin3.of (by conv => lhs; cbv) (by repeat' (first | exact True.intro | exact rfl | refine And.intro ?_ ?_)) ?_ ?_
          | (refine AllO.pass ?_; first
              | exact AllO.nil
              | (refine AllO.cons (One.ev hA tabOk ?_) ?_ <;> (first | refine AllO.pass ?_ | ((conv => lhs; cbv); done)))
              | (refine AllO.cons (One.skipB ?_) ?_ <;> (first | refine AllO.pass ?_ | ((conv => lhs; cbv); done)))
              | ((with_reducible refine AllO.call (by conv => lhs; cbv) (hpt) ?_ ?_) <;> (first | refine AllO.pass ?_ | exact rfl | (((try simp only [zn]) <;> (try simp (disch := omega) only [zz hA, zb, zy, reduceCtorEq, Bool.false_eq_true, Int.reduceLT, Int.reduceLE, Int.reduceNeg]) <;> (try simp only [zw])) <;> omega)))
              | ((first | refine AllO.consX (One.elemM hA tabOk rfl rfl rfl rfl ?_ ?_) rfl rfl ?_ | refine AllO.consX (One.lenOwnM hA tabOk rfl rfl rfl rfl) rfl rfl ?_ | refine AllO.consX (One.elemOwnM hA tabOk rfl rfl rfl rfl rfl ?_ ?_) rfl rfl ?_ | refine AllO.consX (One.loadRatM hA tabOk rfl rfl rfl rfl rfl rfl ?_) rfl rfl ?_) <;> (first | refine AllO.pass ?_ | (((try simp only [zn]) <;> (try simp (disch := omega) only [zz hA, zb, zy, reduceCtorEq, Bool.false_eq_true, Int.reduceLT, Int.reduceLE, Int.reduceNeg]) <;> (try simp only [zw])) <;> omega))))
          | refine Thn.exit ?_
          | refine Blk.here ?_
          | refine Blk.other (by decide) ?_
          | refine ⟨.inl rfl, _, RetOk.ev tabOk (by conv => lhs; cbv), ?_⟩
          | fail)
        refine AWp.loopU (fun j : Nat => [(16, .ic (.lit (.int .i64 (hid A (cN p - 1 - cN j))))), (15, .ic (.lit (.int .i64 (hid A (backD S i j - 1)))))]) (fun j => [.var true 22 [.ic (.sl 2 false (hid A (List.map (encG A) l)))], .var true 41 [.ic (.sl 1 false (hid A (List.map encI S)))], .row true 0 5 1 (hid A (List.map encU (setsD O (kidsD S i p) (fun k => turnD (O.getD i default) (varyD l 3 sa na k)) (dnL p j)))), .var true 31 [.own 2 0], .var true 23 [.ic (.sl 3 false (hid A (List.map (encD A) E)))], .lp bz, .var true 38 [.ic (.lit (.int .i64 3)), .ic (.lit (.string sa)), .ic (.lit (.int .i64 na))], .var true 9 [.ic (.lit (.string (hid A pp)))], .var true 4 [.ic (.lit (.bool (hid A pb)))]]) (fun j => p - j) (fun j => j ≤ p) 0 (by conv => lhs; cbv) (Nat.zero_le _) (.int rfl (by (((try simp only [zn]) <;> (try simp (disch := omega) only [zz hA, zb, zy, reduceCtorEq, Bool.false_eq_true, Int.reduceLT, Int.reduceLE, Int.reduceNeg]) <;> (try simp only [zw])) <;> omega)) (.int rfl (by simp only [backD]; (((try simp only [zn]) <;> (try simp (disch := omega) only [zz hA, zb, zy, reduceCtorEq, Bool.false_eq_true, Int.reduceLT, Int.reduceLE, Int.reduceNeg]) <;> (try simp only [zw])) <;> omega)) .nil)) (by
          simp only [dnL, List.range_zero, List.map_nil, setsD, List.foldl_nil]) ?_
        intro j hj0
        have hml := setsD_len (kidsD S i p) (fun k => turnD (O.getD i default) (varyD l 3 sa na k)) (dnL p j) O
        by_cases hj : j < p
        · have hnx : setsD O (kidsD S i p) (fun k => turnD (O.getD i default) (varyD l 3 sa na k)) (dnL p (j + 1)) = (setsD O (kidsD S i p) (fun k => turnD (O.getD i default) (varyD l 3 sa na k)) (dnL p j)).set (backD S i j - 1).toNat (turnD (O.getD i default) (varyD l 3 sa na (p - 1 - j))) := by
            rw [dnL_succ, setsD_append]
            show (setsD O (kidsD S i p) _ (dnL p j)).set ((kidsD S i p).getD (p - 1 - j) default).toNat _ = _
            rw [hkg (p - 1 - j) (by omega), show p - 1 - (p - 1 - j) = j by omega]
          have hat : (setsD O (kidsD S i p) (fun k => turnD (O.getD i default) (varyD l 3 sa na k)) (dnL p j)).getD i default = O.getD i default := setsD_other _ _ _ _ _ fun k hk => by
            have h2 := dnL_mem hk hj0
            have := hkin k h2.2
            omega
          have hb0 := hway j hj0
          have hb1 := hway (j + 1) (by omega)
          have hbp := hwayp j hj
          have hbb : ∀ q : Int, q = backD S i j - 1 → S.getD q.toNat default = backD S i (j + 1) := by rintro q rfl; rfl
          have hzi : ∀ q : Int, q = i → (setsD O (kidsD S i p) (fun k => turnD (O.getD i default) (varyD l 3 sa na k)) (dnL p j)).getD q.toNat default = O.getD i default := by rintro q rfl; exact hat
          have hv1 := hvp (p - 1 - j) (by unfold partsM; simp; omega)
          have hcl := of2_at hA (p - 1 - j) pp pb hv1.1 hv1.2
          clear hvp hv1
          have htu := turned_at hA (O.getD i default) (varyD l 3 sa na (p - 1 - j)) hok
          generalize hO3 : setsD O (kidsD S i p) (fun k => turnD (O.getD i default) (varyD l 3 sa na k)) (dnL p (j + 1)) = O3 at *
          generalize setsD O (kidsD S i p) (fun k => turnD (O.getD i default) (varyD l 3 sa na k)) (dnL p j) = O1 at *
          generalize varyD l 3 sa na (p - 1 - j) = V at *
          generalize O.getD i default = W at *
          generalize hB2 : backD S i (j + 1) = b2 at *
          generalize backD S i j = b at *
          have hbb2 := hbb (hid A (b - 1)) (by rw [hid_eq hA])
          try first | refine AOLg.of [] ?_ | refine QSg.of [] ?_
          repeat' (first
            | (refine AWp.pass ?_; first
                | refine AWp.seq ?_
                | refine AWp.block ?_
                | refine AWp.skip ?_
                | refine AWp.regG [] (by conv => lhs; cbv) ?_
                | refine AWp.cond_t rfl ?_
                | refine AWp.cond_f rfl ?_
                | (refine AWp.cond rfl ?_ ?_ <;> intro hc <;> (try rw [hc]) <;> ((try simp only [zn] at hc) <;> (try simp (disch := omega) only [zz hA, zb, zy, reduceCtorEq, Bool.false_eq_true, Int.reduceLT, Int.reduceLE, Int.reduceNeg] at hc) <;> (try simp only [zw] at hc)) <;> (try (exfalso; omega)))
                | refine AWp.exit ?_
                | refine AWp.ret ⟨.inr rfl, _, RetOk.ev tabOk (by conv => lhs; cbv), ?_⟩
                | refine AWp.drawVG [] rfl (by decide +kernel) (by conv => lhs; cbv) ?_)
            | (refine AOLg.pass ?_; refine AOLg.nx hA tabOk (by conv => lhs; cbv) ?_; first
                | refine NX.done ?_
                | refine NX.gt ?_
                | refine NX.gf ?_
                | (refine NX.gs ?_ ?_ <;> intro hc <;> rw [hc] <;> ((try simp only [zn] at hc) <;> (try simp (disch := omega) only [zz hA, zb, zy, reduceCtorEq, Bool.false_eq_true, Int.reduceLT, Int.reduceLE, Int.reduceNeg] at hc) <;> (try simp only [zw] at hc)) <;> (try (exfalso; omega)))
                | (refine NX.kC ?_; first | (with_reducible refine NX.call (htu _ _ (by simp only [hid_eq hA]; exact hzi _ hz) (by simp only [hid_eq hA])) ?_) | ((first | refine NX.call (htu _ _ (by simp only [hid_eq hA]; exact hzi _ hz) (by simp only [hid_eq hA])) ?_)) | fail)
                | (refine NX.kO ?_; (first | refine NX.callO (htu _ _ (by simp only [hid_eq hA]; exact hzi _ hz) (by simp only [hid_eq hA])) (by simp [allEq]) rfl ?_))
                | ((first | (refine NX.k 1 ?_; first | refine NX.one (One.elemM hA tabOk rfl rfl rfl rfl ?_ ?_) ?_ | refine NX.one (One.elemOwnM hA tabOk rfl rfl rfl rfl rfl ?_ ?_) ?_) | (refine NX.k 8 ?_; first | refine NX.one (One.eqBoolM hA tabOk rfl rfl rfl rfl rfl) ?_) | (refine NX.k 9 ?_; first | refine NX.one (One.neBoolM hA tabOk rfl rfl rfl rfl rfl) ?_) | (refine NX.k 10 ?_; first | refine NX.one (One.lenOwnM hA tabOk rfl rfl rfl rfl) ?_) | (refine NX.k 14 ?_; first | refine NX.one (One.loadRatM hA tabOk rfl rfl rfl rfl rfl rfl ?_) ?_) | (refine NX.k 15 ?_; first | refine NX.one (One.storeRatM hA tabOk _ rfl rfl rfl rfl rfl rfl rfl rfl (fun _ => rfl) ?_) ?_) | (refine NX.k 16 ?_; first | refine NX.one (One.makeM hA tabOk encI 0 rfl rfl rfl rfl rfl rfl rfl ?_ ?_ ?_) ?_) | (refine NX.k 18 ?_; first | refine NX.one (One.fieldRat tabOk rfl rfl rfl rfl (by decide) rfl rfl) ?_)) <;> (first | refine AOLg.pass ?_ | (((try simp only [zn]) <;> (try simp (disch := omega) only [zz hA, zb, zy, reduceCtorEq, Bool.false_eq_true, Int.reduceLT, Int.reduceLE, Int.reduceNeg]) <;> (try simp only [zw])) <;> omega)))
                | (refine NX.one (One.fcall 7 (hcl (hid A (cN p - 1 - cN j)) (by (((try simp only [zn]) <;> (try simp (disch := omega) only [zz hA, zb, zy, reduceCtorEq, Bool.false_eq_true, Int.reduceLT, Int.reduceLE, Int.reduceNeg]) <;> (try simp only [zw])) <;> omega))) rfl rfl rfl rfl rfl rfl rfl rfl) ?_)
                | refine NX.raw ?_)
            | (refine TRg.pass ?_; refine TRg.nx hA tabOk (by conv => lhs; cbv) ?_; first
                | refine TX.done ?_
                | refine TX.gt ?_
                | refine TX.gf ?_
                | (refine TX.gs ?_ ?_ <;> intro hc <;> rw [hc] <;> ((try simp only [zn] at hc) <;> (try simp (disch := omega) only [zz hA, zb, zy, reduceCtorEq, Bool.false_eq_true, Int.reduceLT, Int.reduceLE, Int.reduceNeg] at hc) <;> (try simp only [zw] at hc)) <;> (try (exfalso; omega)))
                | (refine TX.kC ?_; first | (with_reducible refine TX.call (htu _ _ (by simp only [hid_eq hA]; exact hzi _ hz) (by simp only [hid_eq hA])) ?_) | ((first | refine TX.call (htu _ _ (by simp only [hid_eq hA]; exact hzi _ hz) (by simp only [hid_eq hA])) ?_)) | fail)
                | (refine TX.kO ?_; (first | refine TX.callO (htu _ _ (by simp only [hid_eq hA]; exact hzi _ hz) (by simp only [hid_eq hA])) (by simp [allEq]) rfl ?_))
                | ((first | (refine TX.k 1 ?_; first | refine TX.one (One.elemM hA tabOk rfl rfl rfl rfl ?_ ?_) ?_ | refine TX.one (One.elemOwnM hA tabOk rfl rfl rfl rfl rfl ?_ ?_) ?_) | (refine TX.k 8 ?_; first | refine TX.one (One.eqBoolM hA tabOk rfl rfl rfl rfl rfl) ?_) | (refine TX.k 9 ?_; first | refine TX.one (One.neBoolM hA tabOk rfl rfl rfl rfl rfl) ?_) | (refine TX.k 10 ?_; first | refine TX.one (One.lenOwnM hA tabOk rfl rfl rfl rfl) ?_) | (refine TX.k 14 ?_; first | refine TX.one (One.loadRatM hA tabOk rfl rfl rfl rfl rfl rfl ?_) ?_) | (refine TX.k 15 ?_; first | refine TX.one (One.storeRatM hA tabOk _ rfl rfl rfl rfl rfl rfl rfl rfl (fun _ => rfl) ?_) ?_) | (refine TX.k 16 ?_; first | refine TX.one (One.makeM hA tabOk encI 0 rfl rfl rfl rfl rfl rfl rfl ?_ ?_ ?_) ?_) | (refine TX.k 18 ?_; first | refine TX.one (One.fieldRat tabOk rfl rfl rfl rfl (by decide) rfl rfl) ?_)) <;> (first | refine TRg.pass ?_ | (((try simp only [zn]) <;> (try simp (disch := omega) only [zz hA, zb, zy, reduceCtorEq, Bool.false_eq_true, Int.reduceLT, Int.reduceLE, Int.reduceNeg]) <;> (try simp only [zw])) <;> omega)))
                | (refine TX.one (One.fcall 7 (hcl (hid A (cN p - 1 - cN j)) (by (((try simp only [zn]) <;> (try simp (disch := omega) only [zz hA, zb, zy, reduceCtorEq, Bool.false_eq_true, Int.reduceLT, Int.reduceLE, Int.reduceNeg]) <;> (try simp only [zw])) <;> omega))) rfl rfl rfl rfl rfl rfl rfl rfl) ?_)
                | refine TX.raw ?_)
            | refine Fin3.of (by conv => lhs; cbv) (by repeat' (first | exact True.intro | exact rfl | refine And.intro ?_ ?_)) ?_ ?_
            | (refine AllO.pass ?_; first
                | exact AllO.nil
                | (refine AllO.cons (One.ev hA tabOk ?_) ?_ <;> (first | refine AllO.pass ?_ | ((conv => lhs; cbv); done)))
                | (refine AllO.cons (One.skipB ?_) ?_ <;> (first | refine AllO.pass ?_ | ((conv => lhs; cbv); done)))
                | ((with_reducible refine AllO.call (by conv => lhs; cbv) (htu _ _ (by simp only [hid_eq hA]; exact hzi _ hz) (by simp only [hid_eq hA])) ?_ ?_) <;> (first | refine AllO.pass ?_ | exact rfl | (((try simp only [zn]) <;> (try simp (disch := omega) only [zz hA, zb, zy, reduceCtorEq, Bool.false_eq_true, Int.reduceLT, Int.reduceLE, Int.reduceNeg]) <;> (try simp only [zw])) <;> omega)))
                | ((first | refine AllO.consX (One.elemM hA tabOk rfl rfl rfl rfl ?_ ?_) rfl rfl ?_ | refine AllO.consX (One.lenOwnM hA tabOk rfl rfl rfl rfl) rfl rfl ?_ | refine AllO.consX (One.elemOwnM hA tabOk rfl rfl rfl rfl rfl ?_ ?_) rfl rfl ?_ | refine AllO.consX (One.loadRatM hA tabOk rfl rfl rfl rfl rfl rfl ?_) rfl rfl ?_) <;> (first | refine AllO.pass ?_ | (((try simp only [zn]) <;> (try simp (disch := omega) only [zz hA, zb, zy, reduceCtorEq, Bool.false_eq_true, Int.reduceLT, Int.reduceLE, Int.reduceNeg]) <;> (try simp only [zw])) <;> omega)))
                | ((refine AllO.consX (One.fcall 7 (hcl (hid A (cN p - 1 - cN j)) (by (((try simp only [zn]) <;> (try simp (disch := omega) only [zz hA, zb, zy, reduceCtorEq, Bool.false_eq_true, Int.reduceLT, Int.reduceLE, Int.reduceNeg]) <;> (try simp only [zw])) <;> omega))) rfl rfl rfl rfl rfl rfl rfl rfl) rfl rfl ?_) <;> (first | refine AllO.pass ?_ | (((try simp only [zn]) <;> (try simp (disch := omega) only [zz hA, zb, zy, reduceCtorEq, Bool.false_eq_true, Int.reduceLT, Int.reduceLE, Int.reduceNeg]) <;> (try simp only [zw])) <;> omega))))
            | refine Thn.exit ?_
            | refine Blk.here ?_
            | refine Blk.other (by decide) ?_
            | refine ⟨.inl rfl, _, RetOk.ev tabOk (by conv => lhs; cbv), ?_⟩
            | fail)
          refine ⟨j + 1, by omega, by omega, rfl, ?_, ?_, (by repeat' (first | exact subE.nil | refine subE.cons rfl ?_))⟩
          · simp only [hid_eq hA, hO3, hnx]
          · refine .int rfl (by (((try simp only [zn]) <;> (try simp (disch := omega) only [zz hA, zb, zy, reduceCtorEq, Bool.false_eq_true, Int.reduceLT, Int.reduceLE, Int.reduceNeg]) <;> (try simp only [zw])) <;> omega)) (.int rfl ?_ .nil)
            rw [hB2]
            simp only [hid_eq hA] at hbb2 ⊢
            rw [hbb2]
            (((try simp only [zn]) <;> (try simp (disch := omega) only [zz hA, zb, zy, reduceCtorEq, Bool.false_eq_true, Int.reduceLT, Int.reduceLE, Int.reduceNeg]) <;> (try simp only [zw])) <;> omega)
        · obtain rfl : j = p := by omega
          have hfin : setsD O (kidsD S i j) (fun k => turnD (O.getD i default) (varyD l 3 sa na k)) (dnL j j) = O2 := by
            rw [hstep, dnL_all, setsD_rev _ _ _ _ hap]
          rw [hfin]
          try first | refine AOLg.of [] ?_ | refine QSg.of [] ?_
          repeat' (first
            | (refine AWp.pass ?_; first
                | refine AWp.seq ?_
                | refine AWp.block ?_
                | refine AWp.skip ?_
                | refine AWp.regG [] (by conv => lhs; cbv) ?_
                | refine AWp.cond_t rfl ?_
                | refine AWp.cond_f rfl ?_
                | (refine AWp.cond rfl ?_ ?_ <;> intro hc <;> (try rw [hc]) <;> ((try simp only [zn] at hc) <;> (try simp (disch := omega) only [zz hA, zb, zy, reduceCtorEq, Bool.false_eq_true, Int.reduceLT, Int.reduceLE, Int.reduceNeg] at hc) <;> (try simp only [zw] at hc)) <;> (try (exfalso; omega)))
                | refine AWp.exit ?_
                | refine AWp.ret ⟨.inr rfl, _, RetOk.ev tabOk (by conv => lhs; cbv), ?_⟩
                | refine AWp.drawVG [] rfl (by decide +kernel) (by conv => lhs; cbv) ?_)
            | (refine AOLg.pass ?_; refine AOLg.nx hA tabOk (by conv => lhs; cbv) ?_; first
                | refine NX.done ?_
                | refine NX.gt ?_
                | refine NX.gf ?_
                | (refine NX.gs ?_ ?_ <;> intro hc <;> rw [hc] <;> ((try simp only [zn] at hc) <;> (try simp (disch := omega) only [zz hA, zb, zy, reduceCtorEq, Bool.false_eq_true, Int.reduceLT, Int.reduceLE, Int.reduceNeg] at hc) <;> (try simp only [zw] at hc)) <;> (try (exfalso; omega)))
                | ((first | (refine NX.k 1 ?_; first | refine NX.one (One.elemM hA tabOk rfl rfl rfl rfl ?_ ?_) ?_ | refine NX.one (One.elemOwnM hA tabOk rfl rfl rfl rfl rfl ?_ ?_) ?_) | (refine NX.k 8 ?_; first | refine NX.one (One.eqBoolM hA tabOk rfl rfl rfl rfl rfl) ?_) | (refine NX.k 9 ?_; first | refine NX.one (One.neBoolM hA tabOk rfl rfl rfl rfl rfl) ?_) | (refine NX.k 10 ?_; first | refine NX.one (One.lenOwnM hA tabOk rfl rfl rfl rfl) ?_) | (refine NX.k 14 ?_; first | refine NX.one (One.loadRatM hA tabOk rfl rfl rfl rfl rfl rfl ?_) ?_) | (refine NX.k 15 ?_; first | refine NX.one (One.storeRatM hA tabOk _ rfl rfl rfl rfl rfl rfl rfl rfl (fun _ => rfl) ?_) ?_) | (refine NX.k 16 ?_; first | refine NX.one (One.makeM hA tabOk encI 0 rfl rfl rfl rfl rfl rfl rfl ?_ ?_ ?_) ?_) | (refine NX.k 18 ?_; first | refine NX.one (One.fieldRat tabOk rfl rfl rfl rfl (by decide) rfl rfl) ?_)) <;> (first | refine AOLg.pass ?_ | (((try simp only [zn]) <;> (try simp (disch := omega) only [zz hA, zb, zy, reduceCtorEq, Bool.false_eq_true, Int.reduceLT, Int.reduceLE, Int.reduceNeg]) <;> (try simp only [zw])) <;> omega)))
                | refine NX.raw ?_)
            | (refine TRg.pass ?_; refine TRg.nx hA tabOk (by conv => lhs; cbv) ?_; first
                | refine TX.done ?_
                | refine TX.gt ?_
                | refine TX.gf ?_
                | (refine TX.gs ?_ ?_ <;> intro hc <;> rw [hc] <;> ((try simp only [zn] at hc) <;> (try simp (disch := omega) only [zz hA, zb, zy, reduceCtorEq, Bool.false_eq_true, Int.reduceLT, Int.reduceLE, Int.reduceNeg] at hc) <;> (try simp only [zw] at hc)) <;> (try (exfalso; omega)))
                | ((first | (refine TX.k 1 ?_; first | refine TX.one (One.elemM hA tabOk rfl rfl rfl rfl ?_ ?_) ?_ | refine TX.one (One.elemOwnM hA tabOk rfl rfl rfl rfl rfl ?_ ?_) ?_) | (refine TX.k 8 ?_; first | refine TX.one (One.eqBoolM hA tabOk rfl rfl rfl rfl rfl) ?_) | (refine TX.k 9 ?_; first | refine TX.one (One.neBoolM hA tabOk rfl rfl rfl rfl rfl) ?_) | (refine TX.k 10 ?_; first | refine TX.one (One.lenOwnM hA tabOk rfl rfl rfl rfl) ?_) | (refine TX.k 14 ?_; first | refine TX.one (One.loadRatM hA tabOk rfl rfl rfl rfl rfl rfl ?_) ?_) | (refine TX.k 15 ?_; first | refine TX.one (One.storeRatM hA tabOk _ rfl rfl rfl rfl rfl rfl rfl rfl (fun _ => rfl) ?_) ?_) | (refine TX.k 16 ?_; first | refine TX.one (One.makeM hA tabOk encI 0 rfl rfl rfl rfl rfl rfl rfl ?_ ?_ ?_) ?_) | (refine TX.k 18 ?_; first | refine TX.one (One.fieldRat tabOk rfl rfl rfl rfl (by decide) rfl rfl) ?_)) <;> (first | refine TRg.pass ?_ | (((try simp only [zn]) <;> (try simp (disch := omega) only [zz hA, zb, zy, reduceCtorEq, Bool.false_eq_true, Int.reduceLT, Int.reduceLE, Int.reduceNeg]) <;> (try simp only [zw])) <;> omega)))
                | refine TX.raw ?_)
            | refine Fin3.of (by conv => lhs; cbv) (by repeat' (first | exact True.intro | exact rfl | refine And.intro ?_ ?_)) ?_ ?_
            | (refine AllO.pass ?_; first
                | exact AllO.nil
                | (refine AllO.cons (One.ev hA tabOk ?_) ?_ <;> (first | refine AllO.pass ?_ | ((conv => lhs; cbv); done)))
                | (refine AllO.cons (One.skipB ?_) ?_ <;> (first | refine AllO.pass ?_ | ((conv => lhs; cbv); done)))
                | ((first | refine AllO.consX (One.elemM hA tabOk rfl rfl rfl rfl ?_ ?_) rfl rfl ?_ | refine AllO.consX (One.lenOwnM hA tabOk rfl rfl rfl rfl) rfl rfl ?_ | refine AllO.consX (One.elemOwnM hA tabOk rfl rfl rfl rfl rfl ?_ ?_) rfl rfl ?_ | refine AllO.consX (One.loadRatM hA tabOk rfl rfl rfl rfl rfl rfl ?_) rfl rfl ?_) <;> (first | refine AllO.pass ?_ | (((try simp only [zn]) <;> (try simp (disch := omega) only [zz hA, zb, zy, reduceCtorEq, Bool.false_eq_true, Int.reduceLT, Int.reduceLE, Int.reduceNeg]) <;> (try simp only [zw])) <;> omega))))
            | refine Thn.exit ?_
            | refine Blk.here ?_
            | refine Blk.other (by decide) ?_
            | refine ⟨.inl rfl, _, RetOk.ev tabOk (by conv => lhs; cbv), ?_⟩
            | fail)
          refine ⟨rfl, Nat.le_of_ble_eq_true rfl, (by repeat' (first | exact trimOk.nil | refine trimOk.same ?_ | refine trimOk.turn rfl ?_)), ?_⟩
          exact .inl ⟨rfl, by omega, rfl⟩
      · have hpn : (p : Int) = 2 ∧ na = 2 := by unfold partsM at hpd; simp at hpd; omega
        have hc1 := of1_c hA
        try first | refine AOLg.of [] ?_ | refine QSg.of [] ?_
        repeat' (first
          | (refine AWp.pass ?_; first
              | refine AWp.seq ?_
              | refine AWp.block ?_
              | refine AWp.skip ?_
              | refine AWp.regG [] (by conv => lhs; cbv) ?_
              | refine AWp.cond_t rfl ?_
              | refine AWp.cond_f rfl ?_
              | (refine AWp.cond rfl ?_ ?_ <;> intro hc <;> (try rw [hc]) <;> ((try simp only [zn] at hc) <;> (try simp (disch := omega) only [zz hA, zb, zy, reduceCtorEq, Bool.false_eq_true, Int.reduceLT, Int.reduceLE, Int.reduceNeg] at hc) <;> (try simp only [zw] at hc)) <;> (try (exfalso; omega)))
              | refine AWp.exit ?_
              | refine AWp.ret ⟨.inr rfl, _, RetOk.ev tabOk (by conv => lhs; cbv), ?_⟩
              | refine AWp.drawVG [] rfl (by decide +kernel) (by conv => lhs; cbv) ?_)
          | (refine AOLg.pass ?_; refine AOLg.nx hA tabOk (by conv => lhs; cbv) ?_; first
              | refine NX.done ?_
              | refine NX.gt ?_
              | refine NX.gf ?_
              | (refine NX.gs ?_ ?_ <;> intro hc <;> rw [hc] <;> ((try simp only [zn] at hc) <;> (try simp (disch := omega) only [zz hA, zb, zy, reduceCtorEq, Bool.false_eq_true, Int.reduceLT, Int.reduceLE, Int.reduceNeg] at hc) <;> (try simp only [zw] at hc)) <;> (try (exfalso; omega)))
              | ((first | (refine NX.k 1 ?_; first | refine NX.one (One.elemM hA tabOk rfl rfl rfl rfl ?_ ?_) ?_ | refine NX.one (One.elemOwnM hA tabOk rfl rfl rfl rfl rfl ?_ ?_) ?_) | (refine NX.k 8 ?_; first | refine NX.one (One.eqBoolM hA tabOk rfl rfl rfl rfl rfl) ?_) | (refine NX.k 9 ?_; first | refine NX.one (One.neBoolM hA tabOk rfl rfl rfl rfl rfl) ?_) | (refine NX.k 10 ?_; first | refine NX.one (One.lenOwnM hA tabOk rfl rfl rfl rfl) ?_) | (refine NX.k 14 ?_; first | refine NX.one (One.loadRatM hA tabOk rfl rfl rfl rfl rfl rfl ?_) ?_) | (refine NX.k 15 ?_; first | refine NX.one (One.storeRatM hA tabOk _ rfl rfl rfl rfl rfl rfl rfl rfl (fun _ => rfl) ?_) ?_) | (refine NX.k 16 ?_; first | refine NX.one (One.makeM hA tabOk encI 0 rfl rfl rfl rfl rfl rfl rfl ?_ ?_ ?_) ?_) | (refine NX.k 18 ?_; first | refine NX.one (One.fieldRat tabOk rfl rfl rfl rfl (by decide) rfl rfl) ?_)) <;> (first | refine AOLg.pass ?_ | (((try simp only [zn]) <;> (try simp (disch := omega) only [zz hA, zb, zy, reduceCtorEq, Bool.false_eq_true, Int.reduceLT, Int.reduceLE, Int.reduceNeg]) <;> (try simp only [zw])) <;> omega)))
              | refine NX.raw ?_)
          | (refine TRg.pass ?_; refine TRg.nx hA tabOk (by conv => lhs; cbv) ?_; first
              | refine TX.done ?_
              | refine TX.gt ?_
              | refine TX.gf ?_
              | (refine TX.gs ?_ ?_ <;> intro hc <;> rw [hc] <;> ((try simp only [zn] at hc) <;> (try simp (disch := omega) only [zz hA, zb, zy, reduceCtorEq, Bool.false_eq_true, Int.reduceLT, Int.reduceLE, Int.reduceNeg] at hc) <;> (try simp only [zw] at hc)) <;> (try (exfalso; omega)))
              | ((first | (refine TX.k 1 ?_; first | refine TX.one (One.elemM hA tabOk rfl rfl rfl rfl ?_ ?_) ?_ | refine TX.one (One.elemOwnM hA tabOk rfl rfl rfl rfl rfl ?_ ?_) ?_) | (refine TX.k 8 ?_; first | refine TX.one (One.eqBoolM hA tabOk rfl rfl rfl rfl rfl) ?_) | (refine TX.k 9 ?_; first | refine TX.one (One.neBoolM hA tabOk rfl rfl rfl rfl rfl) ?_) | (refine TX.k 10 ?_; first | refine TX.one (One.lenOwnM hA tabOk rfl rfl rfl rfl) ?_) | (refine TX.k 14 ?_; first | refine TX.one (One.loadRatM hA tabOk rfl rfl rfl rfl rfl rfl ?_) ?_) | (refine TX.k 15 ?_; first | refine TX.one (One.storeRatM hA tabOk _ rfl rfl rfl rfl rfl rfl rfl rfl (fun _ => rfl) ?_) ?_) | (refine TX.k 16 ?_; first | refine TX.one (One.makeM hA tabOk encI 0 rfl rfl rfl rfl rfl rfl rfl ?_ ?_ ?_) ?_) | (refine TX.k 18 ?_; first | refine TX.one (One.fieldRat tabOk rfl rfl rfl rfl (by decide) rfl rfl) ?_)) <;> (first | refine TRg.pass ?_ | (((try simp only [zn]) <;> (try simp (disch := omega) only [zz hA, zb, zy, reduceCtorEq, Bool.false_eq_true, Int.reduceLT, Int.reduceLE, Int.reduceNeg]) <;> (try simp only [zw])) <;> omega)))
              | refine TX.raw ?_)
          | refine Fin3.of (by conv => lhs; cbv) (by repeat' (first | exact True.intro | exact rfl | refine And.intro ?_ ?_)) ?_ ?_
          | (refine AllO.pass ?_; first
              | exact AllO.nil
              | (refine AllO.cons (One.ev hA tabOk ?_) ?_ <;> (first | refine AllO.pass ?_ | ((conv => lhs; cbv); done)))
              | (refine AllO.cons (One.skipB ?_) ?_ <;> (first | refine AllO.pass ?_ | ((conv => lhs; cbv); done)))
              | ((first | refine AllO.consX (One.elemM hA tabOk rfl rfl rfl rfl ?_ ?_) rfl rfl ?_ | refine AllO.consX (One.lenOwnM hA tabOk rfl rfl rfl rfl) rfl rfl ?_ | refine AllO.consX (One.elemOwnM hA tabOk rfl rfl rfl rfl rfl ?_ ?_) rfl rfl ?_ | refine AllO.consX (One.loadRatM hA tabOk rfl rfl rfl rfl rfl rfl ?_) rfl rfl ?_) <;> (first | refine AllO.pass ?_ | (((try simp only [zn]) <;> (try simp (disch := omega) only [zz hA, zb, zy, reduceCtorEq, Bool.false_eq_true, Int.reduceLT, Int.reduceLE, Int.reduceNeg]) <;> (try simp only [zw])) <;> omega))))
          | refine Thn.exit ?_
          | refine Blk.here ?_
          | refine Blk.other (by decide) ?_
          | refine ⟨.inl rfl, _, RetOk.ev tabOk (by conv => lhs; cbv), ?_⟩
          | fail)
        refine AWp.loopU (fun j : Nat => [(16, .ic (.lit (.int .i64 (hid A (cN p - 1 - cN j))))), (15, .ic (.lit (.int .i64 (hid A (backD S i j - 1)))))]) (fun j => [.var true 22 [.ic (.sl 2 false (hid A (List.map (encG A) l)))], .var true 41 [.ic (.sl 1 false (hid A (List.map encI S)))], .row true 0 5 1 (hid A (List.map encU (setsD O (kidsD S i p) (fun k => turnD (O.getD i default) (varyD l 4 sa na k)) (dnL p j)))), .var true 31 [.own 2 0], .var true 23 [.ic (.sl 3 false (hid A (List.map (encD A) E)))], .lp bz, .var true 38 [.ic (.lit (.int .i64 4)), .ic (.lit (.string sa)), .ic (.lit (.int .i64 na))]]) (fun j => p - j) (fun j => j ≤ p) 0 (by conv => lhs; cbv) (Nat.zero_le _) (.int rfl (by (((try simp only [zn]) <;> (try simp (disch := omega) only [zz hA, zb, zy, reduceCtorEq, Bool.false_eq_true, Int.reduceLT, Int.reduceLE, Int.reduceNeg]) <;> (try simp only [zw])) <;> omega)) (.int rfl (by simp only [backD]; (((try simp only [zn]) <;> (try simp (disch := omega) only [zz hA, zb, zy, reduceCtorEq, Bool.false_eq_true, Int.reduceLT, Int.reduceLE, Int.reduceNeg]) <;> (try simp only [zw])) <;> omega)) .nil)) (by
          simp only [dnL, List.range_zero, List.map_nil, setsD, List.foldl_nil]) ?_
        intro j hj0
        have hml := setsD_len (kidsD S i p) (fun k => turnD (O.getD i default) (varyD l 4 sa na k)) (dnL p j) O
        by_cases hj : j < p
        · have hnx : setsD O (kidsD S i p) (fun k => turnD (O.getD i default) (varyD l 4 sa na k)) (dnL p (j + 1)) = (setsD O (kidsD S i p) (fun k => turnD (O.getD i default) (varyD l 4 sa na k)) (dnL p j)).set (backD S i j - 1).toNat (turnD (O.getD i default) (varyD l 4 sa na (p - 1 - j))) := by
            rw [dnL_succ, setsD_append]
            show (setsD O (kidsD S i p) _ (dnL p j)).set ((kidsD S i p).getD (p - 1 - j) default).toNat _ = _
            rw [hkg (p - 1 - j) (by omega), show p - 1 - (p - 1 - j) = j by omega]
          have hat : (setsD O (kidsD S i p) (fun k => turnD (O.getD i default) (varyD l 4 sa na k)) (dnL p j)).getD i default = O.getD i default := setsD_other _ _ _ _ _ fun k hk => by
            have h2 := dnL_mem hk hj0
            have := hkin k h2.2
            omega
          have hb0 := hway j hj0
          have hb1 := hway (j + 1) (by omega)
          have hbp := hwayp j hj
          have hbb : ∀ q : Int, q = backD S i j - 1 → S.getD q.toNat default = backD S i (j + 1) := by rintro q rfl; rfl
          have hzi : ∀ q : Int, q = i → (setsD O (kidsD S i p) (fun k => turnD (O.getD i default) (varyD l 4 sa na k)) (dnL p j)).getD q.toNat default = O.getD i default := by rintro q rfl; exact hat
          have hv1 : (43 : Int) = varyD l 4 sa na (p - 1 - j) := rfl
          have htu := turned_at hA (O.getD i default) (varyD l 4 sa na (p - 1 - j)) hok
          generalize hO3 : setsD O (kidsD S i p) (fun k => turnD (O.getD i default) (varyD l 4 sa na k)) (dnL p (j + 1)) = O3 at *
          generalize setsD O (kidsD S i p) (fun k => turnD (O.getD i default) (varyD l 4 sa na k)) (dnL p j) = O1 at *
          generalize varyD l 4 sa na (p - 1 - j) = V at *
          generalize O.getD i default = W at *
          generalize hB2 : backD S i (j + 1) = b2 at *
          generalize backD S i j = b at *
          have hbb2 := hbb (hid A (b - 1)) (by rw [hid_eq hA])
          try first | refine AOLg.of [] ?_ | refine QSg.of [] ?_
          repeat' (first
            | (refine AWp.pass ?_; first
                | refine AWp.seq ?_
                | refine AWp.block ?_
                | refine AWp.skip ?_
                | refine AWp.regG [] (by conv => lhs; cbv) ?_
                | refine AWp.cond_t rfl ?_
                | refine AWp.cond_f rfl ?_
                | (refine AWp.cond rfl ?_ ?_ <;> intro hc <;> (try rw [hc]) <;> ((try simp only [zn] at hc) <;> (try simp (disch := omega) only [zz hA, zb, zy, reduceCtorEq, Bool.false_eq_true, Int.reduceLT, Int.reduceLE, Int.reduceNeg] at hc) <;> (try simp only [zw] at hc)) <;> (try (exfalso; omega)))
                | refine AWp.exit ?_
                | refine AWp.ret ⟨.inr rfl, _, RetOk.ev tabOk (by conv => lhs; cbv), ?_⟩
                | refine AWp.drawVG [] rfl (by decide +kernel) (by conv => lhs; cbv) ?_)
            | (refine AOLg.pass ?_; refine AOLg.nx hA tabOk (by conv => lhs; cbv) ?_; first
                | refine NX.done ?_
                | refine NX.gt ?_
                | refine NX.gf ?_
                | (refine NX.gs ?_ ?_ <;> intro hc <;> rw [hc] <;> ((try simp only [zn] at hc) <;> (try simp (disch := omega) only [zz hA, zb, zy, reduceCtorEq, Bool.false_eq_true, Int.reduceLT, Int.reduceLE, Int.reduceNeg] at hc) <;> (try simp only [zw] at hc)) <;> (try (exfalso; omega)))
                | (refine NX.kC ?_; first | (with_reducible refine NX.call (hc1 _) ?_) | (with_reducible refine NX.call (htu _ _ (by simp only [hid_eq hA]; exact hzi _ hz) hv1) ?_) | ((first | refine NX.call (hc1 _) ?_ | refine NX.call (htu _ _ (by simp only [hid_eq hA]; exact hzi _ hz) hv1) ?_)) | fail)
                | (refine NX.kO ?_; (first | refine NX.callO (hc1 _) (by simp [allEq]) rfl ?_ | refine NX.callO (htu _ _ (by simp only [hid_eq hA]; exact hzi _ hz) hv1) (by simp [allEq]) rfl ?_))
                | ((first | (refine NX.k 1 ?_; first | refine NX.one (One.elemM hA tabOk rfl rfl rfl rfl ?_ ?_) ?_ | refine NX.one (One.elemOwnM hA tabOk rfl rfl rfl rfl rfl ?_ ?_) ?_) | (refine NX.k 8 ?_; first | refine NX.one (One.eqBoolM hA tabOk rfl rfl rfl rfl rfl) ?_) | (refine NX.k 9 ?_; first | refine NX.one (One.neBoolM hA tabOk rfl rfl rfl rfl rfl) ?_) | (refine NX.k 10 ?_; first | refine NX.one (One.lenOwnM hA tabOk rfl rfl rfl rfl) ?_) | (refine NX.k 14 ?_; first | refine NX.one (One.loadRatM hA tabOk rfl rfl rfl rfl rfl rfl ?_) ?_) | (refine NX.k 15 ?_; first | refine NX.one (One.storeRatM hA tabOk _ rfl rfl rfl rfl rfl rfl rfl rfl (fun _ => rfl) ?_) ?_) | (refine NX.k 16 ?_; first | refine NX.one (One.makeM hA tabOk encI 0 rfl rfl rfl rfl rfl rfl rfl ?_ ?_ ?_) ?_) | (refine NX.k 18 ?_; first | refine NX.one (One.fieldRat tabOk rfl rfl rfl rfl (by decide) rfl rfl) ?_)) <;> (first | refine AOLg.pass ?_ | (((try simp only [zn]) <;> (try simp (disch := omega) only [zz hA, zb, zy, reduceCtorEq, Bool.false_eq_true, Int.reduceLT, Int.reduceLE, Int.reduceNeg]) <;> (try simp only [zw])) <;> omega)))
                | refine NX.raw ?_)
            | (refine TRg.pass ?_; refine TRg.nx hA tabOk (by conv => lhs; cbv) ?_; first
                | refine TX.done ?_
                | refine TX.gt ?_
                | refine TX.gf ?_
                | (refine TX.gs ?_ ?_ <;> intro hc <;> rw [hc] <;> ((try simp only [zn] at hc) <;> (try simp (disch := omega) only [zz hA, zb, zy, reduceCtorEq, Bool.false_eq_true, Int.reduceLT, Int.reduceLE, Int.reduceNeg] at hc) <;> (try simp only [zw] at hc)) <;> (try (exfalso; omega)))
                | (refine TX.kC ?_; first | (with_reducible refine TX.call (hc1 _) ?_) | (with_reducible refine TX.call (htu _ _ (by simp only [hid_eq hA]; exact hzi _ hz) hv1) ?_) | ((first | refine TX.call (hc1 _) ?_ | refine TX.call (htu _ _ (by simp only [hid_eq hA]; exact hzi _ hz) hv1) ?_)) | fail)
                | (refine TX.kO ?_; (first | refine TX.callO (hc1 _) (by simp [allEq]) rfl ?_ | refine TX.callO (htu _ _ (by simp only [hid_eq hA]; exact hzi _ hz) hv1) (by simp [allEq]) rfl ?_))
                | ((first | (refine TX.k 1 ?_; first | refine TX.one (One.elemM hA tabOk rfl rfl rfl rfl ?_ ?_) ?_ | refine TX.one (One.elemOwnM hA tabOk rfl rfl rfl rfl rfl ?_ ?_) ?_) | (refine TX.k 8 ?_; first | refine TX.one (One.eqBoolM hA tabOk rfl rfl rfl rfl rfl) ?_) | (refine TX.k 9 ?_; first | refine TX.one (One.neBoolM hA tabOk rfl rfl rfl rfl rfl) ?_) | (refine TX.k 10 ?_; first | refine TX.one (One.lenOwnM hA tabOk rfl rfl rfl rfl) ?_) | (refine TX.k 14 ?_; first | refine TX.one (One.loadRatM hA tabOk rfl rfl rfl rfl rfl rfl ?_) ?_) | (refine TX.k 15 ?_; first | refine TX.one (One.storeRatM hA tabOk _ rfl rfl rfl rfl rfl rfl rfl rfl (fun _ => rfl) ?_) ?_) | (refine TX.k 16 ?_; first | refine TX.one (One.makeM hA tabOk encI 0 rfl rfl rfl rfl rfl rfl rfl ?_ ?_ ?_) ?_) | (refine TX.k 18 ?_; first | refine TX.one (One.fieldRat tabOk rfl rfl rfl rfl (by decide) rfl rfl) ?_)) <;> (first | refine TRg.pass ?_ | (((try simp only [zn]) <;> (try simp (disch := omega) only [zz hA, zb, zy, reduceCtorEq, Bool.false_eq_true, Int.reduceLT, Int.reduceLE, Int.reduceNeg]) <;> (try simp only [zw])) <;> omega)))
                | refine TX.raw ?_)
            | refine Fin3.of (by conv => lhs; cbv) (by repeat' (first | exact True.intro | exact rfl | refine And.intro ?_ ?_)) ?_ ?_
            | (refine AllO.pass ?_; first
                | exact AllO.nil
                | (refine AllO.cons (One.ev hA tabOk ?_) ?_ <;> (first | refine AllO.pass ?_ | ((conv => lhs; cbv); done)))
                | (refine AllO.cons (One.skipB ?_) ?_ <;> (first | refine AllO.pass ?_ | ((conv => lhs; cbv); done)))
                | ((with_reducible refine AllO.call (by conv => lhs; cbv) (hc1 _) ?_ ?_) <;> (first | refine AllO.pass ?_ | exact rfl | (((try simp only [zn]) <;> (try simp (disch := omega) only [zz hA, zb, zy, reduceCtorEq, Bool.false_eq_true, Int.reduceLT, Int.reduceLE, Int.reduceNeg]) <;> (try simp only [zw])) <;> omega)))
                | ((with_reducible refine AllO.call (by conv => lhs; cbv) (htu _ _ (by simp only [hid_eq hA]; exact hzi _ hz) hv1) ?_ ?_) <;> (first | refine AllO.pass ?_ | exact rfl | (((try simp only [zn]) <;> (try simp (disch := omega) only [zz hA, zb, zy, reduceCtorEq, Bool.false_eq_true, Int.reduceLT, Int.reduceLE, Int.reduceNeg]) <;> (try simp only [zw])) <;> omega)))
                | ((first | refine AllO.consX (One.elemM hA tabOk rfl rfl rfl rfl ?_ ?_) rfl rfl ?_ | refine AllO.consX (One.lenOwnM hA tabOk rfl rfl rfl rfl) rfl rfl ?_ | refine AllO.consX (One.elemOwnM hA tabOk rfl rfl rfl rfl rfl ?_ ?_) rfl rfl ?_ | refine AllO.consX (One.loadRatM hA tabOk rfl rfl rfl rfl rfl rfl ?_) rfl rfl ?_) <;> (first | refine AllO.pass ?_ | (((try simp only [zn]) <;> (try simp (disch := omega) only [zz hA, zb, zy, reduceCtorEq, Bool.false_eq_true, Int.reduceLT, Int.reduceLE, Int.reduceNeg]) <;> (try simp only [zw])) <;> omega))))
            | refine Thn.exit ?_
            | refine Blk.here ?_
            | refine Blk.other (by decide) ?_
            | refine ⟨.inl rfl, _, RetOk.ev tabOk (by conv => lhs; cbv), ?_⟩
            | fail)
          refine ⟨j + 1, by omega, by omega, rfl, ?_, ?_, (by repeat' (first | exact subE.nil | refine subE.cons rfl ?_))⟩
          · simp only [hid_eq hA, hO3, hnx]
          · refine .int rfl (by (((try simp only [zn]) <;> (try simp (disch := omega) only [zz hA, zb, zy, reduceCtorEq, Bool.false_eq_true, Int.reduceLT, Int.reduceLE, Int.reduceNeg]) <;> (try simp only [zw])) <;> omega)) (.int rfl ?_ .nil)
            rw [hB2]
            simp only [hid_eq hA] at hbb2 ⊢
            rw [hbb2]
            (((try simp only [zn]) <;> (try simp (disch := omega) only [zz hA, zb, zy, reduceCtorEq, Bool.false_eq_true, Int.reduceLT, Int.reduceLE, Int.reduceNeg]) <;> (try simp only [zw])) <;> omega)
        · obtain rfl : j = p := by omega
          have hfin : setsD O (kidsD S i j) (fun k => turnD (O.getD i default) (varyD l 4 sa na k)) (dnL j j) = O2 := by
            rw [hstep, dnL_all, setsD_rev _ _ _ _ hap]
          rw [hfin]
          try first | refine AOLg.of [] ?_ | refine QSg.of [] ?_
          repeat' (first
            | (refine AWp.pass ?_; first
                | refine AWp.seq ?_
                | refine AWp.block ?_
                | refine AWp.skip ?_
                | refine AWp.regG [] (by conv => lhs; cbv) ?_
                | refine AWp.cond_t rfl ?_
                | refine AWp.cond_f rfl ?_
                | (refine AWp.cond rfl ?_ ?_ <;> intro hc <;> (try rw [hc]) <;> ((try simp only [zn] at hc) <;> (try simp (disch := omega) only [zz hA, zb, zy, reduceCtorEq, Bool.false_eq_true, Int.reduceLT, Int.reduceLE, Int.reduceNeg] at hc) <;> (try simp only [zw] at hc)) <;> (try (exfalso; omega)))
                | refine AWp.exit ?_
                | refine AWp.ret ⟨.inr rfl, _, RetOk.ev tabOk (by conv => lhs; cbv), ?_⟩
                | refine AWp.drawVG [] rfl (by decide +kernel) (by conv => lhs; cbv) ?_)
            | (refine AOLg.pass ?_; refine AOLg.nx hA tabOk (by conv => lhs; cbv) ?_; first
                | refine NX.done ?_
                | refine NX.gt ?_
                | refine NX.gf ?_
                | (refine NX.gs ?_ ?_ <;> intro hc <;> rw [hc] <;> ((try simp only [zn] at hc) <;> (try simp (disch := omega) only [zz hA, zb, zy, reduceCtorEq, Bool.false_eq_true, Int.reduceLT, Int.reduceLE, Int.reduceNeg] at hc) <;> (try simp only [zw] at hc)) <;> (try (exfalso; omega)))
                | ((first | (refine NX.k 1 ?_; first | refine NX.one (One.elemM hA tabOk rfl rfl rfl rfl ?_ ?_) ?_ | refine NX.one (One.elemOwnM hA tabOk rfl rfl rfl rfl rfl ?_ ?_) ?_) | (refine NX.k 8 ?_; first | refine NX.one (One.eqBoolM hA tabOk rfl rfl rfl rfl rfl) ?_) | (refine NX.k 9 ?_; first | refine NX.one (One.neBoolM hA tabOk rfl rfl rfl rfl rfl) ?_) | (refine NX.k 10 ?_; first | refine NX.one (One.lenOwnM hA tabOk rfl rfl rfl rfl) ?_) | (refine NX.k 14 ?_; first | refine NX.one (One.loadRatM hA tabOk rfl rfl rfl rfl rfl rfl ?_) ?_) | (refine NX.k 15 ?_; first | refine NX.one (One.storeRatM hA tabOk _ rfl rfl rfl rfl rfl rfl rfl rfl (fun _ => rfl) ?_) ?_) | (refine NX.k 16 ?_; first | refine NX.one (One.makeM hA tabOk encI 0 rfl rfl rfl rfl rfl rfl rfl ?_ ?_ ?_) ?_) | (refine NX.k 18 ?_; first | refine NX.one (One.fieldRat tabOk rfl rfl rfl rfl (by decide) rfl rfl) ?_)) <;> (first | refine AOLg.pass ?_ | (((try simp only [zn]) <;> (try simp (disch := omega) only [zz hA, zb, zy, reduceCtorEq, Bool.false_eq_true, Int.reduceLT, Int.reduceLE, Int.reduceNeg]) <;> (try simp only [zw])) <;> omega)))
                | refine NX.raw ?_)
            | (refine TRg.pass ?_; refine TRg.nx hA tabOk (by conv => lhs; cbv) ?_; first
                | refine TX.done ?_
                | refine TX.gt ?_
                | refine TX.gf ?_
                | (refine TX.gs ?_ ?_ <;> intro hc <;> rw [hc] <;> ((try simp only [zn] at hc) <;> (try simp (disch := omega) only [zz hA, zb, zy, reduceCtorEq, Bool.false_eq_true, Int.reduceLT, Int.reduceLE, Int.reduceNeg] at hc) <;> (try simp only [zw] at hc)) <;> (try (exfalso; omega)))
                | ((first | (refine TX.k 1 ?_; first | refine TX.one (One.elemM hA tabOk rfl rfl rfl rfl ?_ ?_) ?_ | refine TX.one (One.elemOwnM hA tabOk rfl rfl rfl rfl rfl ?_ ?_) ?_) | (refine TX.k 8 ?_; first | refine TX.one (One.eqBoolM hA tabOk rfl rfl rfl rfl rfl) ?_) | (refine TX.k 9 ?_; first | refine TX.one (One.neBoolM hA tabOk rfl rfl rfl rfl rfl) ?_) | (refine TX.k 10 ?_; first | refine TX.one (One.lenOwnM hA tabOk rfl rfl rfl rfl) ?_) | (refine TX.k 14 ?_; first | refine TX.one (One.loadRatM hA tabOk rfl rfl rfl rfl rfl rfl ?_) ?_) | (refine TX.k 15 ?_; first | refine TX.one (One.storeRatM hA tabOk _ rfl rfl rfl rfl rfl rfl rfl rfl (fun _ => rfl) ?_) ?_) | (refine TX.k 16 ?_; first | refine TX.one (One.makeM hA tabOk encI 0 rfl rfl rfl rfl rfl rfl rfl ?_ ?_ ?_) ?_) | (refine TX.k 18 ?_; first | refine TX.one (One.fieldRat tabOk rfl rfl rfl rfl (by decide) rfl rfl) ?_)) <;> (first | refine TRg.pass ?_ | (((try simp only [zn]) <;> (try simp (disch := omega) only [zz hA, zb, zy, reduceCtorEq, Bool.false_eq_true, Int.reduceLT, Int.reduceLE, Int.reduceNeg]) <;> (try simp only [zw])) <;> omega)))
                | refine TX.raw ?_)
            | refine Fin3.of (by conv => lhs; cbv) (by repeat' (first | exact True.intro | exact rfl | refine And.intro ?_ ?_)) ?_ ?_
            | (refine AllO.pass ?_; first
                | exact AllO.nil
                | (refine AllO.cons (One.ev hA tabOk ?_) ?_ <;> (first | refine AllO.pass ?_ | ((conv => lhs; cbv); done)))
                | (refine AllO.cons (One.skipB ?_) ?_ <;> (first | refine AllO.pass ?_ | ((conv => lhs; cbv); done)))
                | ((first | refine AllO.consX (One.elemM hA tabOk rfl rfl rfl rfl ?_ ?_) rfl rfl ?_ | refine AllO.consX (One.lenOwnM hA tabOk rfl rfl rfl rfl) rfl rfl ?_ | refine AllO.consX (One.elemOwnM hA tabOk rfl rfl rfl rfl rfl ?_ ?_) rfl rfl ?_ | refine AllO.consX (One.loadRatM hA tabOk rfl rfl rfl rfl rfl rfl ?_) rfl rfl ?_) <;> (first | refine AllO.pass ?_ | (((try simp only [zn]) <;> (try simp (disch := omega) only [zz hA, zb, zy, reduceCtorEq, Bool.false_eq_true, Int.reduceLT, Int.reduceLE, Int.reduceNeg]) <;> (try simp only [zw])) <;> omega))))
            | refine Thn.exit ?_
            | refine Blk.here ?_
            | refine Blk.other (by decide) ?_
            | refine ⟨.inl rfl, _, RetOk.ev tabOk (by conv => lhs; cbv), ?_⟩
            | fail)
          refine ⟨rfl, Nat.le_of_ble_eq_true rfl, (by repeat' (first | exact trimOk.nil | refine trimOk.same ?_ | refine trimOk.turn rfl ?_)), ?_⟩
          exact .inl ⟨rfl, by omega, rfl⟩
      · have hpn : (p : Int) = 2 ∧ na = 2 := by unfold partsM at hpd; simp at hpd; omega
        have hc1 := of1_c hA
        try first | refine AOLg.of [] ?_ | refine QSg.of [] ?_
        repeat' (first
          | (refine AWp.pass ?_; first
              | refine AWp.seq ?_
              | refine AWp.block ?_
              | refine AWp.skip ?_
              | refine AWp.regG [] (by conv => lhs; cbv) ?_
              | refine AWp.cond_t rfl ?_
              | refine AWp.cond_f rfl ?_
              | (refine AWp.cond rfl ?_ ?_ <;> intro hc <;> (try rw [hc]) <;> ((try simp only [zn] at hc) <;> (try simp (disch := omega) only [zz hA, zb, zy, reduceCtorEq, Bool.false_eq_true, Int.reduceLT, Int.reduceLE, Int.reduceNeg] at hc) <;> (try simp only [zw] at hc)) <;> (try (exfalso; omega)))
              | refine AWp.exit ?_
              | refine AWp.ret ⟨.inr rfl, _, RetOk.ev tabOk (by conv => lhs; cbv), ?_⟩
              | refine AWp.drawVG [] rfl (by decide +kernel) (by conv => lhs; cbv) ?_)
          | (refine AOLg.pass ?_; refine AOLg.nx hA tabOk (by conv => lhs; cbv) ?_; first
              | refine NX.done ?_
              | refine NX.gt ?_
              | refine NX.gf ?_
              | (refine NX.gs ?_ ?_ <;> intro hc <;> rw [hc] <;> ((try simp only [zn] at hc) <;> (try simp (disch := omega) only [zz hA, zb, zy, reduceCtorEq, Bool.false_eq_true, Int.reduceLT, Int.reduceLE, Int.reduceNeg] at hc) <;> (try simp only [zw] at hc)) <;> (try (exfalso; omega)))
              | ((first | (refine NX.k 1 ?_; first | refine NX.one (One.elemM hA tabOk rfl rfl rfl rfl ?_ ?_) ?_ | refine NX.one (One.elemOwnM hA tabOk rfl rfl rfl rfl rfl ?_ ?_) ?_) | (refine NX.k 8 ?_; first | refine NX.one (One.eqBoolM hA tabOk rfl rfl rfl rfl rfl) ?_) | (refine NX.k 9 ?_; first | refine NX.one (One.neBoolM hA tabOk rfl rfl rfl rfl rfl) ?_) | (refine NX.k 10 ?_; first | refine NX.one (One.lenOwnM hA tabOk rfl rfl rfl rfl) ?_) | (refine NX.k 14 ?_; first | refine NX.one (One.loadRatM hA tabOk rfl rfl rfl rfl rfl rfl ?_) ?_) | (refine NX.k 15 ?_; first | refine NX.one (One.storeRatM hA tabOk _ rfl rfl rfl rfl rfl rfl rfl rfl (fun _ => rfl) ?_) ?_) | (refine NX.k 16 ?_; first | refine NX.one (One.makeM hA tabOk encI 0 rfl rfl rfl rfl rfl rfl rfl ?_ ?_ ?_) ?_) | (refine NX.k 18 ?_; first | refine NX.one (One.fieldRat tabOk rfl rfl rfl rfl (by decide) rfl rfl) ?_)) <;> (first | refine AOLg.pass ?_ | (((try simp only [zn]) <;> (try simp (disch := omega) only [zz hA, zb, zy, reduceCtorEq, Bool.false_eq_true, Int.reduceLT, Int.reduceLE, Int.reduceNeg]) <;> (try simp only [zw])) <;> omega)))
              | refine NX.raw ?_)
          | (refine TRg.pass ?_; refine TRg.nx hA tabOk (by conv => lhs; cbv) ?_; first
              | refine TX.done ?_
              | refine TX.gt ?_
              | refine TX.gf ?_
              | (refine TX.gs ?_ ?_ <;> intro hc <;> rw [hc] <;> ((try simp only [zn] at hc) <;> (try simp (disch := omega) only [zz hA, zb, zy, reduceCtorEq, Bool.false_eq_true, Int.reduceLT, Int.reduceLE, Int.reduceNeg] at hc) <;> (try simp only [zw] at hc)) <;> (try (exfalso; omega)))
              | ((first | (refine TX.k 1 ?_; first | refine TX.one (One.elemM hA tabOk rfl rfl rfl rfl ?_ ?_) ?_ | refine TX.one (One.elemOwnM hA tabOk rfl rfl rfl rfl rfl ?_ ?_) ?_) | (refine TX.k 8 ?_; first | refine TX.one (One.eqBoolM hA tabOk rfl rfl rfl rfl rfl) ?_) | (refine TX.k 9 ?_; first | refine TX.one (One.neBoolM hA tabOk rfl rfl rfl rfl rfl) ?_) | (refine TX.k 10 ?_; first | refine TX.one (One.lenOwnM hA tabOk rfl rfl rfl rfl) ?_) | (refine TX.k 14 ?_; first | refine TX.one (One.loadRatM hA tabOk rfl rfl rfl rfl rfl rfl ?_) ?_) | (refine TX.k 15 ?_; first | refine TX.one (One.storeRatM hA tabOk _ rfl rfl rfl rfl rfl rfl rfl rfl (fun _ => rfl) ?_) ?_) | (refine TX.k 16 ?_; first | refine TX.one (One.makeM hA tabOk encI 0 rfl rfl rfl rfl rfl rfl rfl ?_ ?_ ?_) ?_) | (refine TX.k 18 ?_; first | refine TX.one (One.fieldRat tabOk rfl rfl rfl rfl (by decide) rfl rfl) ?_)) <;> (first | refine TRg.pass ?_ | (((try simp only [zn]) <;> (try simp (disch := omega) only [zz hA, zb, zy, reduceCtorEq, Bool.false_eq_true, Int.reduceLT, Int.reduceLE, Int.reduceNeg]) <;> (try simp only [zw])) <;> omega)))
              | refine TX.raw ?_)
          | refine Fin3.of (by conv => lhs; cbv) (by repeat' (first | exact True.intro | exact rfl | refine And.intro ?_ ?_)) ?_ ?_
          | (refine AllO.pass ?_; first
              | exact AllO.nil
              | (refine AllO.cons (One.ev hA tabOk ?_) ?_ <;> (first | refine AllO.pass ?_ | ((conv => lhs; cbv); done)))
              | (refine AllO.cons (One.skipB ?_) ?_ <;> (first | refine AllO.pass ?_ | ((conv => lhs; cbv); done)))
              | ((first | refine AllO.consX (One.elemM hA tabOk rfl rfl rfl rfl ?_ ?_) rfl rfl ?_ | refine AllO.consX (One.lenOwnM hA tabOk rfl rfl rfl rfl) rfl rfl ?_ | refine AllO.consX (One.elemOwnM hA tabOk rfl rfl rfl rfl rfl ?_ ?_) rfl rfl ?_ | refine AllO.consX (One.loadRatM hA tabOk rfl rfl rfl rfl rfl rfl ?_) rfl rfl ?_) <;> (first | refine AllO.pass ?_ | (((try simp only [zn]) <;> (try simp (disch := omega) only [zz hA, zb, zy, reduceCtorEq, Bool.false_eq_true, Int.reduceLT, Int.reduceLE, Int.reduceNeg]) <;> (try simp only [zw])) <;> omega))))
          | refine Thn.exit ?_
          | refine Blk.here ?_
          | refine Blk.other (by decide) ?_
          | refine ⟨.inl rfl, _, RetOk.ev tabOk (by conv => lhs; cbv), ?_⟩
          | fail)
        refine AWp.loopU (fun j : Nat => [(16, .ic (.lit (.int .i64 (hid A (cN p - 1 - cN j))))), (15, .ic (.lit (.int .i64 (hid A (backD S i j - 1)))))]) (fun j => [.var true 22 [.ic (.sl 2 false (hid A (List.map (encG A) l)))], .var true 41 [.ic (.sl 1 false (hid A (List.map encI S)))], .row true 0 5 1 (hid A (List.map encU (setsD O (kidsD S i p) (fun k => turnD (O.getD i default) (varyD l 5 sa na k)) (dnL p j)))), .var true 31 [.own 2 0], .var true 23 [.ic (.sl 3 false (hid A (List.map (encD A) E)))], .lp bz, .var true 38 [.ic (.lit (.int .i64 5)), .ic (.lit (.string sa)), .ic (.lit (.int .i64 na))]]) (fun j => p - j) (fun j => j ≤ p) 0 (by conv => lhs; cbv) (Nat.zero_le _) (.int rfl (by (((try simp only [zn]) <;> (try simp (disch := omega) only [zz hA, zb, zy, reduceCtorEq, Bool.false_eq_true, Int.reduceLT, Int.reduceLE, Int.reduceNeg]) <;> (try simp only [zw])) <;> omega)) (.int rfl (by simp only [backD]; (((try simp only [zn]) <;> (try simp (disch := omega) only [zz hA, zb, zy, reduceCtorEq, Bool.false_eq_true, Int.reduceLT, Int.reduceLE, Int.reduceNeg]) <;> (try simp only [zw])) <;> omega)) .nil)) (by
          simp only [dnL, List.range_zero, List.map_nil, setsD, List.foldl_nil]) ?_
        intro j hj0
        have hml := setsD_len (kidsD S i p) (fun k => turnD (O.getD i default) (varyD l 5 sa na k)) (dnL p j) O
        by_cases hj : j < p
        · have hnx : setsD O (kidsD S i p) (fun k => turnD (O.getD i default) (varyD l 5 sa na k)) (dnL p (j + 1)) = (setsD O (kidsD S i p) (fun k => turnD (O.getD i default) (varyD l 5 sa na k)) (dnL p j)).set (backD S i j - 1).toNat (turnD (O.getD i default) (varyD l 5 sa na (p - 1 - j))) := by
            rw [dnL_succ, setsD_append]
            show (setsD O (kidsD S i p) _ (dnL p j)).set ((kidsD S i p).getD (p - 1 - j) default).toNat _ = _
            rw [hkg (p - 1 - j) (by omega), show p - 1 - (p - 1 - j) = j by omega]
          have hat : (setsD O (kidsD S i p) (fun k => turnD (O.getD i default) (varyD l 5 sa na k)) (dnL p j)).getD i default = O.getD i default := setsD_other _ _ _ _ _ fun k hk => by
            have h2 := dnL_mem hk hj0
            have := hkin k h2.2
            omega
          have hb0 := hway j hj0
          have hb1 := hway (j + 1) (by omega)
          have hbp := hwayp j hj
          have hbb : ∀ q : Int, q = backD S i j - 1 → S.getD q.toNat default = backD S i (j + 1) := by rintro q rfl; rfl
          have hzi : ∀ q : Int, q = i → (setsD O (kidsD S i p) (fun k => turnD (O.getD i default) (varyD l 5 sa na k)) (dnL p j)).getD q.toNat default = O.getD i default := by rintro q rfl; exact hat
          have hv1 : (43 : Int) = varyD l 5 sa na (p - 1 - j) := rfl
          have htu := turned_at hA (O.getD i default) (varyD l 5 sa na (p - 1 - j)) hok
          generalize hO3 : setsD O (kidsD S i p) (fun k => turnD (O.getD i default) (varyD l 5 sa na k)) (dnL p (j + 1)) = O3 at *
          generalize setsD O (kidsD S i p) (fun k => turnD (O.getD i default) (varyD l 5 sa na k)) (dnL p j) = O1 at *
          generalize varyD l 5 sa na (p - 1 - j) = V at *
          generalize O.getD i default = W at *
          generalize hB2 : backD S i (j + 1) = b2 at *
          generalize backD S i j = b at *
          have hbb2 := hbb (hid A (b - 1)) (by rw [hid_eq hA])
          try first | refine AOLg.of [] ?_ | refine QSg.of [] ?_
          repeat' (first
            | (refine AWp.pass ?_; first
                | refine AWp.seq ?_
                | refine AWp.block ?_
                | refine AWp.skip ?_
                | refine AWp.regG [] (by conv => lhs; cbv) ?_
                | refine AWp.cond_t rfl ?_
                | refine AWp.cond_f rfl ?_
                | (refine AWp.cond rfl ?_ ?_ <;> intro hc <;> (try rw [hc]) <;> ((try simp only [zn] at hc) <;> (try simp (disch := omega) only [zz hA, zb, zy, reduceCtorEq, Bool.false_eq_true, Int.reduceLT, Int.reduceLE, Int.reduceNeg] at hc) <;> (try simp only [zw] at hc)) <;> (try (exfalso; omega)))
                | refine AWp.exit ?_
                | refine AWp.ret ⟨.inr rfl, _, RetOk.ev tabOk (by conv => lhs; cbv), ?_⟩
                | refine AWp.drawVG [] rfl (by decide +kernel) (by conv => lhs; cbv) ?_)
            | (refine AOLg.pass ?_; refine AOLg.nx hA tabOk (by conv => lhs; cbv) ?_; first
                | refine NX.done ?_
                | refine NX.gt ?_
                | refine NX.gf ?_
                | (refine NX.gs ?_ ?_ <;> intro hc <;> rw [hc] <;> ((try simp only [zn] at hc) <;> (try simp (disch := omega) only [zz hA, zb, zy, reduceCtorEq, Bool.false_eq_true, Int.reduceLT, Int.reduceLE, Int.reduceNeg] at hc) <;> (try simp only [zw] at hc)) <;> (try (exfalso; omega)))
                | (refine NX.kC ?_; first | (with_reducible refine NX.call (hc1 _) ?_) | (with_reducible refine NX.call (htu _ _ (by simp only [hid_eq hA]; exact hzi _ hz) hv1) ?_) | ((first | refine NX.call (hc1 _) ?_ | refine NX.call (htu _ _ (by simp only [hid_eq hA]; exact hzi _ hz) hv1) ?_)) | fail)
                | (refine NX.kO ?_; (first | refine NX.callO (hc1 _) (by simp [allEq]) rfl ?_ | refine NX.callO (htu _ _ (by simp only [hid_eq hA]; exact hzi _ hz) hv1) (by simp [allEq]) rfl ?_))
                | ((first | (refine NX.k 1 ?_; first | refine NX.one (One.elemM hA tabOk rfl rfl rfl rfl ?_ ?_) ?_ | refine NX.one (One.elemOwnM hA tabOk rfl rfl rfl rfl rfl ?_ ?_) ?_) | (refine NX.k 8 ?_; first | refine NX.one (One.eqBoolM hA tabOk rfl rfl rfl rfl rfl) ?_) | (refine NX.k 9 ?_; first | refine NX.one (One.neBoolM hA tabOk rfl rfl rfl rfl rfl) ?_) | (refine NX.k 10 ?_; first | refine NX.one (One.lenOwnM hA tabOk rfl rfl rfl rfl) ?_) | (refine NX.k 14 ?_; first | refine NX.one (One.loadRatM hA tabOk rfl rfl rfl rfl rfl rfl ?_) ?_) | (refine NX.k 15 ?_; first | refine NX.one (One.storeRatM hA tabOk _ rfl rfl rfl rfl rfl rfl rfl rfl (fun _ => rfl) ?_) ?_) | (refine NX.k 16 ?_; first | refine NX.one (One.makeM hA tabOk encI 0 rfl rfl rfl rfl rfl rfl rfl ?_ ?_ ?_) ?_) | (refine NX.k 18 ?_; first | refine NX.one (One.fieldRat tabOk rfl rfl rfl rfl (by decide) rfl rfl) ?_)) <;> (first | refine AOLg.pass ?_ | (((try simp only [zn]) <;> (try simp (disch := omega) only [zz hA, zb, zy, reduceCtorEq, Bool.false_eq_true, Int.reduceLT, Int.reduceLE, Int.reduceNeg]) <;> (try simp only [zw])) <;> omega)))
                | refine NX.raw ?_)
            | (refine TRg.pass ?_; refine TRg.nx hA tabOk (by conv => lhs; cbv) ?_; first
                | refine TX.done ?_
                | refine TX.gt ?_
                | refine TX.gf ?_
                | (refine TX.gs ?_ ?_ <;> intro hc <;> rw [hc] <;> ((try simp only [zn] at hc) <;> (try simp (disch := omega) only [zz hA, zb, zy, reduceCtorEq, Bool.false_eq_true, Int.reduceLT, Int.reduceLE, Int.reduceNeg] at hc) <;> (try simp only [zw] at hc)) <;> (try (exfalso; omega)))
                | (refine TX.kC ?_; first | (with_reducible refine TX.call (hc1 _) ?_) | (with_reducible refine TX.call (htu _ _ (by simp only [hid_eq hA]; exact hzi _ hz) hv1) ?_) | ((first | refine TX.call (hc1 _) ?_ | refine TX.call (htu _ _ (by simp only [hid_eq hA]; exact hzi _ hz) hv1) ?_)) | fail)
                | (refine TX.kO ?_; (first | refine TX.callO (hc1 _) (by simp [allEq]) rfl ?_ | refine TX.callO (htu _ _ (by simp only [hid_eq hA]; exact hzi _ hz) hv1) (by simp [allEq]) rfl ?_))
                | ((first | (refine TX.k 1 ?_; first | refine TX.one (One.elemM hA tabOk rfl rfl rfl rfl ?_ ?_) ?_ | refine TX.one (One.elemOwnM hA tabOk rfl rfl rfl rfl rfl ?_ ?_) ?_) | (refine TX.k 8 ?_; first | refine TX.one (One.eqBoolM hA tabOk rfl rfl rfl rfl rfl) ?_) | (refine TX.k 9 ?_; first | refine TX.one (One.neBoolM hA tabOk rfl rfl rfl rfl rfl) ?_) | (refine TX.k 10 ?_; first | refine TX.one (One.lenOwnM hA tabOk rfl rfl rfl rfl) ?_) | (refine TX.k 14 ?_; first | refine TX.one (One.loadRatM hA tabOk rfl rfl rfl rfl rfl rfl ?_) ?_) | (refine TX.k 15 ?_; first | refine TX.one (One.storeRatM hA tabOk _ rfl rfl rfl rfl rfl rfl rfl rfl (fun _ => rfl) ?_) ?_) | (refine TX.k 16 ?_; first | refine TX.one (One.makeM hA tabOk encI 0 rfl rfl rfl rfl rfl rfl rfl ?_ ?_ ?_) ?_) | (refine TX.k 18 ?_; first | refine TX.one (One.fieldRat tabOk rfl rfl rfl rfl (by decide) rfl rfl) ?_)) <;> (first | refine TRg.pass ?_ | (((try simp only [zn]) <;> (try simp (disch := omega) only [zz hA, zb, zy, reduceCtorEq, Bool.false_eq_true, Int.reduceLT, Int.reduceLE, Int.reduceNeg]) <;> (try simp only [zw])) <;> omega)))
                | refine TX.raw ?_)
            | refine Fin3.of (by conv => lhs; cbv) (by repeat' (first | exact True.intro | exact rfl | refine And.intro ?_ ?_)) ?_ ?_
            | (refine AllO.pass ?_; first
                | exact AllO.nil
                | (refine AllO.cons (One.ev hA tabOk ?_) ?_ <;> (first | refine AllO.pass ?_ | ((conv => lhs; cbv); done)))
                | (refine AllO.cons (One.skipB ?_) ?_ <;> (first | refine AllO.pass ?_ | ((conv => lhs; cbv); done)))
                | ((with_reducible refine AllO.call (by conv => lhs; cbv) (hc1 _) ?_ ?_) <;> (first | refine AllO.pass ?_ | exact rfl | (((try simp only [zn]) <;> (try simp (disch := omega) only [zz hA, zb, zy, reduceCtorEq, Bool.false_eq_true, Int.reduceLT, Int.reduceLE, Int.reduceNeg]) <;> (try simp only [zw])) <;> omega)))
                | ((with_reducible refine AllO.call (by conv => lhs; cbv) (htu _ _ (by simp only [hid_eq hA]; exact hzi _ hz) hv1) ?_ ?_) <;> (first | refine AllO.pass ?_ | exact rfl | (((try simp only [zn]) <;> (try simp (disch := omega) only [zz hA, zb, zy, reduceCtorEq, Bool.false_eq_true, Int.reduceLT, Int.reduceLE, Int.reduceNeg]) <;> (try simp only [zw])) <;> omega)))
                | ((first | refine AllO.consX (One.elemM hA tabOk rfl rfl rfl rfl ?_ ?_) rfl rfl ?_ | refine AllO.consX (One.lenOwnM hA tabOk rfl rfl rfl rfl) rfl rfl ?_ | refine AllO.consX (One.elemOwnM hA tabOk rfl rfl rfl rfl rfl ?_ ?_) rfl rfl ?_ | refine AllO.consX (One.loadRatM hA tabOk rfl rfl rfl rfl rfl rfl ?_) rfl rfl ?_) <;> (first | refine AllO.pass ?_ | (((try simp only [zn]) <;> (try simp (disch := omega) only [zz hA, zb, zy, reduceCtorEq, Bool.false_eq_true, Int.reduceLT, Int.reduceLE, Int.reduceNeg]) <;> (try simp only [zw])) <;> omega))))
            | refine Thn.exit ?_
            | refine Blk.here ?_
            | refine Blk.other (by decide) ?_
            | refine ⟨.inl rfl, _, RetOk.ev tabOk (by conv => lhs; cbv), ?_⟩
            | fail)
          refine ⟨j + 1, by omega, by omega, rfl, ?_, ?_, (by repeat' (first | exact subE.nil | refine subE.cons rfl ?_))⟩
          · simp only [hid_eq hA, hO3, hnx]
          · refine .int rfl (by (((try simp only [zn]) <;> (try simp (disch := omega) only [zz hA, zb, zy, reduceCtorEq, Bool.false_eq_true, Int.reduceLT, Int.reduceLE, Int.reduceNeg]) <;> (try simp only [zw])) <;> omega)) (.int rfl ?_ .nil)
            rw [hB2]
            simp only [hid_eq hA] at hbb2 ⊢
            rw [hbb2]
            (((try simp only [zn]) <;> (try simp (disch := omega) only [zz hA, zb, zy, reduceCtorEq, Bool.false_eq_true, Int.reduceLT, Int.reduceLE, Int.reduceNeg]) <;> (try simp only [zw])) <;> omega)
        · obtain rfl : j = p := by omega
          have hfin : setsD O (kidsD S i j) (fun k => turnD (O.getD i default) (varyD l 5 sa na k)) (dnL j j) = O2 := by
            rw [hstep, dnL_all, setsD_rev _ _ _ _ hap]
          rw [hfin]
          try first | refine AOLg.of [] ?_ | refine QSg.of [] ?_
          repeat' (first
            | (refine AWp.pass ?_; first
                | refine AWp.seq ?_
                | refine AWp.block ?_
                | refine AWp.skip ?_
                | refine AWp.regG [] (by conv => lhs; cbv) ?_
                | refine AWp.cond_t rfl ?_
                | refine AWp.cond_f rfl ?_
                | (refine AWp.cond rfl ?_ ?_ <;> intro hc <;> (try rw [hc]) <;> ((try simp only [zn] at hc) <;> (try simp (disch := omega) only [zz hA, zb, zy, reduceCtorEq, Bool.false_eq_true, Int.reduceLT, Int.reduceLE, Int.reduceNeg] at hc) <;> (try simp only [zw] at hc)) <;> (try (exfalso; omega)))
                | refine AWp.exit ?_
                | refine AWp.ret ⟨.inr rfl, _, RetOk.ev tabOk (by conv => lhs; cbv), ?_⟩
                | refine AWp.drawVG [] rfl (by decide +kernel) (by conv => lhs; cbv) ?_)
            | (refine AOLg.pass ?_; refine AOLg.nx hA tabOk (by conv => lhs; cbv) ?_; first
                | refine NX.done ?_
                | refine NX.gt ?_
                | refine NX.gf ?_
                | (refine NX.gs ?_ ?_ <;> intro hc <;> rw [hc] <;> ((try simp only [zn] at hc) <;> (try simp (disch := omega) only [zz hA, zb, zy, reduceCtorEq, Bool.false_eq_true, Int.reduceLT, Int.reduceLE, Int.reduceNeg] at hc) <;> (try simp only [zw] at hc)) <;> (try (exfalso; omega)))
                | ((first | (refine NX.k 1 ?_; first | refine NX.one (One.elemM hA tabOk rfl rfl rfl rfl ?_ ?_) ?_ | refine NX.one (One.elemOwnM hA tabOk rfl rfl rfl rfl rfl ?_ ?_) ?_) | (refine NX.k 8 ?_; first | refine NX.one (One.eqBoolM hA tabOk rfl rfl rfl rfl rfl) ?_) | (refine NX.k 9 ?_; first | refine NX.one (One.neBoolM hA tabOk rfl rfl rfl rfl rfl) ?_) | (refine NX.k 10 ?_; first | refine NX.one (One.lenOwnM hA tabOk rfl rfl rfl rfl) ?_) | (refine NX.k 14 ?_; first | refine NX.one (One.loadRatM hA tabOk rfl rfl rfl rfl rfl rfl ?_) ?_) | (refine NX.k 15 ?_; first | refine NX.one (One.storeRatM hA tabOk _ rfl rfl rfl rfl rfl rfl rfl rfl (fun _ => rfl) ?_) ?_) | (refine NX.k 16 ?_; first | refine NX.one (One.makeM hA tabOk encI 0 rfl rfl rfl rfl rfl rfl rfl ?_ ?_ ?_) ?_) | (refine NX.k 18 ?_; first | refine NX.one (One.fieldRat tabOk rfl rfl rfl rfl (by decide) rfl rfl) ?_)) <;> (first | refine AOLg.pass ?_ | (((try simp only [zn]) <;> (try simp (disch := omega) only [zz hA, zb, zy, reduceCtorEq, Bool.false_eq_true, Int.reduceLT, Int.reduceLE, Int.reduceNeg]) <;> (try simp only [zw])) <;> omega)))
                | refine NX.raw ?_)
            | (refine TRg.pass ?_; refine TRg.nx hA tabOk (by conv => lhs; cbv) ?_; first
                | refine TX.done ?_
                | refine TX.gt ?_
                | refine TX.gf ?_
                | (refine TX.gs ?_ ?_ <;> intro hc <;> rw [hc] <;> ((try simp only [zn] at hc) <;> (try simp (disch := omega) only [zz hA, zb, zy, reduceCtorEq, Bool.false_eq_true, Int.reduceLT, Int.reduceLE, Int.reduceNeg] at hc) <;> (try simp only [zw] at hc)) <;> (try (exfalso; omega)))
                | ((first | (refine TX.k 1 ?_; first | refine TX.one (One.elemM hA tabOk rfl rfl rfl rfl ?_ ?_) ?_ | refine TX.one (One.elemOwnM hA tabOk rfl rfl rfl rfl rfl ?_ ?_) ?_) | (refine TX.k 8 ?_; first | refine TX.one (One.eqBoolM hA tabOk rfl rfl rfl rfl rfl) ?_) | (refine TX.k 9 ?_; first | refine TX.one (One.neBoolM hA tabOk rfl rfl rfl rfl rfl) ?_) | (refine TX.k 10 ?_; first | refine TX.one (One.lenOwnM hA tabOk rfl rfl rfl rfl) ?_) | (refine TX.k 14 ?_; first | refine TX.one (One.loadRatM hA tabOk rfl rfl rfl rfl rfl rfl ?_) ?_) | (refine TX.k 15 ?_; first | refine TX.one (One.storeRatM hA tabOk _ rfl rfl rfl rfl rfl rfl rfl rfl (fun _ => rfl) ?_) ?_) | (refine TX.k 16 ?_; first | refine TX.one (One.makeM hA tabOk encI 0 rfl rfl rfl rfl rfl rfl rfl ?_ ?_ ?_) ?_) | (refine TX.k 18 ?_; first | refine TX.one (One.fieldRat tabOk rfl rfl rfl rfl (by decide) rfl rfl) ?_)) <;> (first | refine TRg.pass ?_ | (((try simp only [zn]) <;> (try simp (disch := omega) only [zz hA, zb, zy, reduceCtorEq, Bool.false_eq_true, Int.reduceLT, Int.reduceLE, Int.reduceNeg]) <;> (try simp only [zw])) <;> omega)))
                | refine TX.raw ?_)
            | refine Fin3.of (by conv => lhs; cbv) (by repeat' (first | exact True.intro | exact rfl | refine And.intro ?_ ?_)) ?_ ?_
            | (refine AllO.pass ?_; first
                | exact AllO.nil
                | (refine AllO.cons (One.ev hA tabOk ?_) ?_ <;> (first | refine AllO.pass ?_ | ((conv => lhs; cbv); done)))
                | (refine AllO.cons (One.skipB ?_) ?_ <;> (first | refine AllO.pass ?_ | ((conv => lhs; cbv); done)))
                | ((first | refine AllO.consX (One.elemM hA tabOk rfl rfl rfl rfl ?_ ?_) rfl rfl ?_ | refine AllO.consX (One.lenOwnM hA tabOk rfl rfl rfl rfl) rfl rfl ?_ | refine AllO.consX (One.elemOwnM hA tabOk rfl rfl rfl rfl rfl ?_ ?_) rfl rfl ?_ | refine AllO.consX (One.loadRatM hA tabOk rfl rfl rfl rfl rfl rfl ?_) rfl rfl ?_) <;> (first | refine AllO.pass ?_ | (((try simp only [zn]) <;> (try simp (disch := omega) only [zz hA, zb, zy, reduceCtorEq, Bool.false_eq_true, Int.reduceLT, Int.reduceLE, Int.reduceNeg]) <;> (try simp only [zw])) <;> omega))))
            | refine Thn.exit ?_
            | refine Blk.here ?_
            | refine Blk.other (by decide) ?_
            | refine ⟨.inl rfl, _, RetOk.ev tabOk (by conv => lhs; cbv), ?_⟩
            | fail)
          refine ⟨rfl, Nat.le_of_ble_eq_true rfl, (by repeat' (first | exact trimOk.nil | refine trimOk.same ?_ | refine trimOk.turn rfl ?_)), ?_⟩
          exact .inl ⟨rfl, by omega, rfl⟩
      · have hpn : (p : Int) = 1 := by unfold partsM at hpd; simp at hpd; omega
        have hpt := sParts_c hA l 6 sa na hl hsz (by omega)
        have hvp := fun j h => vary_parts l 6 sa na (by decide) (by omega) j h
        generalize (partsS l 6 sa na).1 = pp at *
        generalize (partsS l 6 sa na).2 = pb at *
        try first | refine AOLg.of [] ?_ | refine QSg.of [] ?_
        repeat' (first
          | (refine AWp.pass ?_; first
              | refine AWp.seq ?_
              | refine AWp.block ?_
              | refine AWp.skip ?_
              | refine AWp.regG [] (by conv => lhs; cbv) ?_
              | refine AWp.cond_t rfl ?_
              | refine AWp.cond_f rfl ?_
              | (refine AWp.cond rfl ?_ ?_ <;> intro hc <;> (try rw [hc]) <;> ((try simp only [zn] at hc) <;> (try simp (disch := omega) only [zz hA, zb, zy, reduceCtorEq, Bool.false_eq_true, Int.reduceLT, Int.reduceLE, Int.reduceNeg] at hc) <;> (try simp only [zw] at hc)) <;> (try (exfalso; omega)))
              | refine AWp.exit ?_
              | refine AWp.ret ⟨.inr rfl, _, RetOk.ev tabOk (by conv => lhs; cbv), ?_⟩
              | refine AWp.drawVG [] rfl (by decide +kernel) (by conv => lhs; cbv) ?_)
          | (refine AOLg.pass ?_; refine AOLg.nx hA tabOk (by conv => lhs; cbv) ?_; first
              | refine NX.done ?_
              | refine NX.gt ?_
              | refine NX.gf ?_
              | (refine NX.gs ?_ ?_ <;> intro hc <;> rw [hc] <;> ((try simp only [zn] at hc) <;> (try simp (disch := omega) only [zz hA, zb, zy, reduceCtorEq, Bool.false_eq_true, Int.reduceLT, Int.reduceLE, Int.reduceNeg] at hc) <;> (try simp only [zw] at hc)) <;> (try (exfalso; omega)))
              | (refine NX.kC ?_; first | (with_reducible refine NX.call (hpt) ?_) | ((first | refine NX.call (hpt) ?_)) | fail)
              | (refine NX.kO ?_; (first | refine NX.callO (hpt) (by simp [allEq]) rfl ?_))
              | ((first | (refine NX.k 1 ?_; first | refine NX.one (One.elemM hA tabOk rfl rfl rfl rfl ?_ ?_) ?_ | refine NX.one (One.elemOwnM hA tabOk rfl rfl rfl rfl rfl ?_ ?_) ?_) | (refine NX.k 8 ?_; first | refine NX.one (One.eqBoolM hA tabOk rfl rfl rfl rfl rfl) ?_) | (refine NX.k 9 ?_; first | refine NX.one (One.neBoolM hA tabOk rfl rfl rfl rfl rfl) ?_) | (refine NX.k 10 ?_; first | refine NX.one (One.lenOwnM hA tabOk rfl rfl rfl rfl) ?_) | (refine NX.k 14 ?_; first | refine NX.one (One.loadRatM hA tabOk rfl rfl rfl rfl rfl rfl ?_) ?_) | (refine NX.k 15 ?_; first | refine NX.one (One.storeRatM hA tabOk _ rfl rfl rfl rfl rfl rfl rfl rfl (fun _ => rfl) ?_) ?_) | (refine NX.k 16 ?_; first | refine NX.one (One.makeM hA tabOk encI 0 rfl rfl rfl rfl rfl rfl rfl ?_ ?_ ?_) ?_) | (refine NX.k 18 ?_; first | refine NX.one (One.fieldRat tabOk rfl rfl rfl rfl (by decide) rfl rfl) ?_)) <;> (first | refine AOLg.pass ?_ | (((try simp only [zn]) <;> (try simp (disch := omega) only [zz hA, zb, zy, reduceCtorEq, Bool.false_eq_true, Int.reduceLT, Int.reduceLE, Int.reduceNeg]) <;> (try simp only [zw])) <;> omega)))
              | refine NX.raw ?_)
          | (refine TRg.pass ?_; refine TRg.nx hA tabOk (by conv => lhs; cbv) ?_; first
              | refine TX.done ?_
              | refine TX.gt ?_
              | refine TX.gf ?_
              | (refine TX.gs ?_ ?_ <;> intro hc <;> rw [hc] <;> ((try simp only [zn] at hc) <;> (try simp (disch := omega) only [zz hA, zb, zy, reduceCtorEq, Bool.false_eq_true, Int.reduceLT, Int.reduceLE, Int.reduceNeg] at hc) <;> (try simp only [zw] at hc)) <;> (try (exfalso; omega)))
              | (refine TX.kC ?_; first | (with_reducible refine TX.call (hpt) ?_) | ((first | refine TX.call (hpt) ?_)) | fail)
              | (refine TX.kO ?_; (first | refine TX.callO (hpt) (by simp [allEq]) rfl ?_))
              | ((first | (refine TX.k 1 ?_; first | refine TX.one (One.elemM hA tabOk rfl rfl rfl rfl ?_ ?_) ?_ | refine TX.one (One.elemOwnM hA tabOk rfl rfl rfl rfl rfl ?_ ?_) ?_) | (refine TX.k 8 ?_; first | refine TX.one (One.eqBoolM hA tabOk rfl rfl rfl rfl rfl) ?_) | (refine TX.k 9 ?_; first | refine TX.one (One.neBoolM hA tabOk rfl rfl rfl rfl rfl) ?_) | (refine TX.k 10 ?_; first | refine TX.one (One.lenOwnM hA tabOk rfl rfl rfl rfl) ?_) | (refine TX.k 14 ?_; first | refine TX.one (One.loadRatM hA tabOk rfl rfl rfl rfl rfl rfl ?_) ?_) | (refine TX.k 15 ?_; first | refine TX.one (One.storeRatM hA tabOk _ rfl rfl rfl rfl rfl rfl rfl rfl (fun _ => rfl) ?_) ?_) | (refine TX.k 16 ?_; first | refine TX.one (One.makeM hA tabOk encI 0 rfl rfl rfl rfl rfl rfl rfl ?_ ?_ ?_) ?_) | (refine TX.k 18 ?_; first | refine TX.one (One.fieldRat tabOk rfl rfl rfl rfl (by decide) rfl rfl) ?_)) <;> (first | refine TRg.pass ?_ | (((try simp only [zn]) <;> (try simp (disch := omega) only [zz hA, zb, zy, reduceCtorEq, Bool.false_eq_true, Int.reduceLT, Int.reduceLE, Int.reduceNeg]) <;> (try simp only [zw])) <;> omega)))
              | refine TX.raw ?_)
          | refine Fin3.of (by conv => lhs; cbv) (by repeat' (first | exact True.intro | exact rfl | refine And.intro ?_ ?_)) ?_ ?_
          | (refine AllO.pass ?_; first
              | exact AllO.nil
              | (refine AllO.cons (One.ev hA tabOk ?_) ?_ <;> (first | refine AllO.pass ?_ | ((conv => lhs; cbv); done)))
              | (refine AllO.cons (One.skipB ?_) ?_ <;> (first | refine AllO.pass ?_ | ((conv => lhs; cbv); done)))
              | ((with_reducible refine AllO.call (by conv => lhs; cbv) (hpt) ?_ ?_) <;> (first | refine AllO.pass ?_ | exact rfl | (((try simp only [zn]) <;> (try simp (disch := omega) only [zz hA, zb, zy, reduceCtorEq, Bool.false_eq_true, Int.reduceLT, Int.reduceLE, Int.reduceNeg]) <;> (try simp only [zw])) <;> omega)))
              | ((first | refine AllO.consX (One.elemM hA tabOk rfl rfl rfl rfl ?_ ?_) rfl rfl ?_ | refine AllO.consX (One.lenOwnM hA tabOk rfl rfl rfl rfl) rfl rfl ?_ | refine AllO.consX (One.elemOwnM hA tabOk rfl rfl rfl rfl rfl ?_ ?_) rfl rfl ?_ | refine AllO.consX (One.loadRatM hA tabOk rfl rfl rfl rfl rfl rfl ?_) rfl rfl ?_) <;> (first | refine AllO.pass ?_ | (((try simp only [zn]) <;> (try simp (disch := omega) only [zz hA, zb, zy, reduceCtorEq, Bool.false_eq_true, Int.reduceLT, Int.reduceLE, Int.reduceNeg]) <;> (try simp only [zw])) <;> omega))))
          | refine Thn.exit ?_
          | refine Blk.here ?_
          | refine Blk.other (by decide) ?_
          | refine ⟨.inl rfl, _, RetOk.ev tabOk (by conv => lhs; cbv), ?_⟩
          | fail)
        refine AWp.loopU (fun j : Nat => [(16, .ic (.lit (.int .i64 (hid A (cN p - 1 - cN j))))), (15, .ic (.lit (.int .i64 (hid A (backD S i j - 1)))))]) (fun j => [.var true 22 [.ic (.sl 2 false (hid A (List.map (encG A) l)))], .var true 41 [.ic (.sl 1 false (hid A (List.map encI S)))], .row true 0 5 1 (hid A (List.map encU (setsD O (kidsD S i p) (fun k => turnD (O.getD i default) (varyD l 6 sa na k)) (dnL p j)))), .var true 31 [.own 2 0], .var true 23 [.ic (.sl 3 false (hid A (List.map (encD A) E)))], .lp bz, .var true 38 [.ic (.lit (.int .i64 6)), .ic (.lit (.string sa)), .ic (.lit (.int .i64 na))], .var true 9 [.ic (.lit (.string (hid A pp)))], .var true 4 [.ic (.lit (.bool (hid A pb)))]]) (fun j => p - j) (fun j => j ≤ p) 0 (by conv => lhs; cbv) (Nat.zero_le _) (.int rfl (by (((try simp only [zn]) <;> (try simp (disch := omega) only [zz hA, zb, zy, reduceCtorEq, Bool.false_eq_true, Int.reduceLT, Int.reduceLE, Int.reduceNeg]) <;> (try simp only [zw])) <;> omega)) (.int rfl (by simp only [backD]; (((try simp only [zn]) <;> (try simp (disch := omega) only [zz hA, zb, zy, reduceCtorEq, Bool.false_eq_true, Int.reduceLT, Int.reduceLE, Int.reduceNeg]) <;> (try simp only [zw])) <;> omega)) .nil)) (by
          simp only [dnL, List.range_zero, List.map_nil, setsD, List.foldl_nil]) ?_
        intro j hj0
        have hml := setsD_len (kidsD S i p) (fun k => turnD (O.getD i default) (varyD l 6 sa na k)) (dnL p j) O
        by_cases hj : j < p
        · have hnx : setsD O (kidsD S i p) (fun k => turnD (O.getD i default) (varyD l 6 sa na k)) (dnL p (j + 1)) = (setsD O (kidsD S i p) (fun k => turnD (O.getD i default) (varyD l 6 sa na k)) (dnL p j)).set (backD S i j - 1).toNat (turnD (O.getD i default) (varyD l 6 sa na (p - 1 - j))) := by
            rw [dnL_succ, setsD_append]
            show (setsD O (kidsD S i p) _ (dnL p j)).set ((kidsD S i p).getD (p - 1 - j) default).toNat _ = _
            rw [hkg (p - 1 - j) (by omega), show p - 1 - (p - 1 - j) = j by omega]
          have hat : (setsD O (kidsD S i p) (fun k => turnD (O.getD i default) (varyD l 6 sa na k)) (dnL p j)).getD i default = O.getD i default := setsD_other _ _ _ _ _ fun k hk => by
            have h2 := dnL_mem hk hj0
            have := hkin k h2.2
            omega
          have hb0 := hway j hj0
          have hb1 := hway (j + 1) (by omega)
          have hbp := hwayp j hj
          have hbb : ∀ q : Int, q = backD S i j - 1 → S.getD q.toNat default = backD S i (j + 1) := by rintro q rfl; rfl
          have hzi : ∀ q : Int, q = i → (setsD O (kidsD S i p) (fun k => turnD (O.getD i default) (varyD l 6 sa na k)) (dnL p j)).getD q.toNat default = O.getD i default := by rintro q rfl; exact hat
          have hv1 := hvp (p - 1 - j) (by unfold partsM; simp; omega)
          have hcl := of2_at hA (p - 1 - j) pp pb hv1.1 hv1.2
          clear hvp hv1
          have htu := turned_at hA (O.getD i default) (varyD l 6 sa na (p - 1 - j)) hok
          generalize hO3 : setsD O (kidsD S i p) (fun k => turnD (O.getD i default) (varyD l 6 sa na k)) (dnL p (j + 1)) = O3 at *
          generalize setsD O (kidsD S i p) (fun k => turnD (O.getD i default) (varyD l 6 sa na k)) (dnL p j) = O1 at *
          generalize varyD l 6 sa na (p - 1 - j) = V at *
          generalize O.getD i default = W at *
          generalize hB2 : backD S i (j + 1) = b2 at *
          generalize backD S i j = b at *
          have hbb2 := hbb (hid A (b - 1)) (by rw [hid_eq hA])
          try first | refine AOLg.of [] ?_ | refine QSg.of [] ?_
          repeat' (first
            | (refine AWp.pass ?_; first
                | refine AWp.seq ?_
                | refine AWp.block ?_
                | refine AWp.skip ?_
                | refine AWp.regG [] (by conv => lhs; cbv) ?_
                | refine AWp.cond_t rfl ?_
                | refine AWp.cond_f rfl ?_
                | (refine AWp.cond rfl ?_ ?_ <;> intro hc <;> (try rw [hc]) <;> ((try simp only [zn] at hc) <;> (try simp (disch := omega) only [zz hA, zb, zy, reduceCtorEq, Bool.false_eq_true, Int.reduceLT, Int.reduceLE, Int.reduceNeg] at hc) <;> (try simp only [zw] at hc)) <;> (try (exfalso; omega)))
                | refine AWp.exit ?_
                | refine AWp.ret ⟨.inr rfl, _, RetOk.ev tabOk (by conv => lhs; cbv), ?_⟩
                | refine AWp.drawVG [] rfl (by decide +kernel) (by conv => lhs; cbv) ?_)
            | (refine AOLg.pass ?_; refine AOLg.nx hA tabOk (by conv => lhs; cbv) ?_; first
                | refine NX.done ?_
                | refine NX.gt ?_
                | refine NX.gf ?_
                | (refine NX.gs ?_ ?_ <;> intro hc <;> rw [hc] <;> ((try simp only [zn] at hc) <;> (try simp (disch := omega) only [zz hA, zb, zy, reduceCtorEq, Bool.false_eq_true, Int.reduceLT, Int.reduceLE, Int.reduceNeg] at hc) <;> (try simp only [zw] at hc)) <;> (try (exfalso; omega)))
                | (refine NX.kC ?_; first | (with_reducible refine NX.call (htu _ _ (by simp only [hid_eq hA]; exact hzi _ hz) (by simp only [hid_eq hA])) ?_) | ((first | refine NX.call (htu _ _ (by simp only [hid_eq hA]; exact hzi _ hz) (by simp only [hid_eq hA])) ?_)) | fail)
                | (refine NX.kO ?_; (first | refine NX.callO (htu _ _ (by simp only [hid_eq hA]; exact hzi _ hz) (by simp only [hid_eq hA])) (by simp [allEq]) rfl ?_))
                | ((first | (refine NX.k 1 ?_; first | refine NX.one (One.elemM hA tabOk rfl rfl rfl rfl ?_ ?_) ?_ | refine NX.one (One.elemOwnM hA tabOk rfl rfl rfl rfl rfl ?_ ?_) ?_) | (refine NX.k 8 ?_; first | refine NX.one (One.eqBoolM hA tabOk rfl rfl rfl rfl rfl) ?_) | (refine NX.k 9 ?_; first | refine NX.one (One.neBoolM hA tabOk rfl rfl rfl rfl rfl) ?_) | (refine NX.k 10 ?_; first | refine NX.one (One.lenOwnM hA tabOk rfl rfl rfl rfl) ?_) | (refine NX.k 14 ?_; first | refine NX.one (One.loadRatM hA tabOk rfl rfl rfl rfl rfl rfl ?_) ?_) | (refine NX.k 15 ?_; first | refine NX.one (One.storeRatM hA tabOk _ rfl rfl rfl rfl rfl rfl rfl rfl (fun _ => rfl) ?_) ?_) | (refine NX.k 16 ?_; first | refine NX.one (One.makeM hA tabOk encI 0 rfl rfl rfl rfl rfl rfl rfl ?_ ?_ ?_) ?_) | (refine NX.k 18 ?_; first | refine NX.one (One.fieldRat tabOk rfl rfl rfl rfl (by decide) rfl rfl) ?_)) <;> (first | refine AOLg.pass ?_ | (((try simp only [zn]) <;> (try simp (disch := omega) only [zz hA, zb, zy, reduceCtorEq, Bool.false_eq_true, Int.reduceLT, Int.reduceLE, Int.reduceNeg]) <;> (try simp only [zw])) <;> omega)))
                | (refine NX.one (One.fcall 7 (hcl (hid A (cN p - 1 - cN j)) (by (((try simp only [zn]) <;> (try simp (disch := omega) only [zz hA, zb, zy, reduceCtorEq, Bool.false_eq_true, Int.reduceLT, Int.reduceLE, Int.reduceNeg]) <;> (try simp only [zw])) <;> omega))) rfl rfl rfl rfl rfl rfl rfl rfl) ?_)
                | refine NX.raw ?_)
            | (refine TRg.pass ?_; refine TRg.nx hA tabOk (by conv => lhs; cbv) ?_; first
                | refine TX.done ?_
                | refine TX.gt ?_
                | refine TX.gf ?_
                | (refine TX.gs ?_ ?_ <;> intro hc <;> rw [hc] <;> ((try simp only [zn] at hc) <;> (try simp (disch := omega) only [zz hA, zb, zy, reduceCtorEq, Bool.false_eq_true, Int.reduceLT, Int.reduceLE, Int.reduceNeg] at hc) <;> (try simp only [zw] at hc)) <;> (try (exfalso; omega)))
                | (refine TX.kC ?_; first | (with_reducible refine TX.call (htu _ _ (by simp only [hid_eq hA]; exact hzi _ hz) (by simp only [hid_eq hA])) ?_) | ((first | refine TX.call (htu _ _ (by simp only [hid_eq hA]; exact hzi _ hz) (by simp only [hid_eq hA])) ?_)) | fail)
                | (refine TX.kO ?_; (first | refine TX.callO (htu _ _ (by simp only [hid_eq hA]; exact hzi _ hz) (by simp only [hid_eq hA])) (by simp [allEq]) rfl ?_))
                | ((first | (refine TX.k 1 ?_; first | refine TX.one (One.elemM hA tabOk rfl rfl rfl rfl ?_ ?_) ?_ | refine TX.one (One.elemOwnM hA tabOk rfl rfl rfl rfl rfl ?_ ?_) ?_) | (refine TX.k 8 ?_; first | refine TX.one (One.eqBoolM hA tabOk rfl rfl rfl rfl rfl) ?_) | (refine TX.k 9 ?_; first | refine TX.one (One.neBoolM hA tabOk rfl rfl rfl rfl rfl) ?_) | (refine TX.k 10 ?_; first | refine TX.one (One.lenOwnM hA tabOk rfl rfl rfl rfl) ?_) | (refine TX.k 14 ?_; first | refine TX.one (One.loadRatM hA tabOk rfl rfl rfl rfl rfl rfl ?_) ?_) | (refine TX.k 15 ?_; first | refine TX.one (One.storeRatM hA tabOk _ rfl rfl rfl rfl rfl rfl rfl rfl (fun _ => rfl) ?_) ?_) | (refine TX.k 16 ?_; first | refine TX.one (One.makeM hA tabOk encI 0 rfl rfl rfl rfl rfl rfl rfl ?_ ?_ ?_) ?_) | (refine TX.k 18 ?_; first | refine TX.one (One.fieldRat tabOk rfl rfl rfl rfl (by decide) rfl rfl) ?_)) <;> (first | refine TRg.pass ?_ | (((try simp only [zn]) <;> (try simp (disch := omega) only [zz hA, zb, zy, reduceCtorEq, Bool.false_eq_true, Int.reduceLT, Int.reduceLE, Int.reduceNeg]) <;> (try simp only [zw])) <;> omega)))
                | (refine TX.one (One.fcall 7 (hcl (hid A (cN p - 1 - cN j)) (by (((try simp only [zn]) <;> (try simp (disch := omega) only [zz hA, zb, zy, reduceCtorEq, Bool.false_eq_true, Int.reduceLT, Int.reduceLE, Int.reduceNeg]) <;> (try simp only [zw])) <;> omega))) rfl rfl rfl rfl rfl rfl rfl rfl) ?_)
                | refine TX.raw ?_)
            | refine Fin3.of (by conv => lhs; cbv) (by repeat' (first | exact True.intro | exact rfl | refine And.intro ?_ ?_)) ?_ ?_
            | (refine AllO.pass ?_; first
                | exact AllO.nil
                | (refine AllO.cons (One.ev hA tabOk ?_) ?_ <;> (first | refine AllO.pass ?_ | ((conv => lhs; cbv); done)))
                | (refine AllO.cons (One.skipB ?_) ?_ <;> (first | refine AllO.pass ?_ | ((conv => lhs; cbv); done)))
                | ((with_reducible refine AllO.call (by conv => lhs; cbv) (htu _ _ (by simp only [hid_eq hA]; exact hzi _ hz) (by simp only [hid_eq hA])) ?_ ?_) <;> (first | refine AllO.pass ?_ | exact rfl | (((try simp only [zn]) <;> (try simp (disch := omega) only [zz hA, zb, zy, reduceCtorEq, Bool.false_eq_true, Int.reduceLT, Int.reduceLE, Int.reduceNeg]) <;> (try simp only [zw])) <;> omega)))
                | ((first | refine AllO.consX (One.elemM hA tabOk rfl rfl rfl rfl ?_ ?_) rfl rfl ?_ | refine AllO.consX (One.lenOwnM hA tabOk rfl rfl rfl rfl) rfl rfl ?_ | refine AllO.consX (One.elemOwnM hA tabOk rfl rfl rfl rfl rfl ?_ ?_) rfl rfl ?_ | refine AllO.consX (One.loadRatM hA tabOk rfl rfl rfl rfl rfl rfl ?_) rfl rfl ?_) <;> (first | refine AllO.pass ?_ | (((try simp only [zn]) <;> (try simp (disch := omega) only [zz hA, zb, zy, reduceCtorEq, Bool.false_eq_true, Int.reduceLT, Int.reduceLE, Int.reduceNeg]) <;> (try simp only [zw])) <;> omega)))
                | ((refine AllO.consX (One.fcall 7 (hcl (hid A (cN p - 1 - cN j)) (by (((try simp only [zn]) <;> (try simp (disch := omega) only [zz hA, zb, zy, reduceCtorEq, Bool.false_eq_true, Int.reduceLT, Int.reduceLE, Int.reduceNeg]) <;> (try simp only [zw])) <;> omega))) rfl rfl rfl rfl rfl rfl rfl rfl) rfl rfl ?_) <;> (first | refine AllO.pass ?_ | (((try simp only [zn]) <;> (try simp (disch := omega) only [zz hA, zb, zy, reduceCtorEq, Bool.false_eq_true, Int.reduceLT, Int.reduceLE, Int.reduceNeg]) <;> (try simp only [zw])) <;> omega))))
            | refine Thn.exit ?_
            | refine Blk.here ?_
            | refine Blk.other (by decide) ?_
            | refine ⟨.inl rfl, _, RetOk.ev tabOk (by conv => lhs; cbv), ?_⟩
            | fail)
          refine ⟨j + 1, by omega, by omega, rfl, ?_, ?_, (by repeat' (first | exact subE.nil | refine subE.cons rfl ?_))⟩
          · simp only [hid_eq hA, hO3, hnx]
          · refine .int rfl (by (((try simp only [zn]) <;> (try simp (disch := omega) only [zz hA, zb, zy, reduceCtorEq, Bool.false_eq_true, Int.reduceLT, Int.reduceLE, Int.reduceNeg]) <;> (try simp only [zw])) <;> omega)) (.int rfl ?_ .nil)
            rw [hB2]
            simp only [hid_eq hA] at hbb2 ⊢
            rw [hbb2]
            (((try simp only [zn]) <;> (try simp (disch := omega) only [zz hA, zb, zy, reduceCtorEq, Bool.false_eq_true, Int.reduceLT, Int.reduceLE, Int.reduceNeg]) <;> (try simp only [zw])) <;> omega)
        · obtain rfl : j = p := by omega
          have hfin : setsD O (kidsD S i j) (fun k => turnD (O.getD i default) (varyD l 6 sa na k)) (dnL j j) = O2 := by
            rw [hstep, dnL_all, setsD_rev _ _ _ _ hap]
          rw [hfin]
          try first | refine AOLg.of [] ?_ | refine QSg.of [] ?_
          repeat' (first
            | (refine AWp.pass ?_; first
                | refine AWp.seq ?_
                | refine AWp.block ?_
                | refine AWp.skip ?_
                | refine AWp.regG [] (by conv => lhs; cbv) ?_
                | refine AWp.cond_t rfl ?_
                | refine AWp.cond_f rfl ?_
                | (refine AWp.cond rfl ?_ ?_ <;> intro hc <;> (try rw [hc]) <;> ((try simp only [zn] at hc) <;> (try simp (disch := omega) only [zz hA, zb, zy, reduceCtorEq, Bool.false_eq_true, Int.reduceLT, Int.reduceLE, Int.reduceNeg] at hc) <;> (try simp only [zw] at hc)) <;> (try (exfalso; omega)))
                | refine AWp.exit ?_
                | refine AWp.ret ⟨.inr rfl, _, RetOk.ev tabOk (by conv => lhs; cbv), ?_⟩
                | refine AWp.drawVG [] rfl (by decide +kernel) (by conv => lhs; cbv) ?_)
            | (refine AOLg.pass ?_; refine AOLg.nx hA tabOk (by conv => lhs; cbv) ?_; first
                | refine NX.done ?_
                | refine NX.gt ?_
                | refine NX.gf ?_
                | (refine NX.gs ?_ ?_ <;> intro hc <;> rw [hc] <;> ((try simp only [zn] at hc) <;> (try simp (disch := omega) only [zz hA, zb, zy, reduceCtorEq, Bool.false_eq_true, Int.reduceLT, Int.reduceLE, Int.reduceNeg] at hc) <;> (try simp only [zw] at hc)) <;> (try (exfalso; omega)))
                | ((first | (refine NX.k 1 ?_; first | refine NX.one (One.elemM hA tabOk rfl rfl rfl rfl ?_ ?_) ?_ | refine NX.one (One.elemOwnM hA tabOk rfl rfl rfl rfl rfl ?_ ?_) ?_) | (refine NX.k 8 ?_; first | refine NX.one (One.eqBoolM hA tabOk rfl rfl rfl rfl rfl) ?_) | (refine NX.k 9 ?_; first | refine NX.one (One.neBoolM hA tabOk rfl rfl rfl rfl rfl) ?_) | (refine NX.k 10 ?_; first | refine NX.one (One.lenOwnM hA tabOk rfl rfl rfl rfl) ?_) | (refine NX.k 14 ?_; first | refine NX.one (One.loadRatM hA tabOk rfl rfl rfl rfl rfl rfl ?_) ?_) | (refine NX.k 15 ?_; first | refine NX.one (One.storeRatM hA tabOk _ rfl rfl rfl rfl rfl rfl rfl rfl (fun _ => rfl) ?_) ?_) | (refine NX.k 16 ?_; first | refine NX.one (One.makeM hA tabOk encI 0 rfl rfl rfl rfl rfl rfl rfl ?_ ?_ ?_) ?_) | (refine NX.k 18 ?_; first | refine NX.one (One.fieldRat tabOk rfl rfl rfl rfl (by decide) rfl rfl) ?_)) <;> (first | refine AOLg.pass ?_ | (((try simp only [zn]) <;> (try simp (disch := omega) only [zz hA, zb, zy, reduceCtorEq, Bool.false_eq_true, Int.reduceLT, Int.reduceLE, Int.reduceNeg]) <;> (try simp only [zw])) <;> omega)))
                | refine NX.raw ?_)
            | (refine TRg.pass ?_; refine TRg.nx hA tabOk (by conv => lhs; cbv) ?_; first
                | refine TX.done ?_
                | refine TX.gt ?_
                | refine TX.gf ?_
                | (refine TX.gs ?_ ?_ <;> intro hc <;> rw [hc] <;> ((try simp only [zn] at hc) <;> (try simp (disch := omega) only [zz hA, zb, zy, reduceCtorEq, Bool.false_eq_true, Int.reduceLT, Int.reduceLE, Int.reduceNeg] at hc) <;> (try simp only [zw] at hc)) <;> (try (exfalso; omega)))
                | ((first | (refine TX.k 1 ?_; first | refine TX.one (One.elemM hA tabOk rfl rfl rfl rfl ?_ ?_) ?_ | refine TX.one (One.elemOwnM hA tabOk rfl rfl rfl rfl rfl ?_ ?_) ?_) | (refine TX.k 8 ?_; first | refine TX.one (One.eqBoolM hA tabOk rfl rfl rfl rfl rfl) ?_) | (refine TX.k 9 ?_; first | refine TX.one (One.neBoolM hA tabOk rfl rfl rfl rfl rfl) ?_) | (refine TX.k 10 ?_; first | refine TX.one (One.lenOwnM hA tabOk rfl rfl rfl rfl) ?_) | (refine TX.k 14 ?_; first | refine TX.one (One.loadRatM hA tabOk rfl rfl rfl rfl rfl rfl ?_) ?_) | (refine TX.k 15 ?_; first | refine TX.one (One.storeRatM hA tabOk _ rfl rfl rfl rfl rfl rfl rfl rfl (fun _ => rfl) ?_) ?_) | (refine TX.k 16 ?_; first | refine TX.one (One.makeM hA tabOk encI 0 rfl rfl rfl rfl rfl rfl rfl ?_ ?_ ?_) ?_) | (refine TX.k 18 ?_; first | refine TX.one (One.fieldRat tabOk rfl rfl rfl rfl (by decide) rfl rfl) ?_)) <;> (first | refine TRg.pass ?_ | (((try simp only [zn]) <;> (try simp (disch := omega) only [zz hA, zb, zy, reduceCtorEq, Bool.false_eq_true, Int.reduceLT, Int.reduceLE, Int.reduceNeg]) <;> (try simp only [zw])) <;> omega)))
                | refine TX.raw ?_)
            | refine Fin3.of (by conv => lhs; cbv) (by repeat' (first | exact True.intro | exact rfl | refine And.intro ?_ ?_)) ?_ ?_
            | (refine AllO.pass ?_; first
                | exact AllO.nil
                | (refine AllO.cons (One.ev hA tabOk ?_) ?_ <;> (first | refine AllO.pass ?_ | ((conv => lhs; cbv); done)))
                | (refine AllO.cons (One.skipB ?_) ?_ <;> (first | refine AllO.pass ?_ | ((conv => lhs; cbv); done)))
                | ((first | refine AllO.consX (One.elemM hA tabOk rfl rfl rfl rfl ?_ ?_) rfl rfl ?_ | refine AllO.consX (One.lenOwnM hA tabOk rfl rfl rfl rfl) rfl rfl ?_ | refine AllO.consX (One.elemOwnM hA tabOk rfl rfl rfl rfl rfl ?_ ?_) rfl rfl ?_ | refine AllO.consX (One.loadRatM hA tabOk rfl rfl rfl rfl rfl rfl ?_) rfl rfl ?_) <;> (first | refine AllO.pass ?_ | (((try simp only [zn]) <;> (try simp (disch := omega) only [zz hA, zb, zy, reduceCtorEq, Bool.false_eq_true, Int.reduceLT, Int.reduceLE, Int.reduceNeg]) <;> (try simp only [zw])) <;> omega))))
            | refine Thn.exit ?_
            | refine Blk.here ?_
            | refine Blk.other (by decide) ?_
            | refine ⟨.inl rfl, _, RetOk.ev tabOk (by conv => lhs; cbv), ?_⟩
            | fail)
          refine ⟨rfl, Nat.le_of_ble_eq_true rfl, (by repeat' (first | exact trimOk.nil | refine trimOk.same ?_ | refine trimOk.turn rfl ?_)), ?_⟩
          exact .inl ⟨rfl, by omega, rfl⟩
    · refine ⟨Nat.le_refl _, ?_⟩
      have e0 : A .len (List.map (encD A) E) = (E.length : Int) := by simp [hA, real, hid]
      have e1 : A .sub .i64 (E.length : Int) 1 = (E.length : Int) - 1 := by (((try simp only [zn]) <;> (try simp (disch := omega) only [zz hA, zb, zy, reduceCtorEq, Bool.false_eq_true, Int.reduceLT, Int.reduceLE, Int.reduceNeg]) <;> (try simp only [zw])) <;> omega)
      have e2 : ((E.length : Int) - 1).toNat = E.length - 1 := by omega
      simp only [hid_eq hA, e0, e1, e2, Int.toNat_natCast, Nat.sub_self, sdM]
      first
        | (rw [show side0 s = 66 from by unfold side0; rw [if_neg (by omega)]]
           rfl)
        | (rw [show side0 s = s from by unfold side0; rw [if_pos (by omega)]]
           rfl)
    · rintro y st' ⟨rfl, ⟨_, rfl⟩ | h⟩
      · refine .inl ⟨rfl, fun x => ?_⟩
        try first | refine AOLg.of [] ?_ | refine QSg.of [] ?_
        repeat' (first
          | (refine AWp.pass ?_; first
              | refine AWp.seq ?_
              | refine AWp.block ?_
              | refine AWp.skip ?_
              | refine AWp.regG [] (by conv => lhs; cbv) ?_
              | refine AWp.cond_t rfl ?_
              | refine AWp.cond_f rfl ?_
              | (refine AWp.cond rfl ?_ ?_ <;> intro hc <;> (try rw [hc]) <;> ((try simp only [zn] at hc) <;> (try simp (disch := omega) only [zz hA, zb, zy, reduceCtorEq, Bool.false_eq_true, Int.reduceLT, Int.reduceLE, Int.reduceNeg] at hc) <;> (try simp only [zw] at hc)) <;> (try (exfalso; omega)))
              | refine AWp.exit ?_
              | refine AWp.ret ⟨.inr rfl, _, RetOk.ev tabOk (by conv => lhs; cbv), ?_⟩
              | refine AWp.drawVG [] rfl (by decide +kernel) (by conv => lhs; cbv) ?_)
          | (refine AOLg.pass ?_; refine AOLg.nx hA tabOk (by conv => lhs; cbv) ?_; first
              | refine NX.done ?_
              | refine NX.gt ?_
              | refine NX.gf ?_
              | (refine NX.gs ?_ ?_ <;> intro hc <;> rw [hc] <;> ((try simp only [zn] at hc) <;> (try simp (disch := omega) only [zz hA, zb, zy, reduceCtorEq, Bool.false_eq_true, Int.reduceLT, Int.reduceLE, Int.reduceNeg] at hc) <;> (try simp only [zw] at hc)) <;> (try (exfalso; omega)))
              | ((first | (refine NX.k 1 ?_; first | refine NX.one (One.elemM hA tabOk rfl rfl rfl rfl ?_ ?_) ?_ | refine NX.one (One.elemOwnM hA tabOk rfl rfl rfl rfl rfl ?_ ?_) ?_) | (refine NX.k 8 ?_; first | refine NX.one (One.eqBoolM hA tabOk rfl rfl rfl rfl rfl) ?_) | (refine NX.k 9 ?_; first | refine NX.one (One.neBoolM hA tabOk rfl rfl rfl rfl rfl) ?_) | (refine NX.k 10 ?_; first | refine NX.one (One.lenOwnM hA tabOk rfl rfl rfl rfl) ?_) | (refine NX.k 14 ?_; first | refine NX.one (One.loadRatM hA tabOk rfl rfl rfl rfl rfl rfl ?_) ?_) | (refine NX.k 15 ?_; first | refine NX.one (One.storeRatM hA tabOk _ rfl rfl rfl rfl rfl rfl rfl rfl (fun _ => rfl) ?_) ?_) | (refine NX.k 16 ?_; first | refine NX.one (One.makeM hA tabOk encI 0 rfl rfl rfl rfl rfl rfl rfl ?_ ?_ ?_) ?_) | (refine NX.k 18 ?_; first | refine NX.one (One.fieldRat tabOk rfl rfl rfl rfl (by decide) rfl rfl) ?_)) <;> (first | refine AOLg.pass ?_ | (((try simp only [zn]) <;> (try simp (disch := omega) only [zz hA, zb, zy, reduceCtorEq, Bool.false_eq_true, Int.reduceLT, Int.reduceLE, Int.reduceNeg]) <;> (try simp only [zw])) <;> omega)))
              | refine NX.raw ?_)
          | (refine TRg.pass ?_; refine TRg.nx hA tabOk (by conv => lhs; cbv) ?_; first
              | refine TX.done ?_
              | refine TX.gt ?_
              | refine TX.gf ?_
              | (refine TX.gs ?_ ?_ <;> intro hc <;> rw [hc] <;> ((try simp only [zn] at hc) <;> (try simp (disch := omega) only [zz hA, zb, zy, reduceCtorEq, Bool.false_eq_true, Int.reduceLT, Int.reduceLE, Int.reduceNeg] at hc) <;> (try simp only [zw] at hc)) <;> (try (exfalso; omega)))
              | ((first | (refine TX.k 1 ?_; first | refine TX.one (One.elemM hA tabOk rfl rfl rfl rfl ?_ ?_) ?_ | refine TX.one (One.elemOwnM hA tabOk rfl rfl rfl rfl rfl ?_ ?_) ?_) | (refine TX.k 8 ?_; first | refine TX.one (One.eqBoolM hA tabOk rfl rfl rfl rfl rfl) ?_) | (refine TX.k 9 ?_; first | refine TX.one (One.neBoolM hA tabOk rfl rfl rfl rfl rfl) ?_) | (refine TX.k 10 ?_; first | refine TX.one (One.lenOwnM hA tabOk rfl rfl rfl rfl) ?_) | (refine TX.k 14 ?_; first | refine TX.one (One.loadRatM hA tabOk rfl rfl rfl rfl rfl rfl ?_) ?_) | (refine TX.k 15 ?_; first | refine TX.one (One.storeRatM hA tabOk _ rfl rfl rfl rfl rfl rfl rfl rfl (fun _ => rfl) ?_) ?_) | (refine TX.k 16 ?_; first | refine TX.one (One.makeM hA tabOk encI 0 rfl rfl rfl rfl rfl rfl rfl ?_ ?_ ?_) ?_) | (refine TX.k 18 ?_; first | refine TX.one (One.fieldRat tabOk rfl rfl rfl rfl (by decide) rfl rfl) ?_)) <;> (first | refine TRg.pass ?_ | (((try simp only [zn]) <;> (try simp (disch := omega) only [zz hA, zb, zy, reduceCtorEq, Bool.false_eq_true, Int.reduceLT, Int.reduceLE, Int.reduceNeg]) <;> (try simp only [zw])) <;> omega)))
              | refine TX.raw ?_)
          | refine Fin3.of (by conv => lhs; cbv) (by repeat' (first | exact True.intro | exact rfl | refine And.intro ?_ ?_)) ?_ ?_
          | (refine AllO.pass ?_; first
              | exact AllO.nil
              | (refine AllO.cons (One.ev hA tabOk ?_) ?_ <;> (first | refine AllO.pass ?_ | ((conv => lhs; cbv); done)))
              | (refine AllO.cons (One.skipB ?_) ?_ <;> (first | refine AllO.pass ?_ | ((conv => lhs; cbv); done)))
              | ((first | refine AllO.consX (One.elemM hA tabOk rfl rfl rfl rfl ?_ ?_) rfl rfl ?_ | refine AllO.consX (One.lenOwnM hA tabOk rfl rfl rfl rfl) rfl rfl ?_ | refine AllO.consX (One.elemOwnM hA tabOk rfl rfl rfl rfl rfl ?_ ?_) rfl rfl ?_ | refine AllO.consX (One.loadRatM hA tabOk rfl rfl rfl rfl rfl rfl ?_) rfl rfl ?_) <;> (first | refine AllO.pass ?_ | (((try simp only [zn]) <;> (try simp (disch := omega) only [zz hA, zb, zy, reduceCtorEq, Bool.false_eq_true, Int.reduceLT, Int.reduceLE, Int.reduceNeg]) <;> (try simp only [zw])) <;> omega))))
          | refine Thn.exit ?_
          | refine Blk.here ?_
          | refine Blk.other (by decide) ?_
          | refine ⟨.inl rfl, _, RetOk.ev tabOk (by conv => lhs; cbv), ?_⟩
          | fail)
        exact (rPV_own rfl).trans rfl
      · exact h.elim
end Go.Proofs.Ytgemcogfpkolfaa.Aw

/- Contract of the reference's Of: each node's side. -/
set_option linter.unusedVariables false
set_option linter.unusedSimpArgs false
set_option linter.unusedSectionVars false
namespace Go.Proofs.Ytgemcogfpkolfaa.Aw
open Go Go.RowKit
set_option maxRecDepth 10000
attribute [local irreducible] AWp AOL QS One AOLg QSg NX QX TRg TX AllO Fin3
/-- The sides ahead of a node that is j behind: nothing is told at first. -/
def rowR (l : List Sg) (E : List Nd) (S : List Int) (s : Int) (j : Nat) : List Int := if j = 0 then List.replicate E.length 0 else sdM l E S s j
variable {A : Ar} (hA : A = real)
include hA
end Go.Proofs.Ytgemcogfpkolfaa.Aw

/- Contracts of package side and of the reference, part 6: what may not be. -/
set_option linter.unusedVariables false
set_option linter.unusedSimpArgs false
set_option linter.unusedSectionVars false
namespace Go.Proofs.Ytgemcogfpkolfaa.Aw
open Go Go.RowKit
set_option maxRecDepth 10000
attribute [local irreducible] AWp AOL QS One AOLg QSg NX QX TRg TX AllO Fin3
def wrongD (l : List Sg) (k : Int) (s : ByteArray) (n sd : Int) : Int :=
  if (k = 3 ∨ k = 6) ∧ findG l s < 0 then 3
  else if (k = 3 ∨ k = 6) ∧ knownD l k s n = false then 5
  else if (k = 4 ∧ sd ≠ 76) ∨ ((k = 5 ∨ k = 6) ∧ sd ≠ 82) then 6
  else 0
def wAt (l : List Sg) (E : List Nd) (L : List Int) (i : Nat) : Int := wrongD l (ndK (E.getD i default)) (ndS (E.getD i default)) (ndN (E.getD i default)) (L.getD i default)
def firstW (l : List Sg) (E : List Nd) (L : List Int) : Int := idxB E.length fun i => decide (wAt l E L i ≠ 0)
def checkA (l : List Sg) (E : List Nd) (L : List Int) : Int := if firstW l E L < 0 then 0 else firstW l E L
def checkW (l : List Sg) (E : List Nd) (L : List Int) : Int := if firstW l E L < 0 then 0 else wAt l E L (firstW l E L).toNat
theorem check_at {l : List Sg} {E : List Nd} {L : List Int} {i : Nat} (hi : i < E.length) (h : ∀ j, j < i → wAt l E L j = 0) (hw : wAt l E L i ≠ 0) : checkA l E L = i ∧ checkW l E L = wAt l E L i := by
  have e : firstW l E L = i := idxB_at hi (decide_eq_true hw) fun j hj => decide_eq_false (by rw [h j hj]; simp)
  unfold checkA checkW
  rw [e, if_neg (by omega), if_neg (by omega)]
  exact ⟨rfl, by rw [Int.toNat_natCast]⟩
theorem check_ok {l : List Sg} {E : List Nd} {L : List Int} (h : ∀ j, j < E.length → wAt l E L j = 0) : checkA l E L = 0 ∧ checkW l E L = 0 := by
  have e : firstW l E L = -1 := idxB_none fun j hj => decide_eq_false (by rw [h j hj]; simp)
  unfold checkA checkW
  rw [e]
  exact ⟨rfl, rfl⟩
variable {A : Ar} (hA : A = real)
include hA
set_option maxHeartbeats 4000000 in
theorem wrong_c (l : List Sg) (k : Int) (s : ByteArray) (n sd : Int) (hl : l.length ≤ 1000000) (hsz : FitG l) (hk : 0 ≤ k ∧ k ≤ 6) (h6 : k = 6 → 1 ≤ n) : PureCalls Try.prog 23 [slP A 2 (encG A) l, ndP k s n, UP sd] (IP (hid A (wrongD l k s n sd))) := by
  have hfd := sFind_c hA l s hl
  have hpt := fun h => sParts_c hA l k s n hl hsz h
  have hkn := partsS_known l k s n
  have hwd : wrongD l k s n sd = if (k = 3 ∨ k = 6) ∧ findG l s < 0 then 3 else if (k = 3 ∨ k = 6) ∧ knownD l k s n = false then 5 else if (k = 4 ∧ sd ≠ 76) ∨ ((k = 5 ∨ k = 6) ∧ sd ≠ 82) then 6 else 0 := rfl
  generalize wrongD l k s n sd = w at *
  generalize (partsS l k s n).1 = pp at *
  generalize (partsS l k s n).2 = pb at *
  subst hkn
  generalize findG l s = i at *
  generalize knownD l k s n = b at *
  refine PureCalls.of Try.func23 rfl (by kernel_rfl) rfl ?_
  have hk7 : k = 0 ∨ k = 1 ∨ k = 2 ∨ k = 3 ∨ k = 4 ∨ k = 5 ∨ k = 6 := by omega
  rcases hk7 with rfl | rfl | rfl | rfl | rfl | rfl | rfl
  iterate 3
    · clear hpt hfd
      try first | refine AOLg.of [] ?_ | refine QSg.of [] ?_
      repeat' (first
        | (refine AWp.pass ?_; first
            | refine AWp.seq ?_
            | refine AWp.block ?_
            | refine AWp.skip ?_
            | refine AWp.regG [] (by conv => lhs; cbv) ?_
            | refine AWp.cond_t rfl ?_
            | refine AWp.cond_f rfl ?_
            | (refine AWp.cond rfl ?_ ?_ <;> intro hc <;> (try rw [hc]) <;> ((try simp only [zn] at hc) <;> (try simp (disch := omega) only [zz hA, zb, zy, reduceCtorEq, Bool.false_eq_true, Int.reduceLT, Int.reduceLE, Int.reduceNeg] at hc) <;> (try simp only [zw] at hc)) <;> (try (exfalso; omega)))
            | refine AWp.exit ?_
            | refine AWp.ret ⟨.inr rfl, _, RetOk.ev tabOk (by conv => lhs; cbv), ?_⟩)
        | (refine AOLg.pass ?_; refine AOLg.nx hA tabOk (by conv => lhs; cbv) ?_; first
            | refine NX.done ?_
            | refine NX.gt ?_
            | refine NX.gf ?_
            | (refine NX.gs ?_ ?_ <;> intro hc <;> rw [hc] <;> ((try simp only [zn] at hc) <;> (try simp (disch := omega) only [zz hA, zb, zy, reduceCtorEq, Bool.false_eq_true, Int.reduceLT, Int.reduceLE, Int.reduceNeg] at hc) <;> (try simp only [zw] at hc)) <;> (try (exfalso; omega)))
            | ((first | (refine NX.k 8 ?_; first | refine NX.one (One.eqBoolM hA tabOk rfl rfl rfl rfl rfl) ?_) | (refine NX.k 9 ?_; first | refine NX.one (One.neBoolM hA tabOk rfl rfl rfl rfl rfl) ?_) | (refine NX.k 14 ?_; first | refine NX.one (One.loadRatM hA tabOk rfl rfl rfl rfl rfl rfl ?_) ?_) | (refine NX.k 18 ?_; first | refine NX.one (One.fieldRat tabOk rfl rfl rfl rfl (by decide) rfl rfl) ?_)) <;> (first | refine AOLg.pass ?_ | (((try simp only [zn]) <;> (try simp (disch := omega) only [zz hA, zb, zy, reduceCtorEq, Bool.false_eq_true, Int.reduceLT, Int.reduceLE, Int.reduceNeg]) <;> (try simp only [zw])) <;> omega)))
            | refine NX.raw ?_)
        | refine Thn.exit ?_
        | refine Blk.here ?_
        | refine Blk.other (by decide) ?_
        | refine ⟨.inl rfl, _, RetOk.ev tabOk (by conv => lhs; cbv), ?_⟩
        | fail)
      refine rPV_then (by conv => lhs; cbv) ?_
      rw [hwd]
      simp [hid_eq hA]
  · replace hpt := hpt fun h => (h rfl).elim
    cases b <;> (
      rw [hid_eq hA (α := Bool)] at hpt
      try first | refine AOLg.of [] ?_ | refine QSg.of [] ?_
      repeat' (first
        | (refine AWp.pass ?_; first
            | refine AWp.seq ?_
            | refine AWp.block ?_
            | refine AWp.skip ?_
            | refine AWp.regG [] (by conv => lhs; cbv) ?_
            | refine AWp.cond_t rfl ?_
            | refine AWp.cond_f rfl ?_
            | (refine AWp.cond rfl ?_ ?_ <;> intro hc <;> (try rw [hc]) <;> ((try simp only [zn] at hc) <;> (try simp (disch := omega) only [zz hA, zb, zy, reduceCtorEq, Bool.false_eq_true, Int.reduceLT, Int.reduceLE, Int.reduceNeg] at hc) <;> (try simp only [zw] at hc)) <;> (try (exfalso; omega)))
            | refine AWp.exit ?_
            | refine AWp.ret ⟨.inr rfl, _, RetOk.ev tabOk (by conv => lhs; cbv), ?_⟩)
        | (refine AOLg.pass ?_; refine AOLg.nx hA tabOk (by conv => lhs; cbv) ?_; first
            | refine NX.done ?_
            | refine NX.gt ?_
            | refine NX.gf ?_
            | (refine NX.gs ?_ ?_ <;> intro hc <;> rw [hc] <;> ((try simp only [zn] at hc) <;> (try simp (disch := omega) only [zz hA, zb, zy, reduceCtorEq, Bool.false_eq_true, Int.reduceLT, Int.reduceLE, Int.reduceNeg] at hc) <;> (try simp only [zw] at hc)) <;> (try (exfalso; omega)))
            | (refine NX.kC ?_; first | (with_reducible refine NX.call (hfd) ?_) | (with_reducible refine NX.call (hpt) ?_) | ((first | refine NX.call (hfd) ?_ | refine NX.call (hpt) ?_)) | fail)
            | (refine NX.kO ?_; (first | refine NX.callO (hfd) (by simp [allEq]) rfl ?_ | refine NX.callO (hpt) (by simp [allEq]) rfl ?_))
            | ((first | (refine NX.k 8 ?_; first | refine NX.one (One.eqBoolM hA tabOk rfl rfl rfl rfl rfl) ?_) | (refine NX.k 9 ?_; first | refine NX.one (One.neBoolM hA tabOk rfl rfl rfl rfl rfl) ?_) | (refine NX.k 14 ?_; first | refine NX.one (One.loadRatM hA tabOk rfl rfl rfl rfl rfl rfl ?_) ?_) | (refine NX.k 18 ?_; first | refine NX.one (One.fieldRat tabOk rfl rfl rfl rfl (by decide) rfl rfl) ?_)) <;> (first | refine AOLg.pass ?_ | (((try simp only [zn]) <;> (try simp (disch := omega) only [zz hA, zb, zy, reduceCtorEq, Bool.false_eq_true, Int.reduceLT, Int.reduceLE, Int.reduceNeg]) <;> (try simp only [zw])) <;> omega)))
            | refine NX.raw ?_)
        | refine Thn.exit ?_
        | refine Blk.here ?_
        | refine Blk.other (by decide) ?_
        | refine ⟨.inl rfl, _, RetOk.ev tabOk (by conv => lhs; cbv), ?_⟩
        | fail)
      all_goals
        refine rPV_then (by conv => lhs; cbv) ?_
        rw [hwd]
        simp_all [real, hid])
  iterate 2
    · clear hpt hfd
      try first | refine AOLg.of [] ?_ | refine QSg.of [] ?_
      repeat' (first
        | (refine AWp.pass ?_; first
            | refine AWp.seq ?_
            | refine AWp.block ?_
            | refine AWp.skip ?_
            | refine AWp.regG [] (by conv => lhs; cbv) ?_
            | refine AWp.cond_t rfl ?_
            | refine AWp.cond_f rfl ?_
            | (refine AWp.cond rfl ?_ ?_ <;> intro hc <;> (try rw [hc]) <;> ((try simp only [zn] at hc) <;> (try simp (disch := omega) only [zz hA, zb, zy, reduceCtorEq, Bool.false_eq_true, Int.reduceLT, Int.reduceLE, Int.reduceNeg] at hc) <;> (try simp only [zw] at hc)) <;> (try (exfalso; omega)))
            | refine AWp.exit ?_
            | refine AWp.ret ⟨.inr rfl, _, RetOk.ev tabOk (by conv => lhs; cbv), ?_⟩)
        | (refine AOLg.pass ?_; refine AOLg.nx hA tabOk (by conv => lhs; cbv) ?_; first
            | refine NX.done ?_
            | refine NX.gt ?_
            | refine NX.gf ?_
            | (refine NX.gs ?_ ?_ <;> intro hc <;> rw [hc] <;> ((try simp only [zn] at hc) <;> (try simp (disch := omega) only [zz hA, zb, zy, reduceCtorEq, Bool.false_eq_true, Int.reduceLT, Int.reduceLE, Int.reduceNeg] at hc) <;> (try simp only [zw] at hc)) <;> (try (exfalso; omega)))
            | ((first | (refine NX.k 8 ?_; first | refine NX.one (One.eqBoolM hA tabOk rfl rfl rfl rfl rfl) ?_) | (refine NX.k 9 ?_; first | refine NX.one (One.neBoolM hA tabOk rfl rfl rfl rfl rfl) ?_) | (refine NX.k 14 ?_; first | refine NX.one (One.loadRatM hA tabOk rfl rfl rfl rfl rfl rfl ?_) ?_) | (refine NX.k 18 ?_; first | refine NX.one (One.fieldRat tabOk rfl rfl rfl rfl (by decide) rfl rfl) ?_)) <;> (first | refine AOLg.pass ?_ | (((try simp only [zn]) <;> (try simp (disch := omega) only [zz hA, zb, zy, reduceCtorEq, Bool.false_eq_true, Int.reduceLT, Int.reduceLE, Int.reduceNeg]) <;> (try simp only [zw])) <;> omega)))
            | refine NX.raw ?_)
        | refine Thn.exit ?_
        | refine Blk.here ?_
        | refine Blk.other (by decide) ?_
        | refine ⟨.inl rfl, _, RetOk.ev tabOk (by conv => lhs; cbv), ?_⟩
        | fail)
      all_goals
        refine rPV_then (by conv => lhs; cbv) ?_
        rw [hwd]
        simp_all [real, hid]
  · replace hpt := hpt (by omega)
    cases b <;> (
      rw [hid_eq hA (α := Bool)] at hpt
      try first | refine AOLg.of [] ?_ | refine QSg.of [] ?_
      repeat' (first
        | (refine AWp.pass ?_; first
            | refine AWp.seq ?_
            | refine AWp.block ?_
            | refine AWp.skip ?_
            | refine AWp.regG [] (by conv => lhs; cbv) ?_
            | refine AWp.cond_t rfl ?_
            | refine AWp.cond_f rfl ?_
            | (refine AWp.cond rfl ?_ ?_ <;> intro hc <;> (try rw [hc]) <;> ((try simp only [zn] at hc) <;> (try simp (disch := omega) only [zz hA, zb, zy, reduceCtorEq, Bool.false_eq_true, Int.reduceLT, Int.reduceLE, Int.reduceNeg] at hc) <;> (try simp only [zw] at hc)) <;> (try (exfalso; omega)))
            | refine AWp.exit ?_
            | refine AWp.ret ⟨.inr rfl, _, RetOk.ev tabOk (by conv => lhs; cbv), ?_⟩)
        | (refine AOLg.pass ?_; refine AOLg.nx hA tabOk (by conv => lhs; cbv) ?_; first
            | refine NX.done ?_
            | refine NX.gt ?_
            | refine NX.gf ?_
            | (refine NX.gs ?_ ?_ <;> intro hc <;> rw [hc] <;> ((try simp only [zn] at hc) <;> (try simp (disch := omega) only [zz hA, zb, zy, reduceCtorEq, Bool.false_eq_true, Int.reduceLT, Int.reduceLE, Int.reduceNeg] at hc) <;> (try simp only [zw] at hc)) <;> (try (exfalso; omega)))
            | (refine NX.kC ?_; first | (with_reducible refine NX.call (hfd) ?_) | (with_reducible refine NX.call (hpt) ?_) | ((first | refine NX.call (hfd) ?_ | refine NX.call (hpt) ?_)) | fail)
            | (refine NX.kO ?_; (first | refine NX.callO (hfd) (by simp [allEq]) rfl ?_ | refine NX.callO (hpt) (by simp [allEq]) rfl ?_))
            | ((first | (refine NX.k 8 ?_; first | refine NX.one (One.eqBoolM hA tabOk rfl rfl rfl rfl rfl) ?_) | (refine NX.k 9 ?_; first | refine NX.one (One.neBoolM hA tabOk rfl rfl rfl rfl rfl) ?_) | (refine NX.k 14 ?_; first | refine NX.one (One.loadRatM hA tabOk rfl rfl rfl rfl rfl rfl ?_) ?_) | (refine NX.k 18 ?_; first | refine NX.one (One.fieldRat tabOk rfl rfl rfl rfl (by decide) rfl rfl) ?_)) <;> (first | refine AOLg.pass ?_ | (((try simp only [zn]) <;> (try simp (disch := omega) only [zz hA, zb, zy, reduceCtorEq, Bool.false_eq_true, Int.reduceLT, Int.reduceLE, Int.reduceNeg]) <;> (try simp only [zw])) <;> omega)))
            | refine NX.raw ?_)
        | refine Thn.exit ?_
        | refine Blk.here ?_
        | refine Blk.other (by decide) ?_
        | refine ⟨.inl rfl, _, RetOk.ev tabOk (by conv => lhs; cbv), ?_⟩
        | fail)
      all_goals
        refine rPV_then (by conv => lhs; cbv) ?_
        rw [hwd]
        simp_all [real, hid])
theorem wrong_at (l : List Sg) (E : List Nd) (L : List Int) (hl : l.length ≤ 1000000) (hsz : FitG l) (hg : goodD E) (i : Nat) (hi : i < E.length) : ∀ k s n d, k = ndK (E.getD i default) → s = ndS (E.getD i default) → n = ndN (E.getD i default) → d = L.getD i default → PureCalls Try.prog 23 [slP A 2 (encG A) l, ndP k s n, UP d] (IP (hid A (wAt l E L i))) := by
  rintro k s n d rfl rfl rfl rfl
  have h := mayD_parts (hg.may hi)
  exact wrong_c hA l _ _ _ _ hl hsz h.1 fun h6 => (h.2.2.2.2.2 h6).1
set_option maxHeartbeats 4000000 in
theorem sCheck_c (l : List Sg) (E : List Nd) (s : Int) (hl : l.length ≤ 1000000) (hsz : FitG l) (hg : goodD E) (h1 : manyD E E.length = 1) (hE : E.length ≤ 1000000) :
    PureCalls Try.prog 12 [slP A 2 (encG A) l, slP A 3 (encD A) E, UP s] (.tup [IP (hid A (checkA l E (sidesD l E s))), IP (hid A (checkW l E (sidesD l E s)))]) := by
  have hof := sOf_c hA l E s hl hsz hg h1 hE
  have hLl : (sidesD l E s).length = E.length := sdM_len _ _ _ _ _
  generalize sidesD l E s = L at *
  refine PureCalls.of Try.func12 rfl (by kernel_rfl) rfl ?_
  try first | refine AOLg.of [] ?_ | refine QSg.of [] ?_
  repeat' (first
    | (refine AWp.pass ?_; first
        | refine AWp.seq ?_
        | refine AWp.block ?_
        | refine AWp.skip ?_
        | refine AWp.regG [] (by conv => lhs; cbv) ?_
        | refine AWp.cond_t rfl ?_
        | refine AWp.cond_f rfl ?_
        | (refine AWp.cond rfl ?_ ?_ <;> intro hc <;> (try rw [hc]) <;> ((try simp only [zn] at hc) <;> (try simp (disch := omega) only [zz hA, zb, zy, reduceCtorEq, Bool.false_eq_true, Int.reduceLT, Int.reduceLE, Int.reduceNeg] at hc) <;> (try simp only [zw] at hc)) <;> (try (exfalso; omega)))
        | refine AWp.exit ?_
        | refine AWp.ret ⟨.inr rfl, _, RetOk.ev tabOk (by conv => lhs; cbv), ?_⟩)
    | (refine AOLg.pass ?_; refine AOLg.nx hA tabOk (by conv => lhs; cbv) ?_; first
        | refine NX.done ?_
        | refine NX.gt ?_
        | refine NX.gf ?_
        | (refine NX.gs ?_ ?_ <;> intro hc <;> rw [hc] <;> ((try simp only [zn] at hc) <;> (try simp (disch := omega) only [zz hA, zb, zy, reduceCtorEq, Bool.false_eq_true, Int.reduceLT, Int.reduceLE, Int.reduceNeg] at hc) <;> (try simp only [zw] at hc)) <;> (try (exfalso; omega)))
        | (refine NX.kC ?_; first | (with_reducible refine NX.call (hof) ?_) | ((first | refine NX.call (hof) ?_)) | fail)
        | (refine NX.kO ?_; (first | refine NX.callO (hof) (by simp [allEq]) rfl ?_))
        | ((first | (refine NX.k 1 ?_; first | refine NX.one (One.elemM hA tabOk rfl rfl rfl rfl ?_ ?_) ?_ | refine NX.one (One.elemOwnM hA tabOk rfl rfl rfl rfl rfl ?_ ?_) ?_) | (refine NX.k 7 ?_; first | refine NX.one (One.concatM hA rfl rfl rfl ?_) ?_) | (refine NX.k 9 ?_; first | refine NX.one (One.neBoolM hA tabOk rfl rfl rfl rfl rfl) ?_) | (refine NX.k 10 ?_; first | refine NX.one (One.lenOwnM hA tabOk rfl rfl rfl rfl) ?_) | (refine NX.k 14 ?_; first | refine NX.one (One.loadRatM hA tabOk rfl rfl rfl rfl rfl rfl ?_) ?_)) <;> (first | refine AOLg.pass ?_ | (((try simp only [zn]) <;> (try simp (disch := omega) only [zz hA, zb, zy, reduceCtorEq, Bool.false_eq_true, Int.reduceLT, Int.reduceLE, Int.reduceNeg]) <;> (try simp only [zw])) <;> omega)))
        | refine NX.raw ?_)
    | refine Thn.exit ?_
    | refine Blk.here ?_
    | refine Blk.other (by decide) ?_
    | refine ⟨.inl rfl, _, RetOk.ev tabOk (by conv => lhs; cbv), ?_⟩
    | fail)
  refine AWp.loopU (fun i : Nat => [(16, .ic (.lit (.int .i64 (hid A (cN i)))))]) (fun _ => []) (fun i => E.length - i) (fun i => i ≤ E.length ∧ ∀ j, j < i → wAt l E L j = 0) 0 (by conv => lhs; cbv) ⟨Nat.zero_le _, by simp⟩ (.int rfl (by simp [hA, real, hid, cN]) .nil) rfl ?_
  rintro i ⟨hi0, hok⟩
  by_cases hi : i < E.length
  · have hwr := wrong_at hA l E L hl hsz hg i hi
    have hat := check_at hi hok
    generalize hW : wAt l E L i = W at *
    try first | refine AOLg.of [] ?_ | refine QSg.of [] ?_
    repeat' (first
      | (refine AWp.pass ?_; first
          | refine AWp.seq ?_
          | refine AWp.block ?_
          | refine AWp.skip ?_
          | refine AWp.regG [] (by conv => lhs; cbv) ?_
          | refine AWp.cond_t rfl ?_
          | refine AWp.cond_f rfl ?_
          | (refine AWp.cond rfl ?_ ?_ <;> intro hc <;> (try rw [hc]) <;> ((try simp only [zn] at hc) <;> (try simp (disch := omega) only [zz hA, zb, zy, reduceCtorEq, Bool.false_eq_true, Int.reduceLT, Int.reduceLE, Int.reduceNeg] at hc) <;> (try simp only [zw] at hc)) <;> (try (exfalso; omega)))
          | refine AWp.exit ?_
          | refine AWp.ret ⟨.inr rfl, _, RetOk.ev tabOk (by conv => lhs; cbv), ?_⟩)
      | (refine AOLg.pass ?_; refine AOLg.nx hA tabOk (by conv => lhs; cbv) ?_; first
          | refine NX.done ?_
          | refine NX.gt ?_
          | refine NX.gf ?_
          | (refine NX.gs ?_ ?_ <;> intro hc <;> rw [hc] <;> ((try simp only [zn] at hc) <;> (try simp (disch := omega) only [zz hA, zb, zy, reduceCtorEq, Bool.false_eq_true, Int.reduceLT, Int.reduceLE, Int.reduceNeg] at hc) <;> (try simp only [zw] at hc)) <;> (try (exfalso; omega)))
          | (refine NX.kC ?_; first | (with_reducible refine NX.call (hwr _ _ _ _ (by simp [hA, real, hid, cN]) (by simp [hA, real, hid, cN]) (by simp [hA, real, hid, cN]) (by simp [hA, real, hid, cN])) ?_) | ((first | refine NX.call (hwr _ _ _ _ (by simp [hA, real, hid, cN]) (by simp [hA, real, hid, cN]) (by simp [hA, real, hid, cN]) (by simp [hA, real, hid, cN])) ?_)) | fail)
          | (refine NX.kO ?_; (first | refine NX.callO (hwr _ _ _ _ (by simp [hA, real, hid, cN]) (by simp [hA, real, hid, cN]) (by simp [hA, real, hid, cN]) (by simp [hA, real, hid, cN])) (by simp [allEq]) rfl ?_))
          | ((first | (refine NX.k 1 ?_; first | refine NX.one (One.elemM hA tabOk rfl rfl rfl rfl ?_ ?_) ?_ | refine NX.one (One.elemOwnM hA tabOk rfl rfl rfl rfl rfl ?_ ?_) ?_) | (refine NX.k 7 ?_; first | refine NX.one (One.concatM hA rfl rfl rfl ?_) ?_) | (refine NX.k 9 ?_; first | refine NX.one (One.neBoolM hA tabOk rfl rfl rfl rfl rfl) ?_) | (refine NX.k 10 ?_; first | refine NX.one (One.lenOwnM hA tabOk rfl rfl rfl rfl) ?_) | (refine NX.k 14 ?_; first | refine NX.one (One.loadRatM hA tabOk rfl rfl rfl rfl rfl rfl ?_) ?_)) <;> (first | refine AOLg.pass ?_ | (((try simp only [zn]) <;> (try simp (disch := omega) only [zz hA, zb, zy, reduceCtorEq, Bool.false_eq_true, Int.reduceLT, Int.reduceLE, Int.reduceNeg]) <;> (try simp only [zw])) <;> omega)))
          | refine NX.raw ?_)
      | refine Thn.exit ?_
      | refine Blk.here ?_
      | refine Blk.other (by decide) ?_
      | refine ⟨.inl rfl, _, RetOk.ev tabOk (by conv => lhs; cbv), ?_⟩
      | fail)
    · obtain ⟨e1, e2⟩ := hat (by simpa using hc)
      refine rPV_then (by conv => lhs; cbv) ?_
      rw [e1, e2]
      rfl
    · refine ⟨i + 1, ⟨by omega, fun j hj => ?_⟩, by omega, rfl, rfl, ?_, (by repeat' (first | exact subE.nil | refine subE.cons rfl ?_))⟩
      · rcases Nat.lt_or_ge j i with h | h
        · exact hok j h
        · obtain rfl : j = i := by omega
          rw [hW]; omega
      · exact .int rfl (by (((try simp only [zn]) <;> (try simp (disch := omega) only [zz hA, zb, zy, reduceCtorEq, Bool.false_eq_true, Int.reduceLT, Int.reduceLE, Int.reduceNeg]) <;> (try simp only [zw])) <;> omega)) .nil
  · obtain ⟨e1, e2⟩ := check_ok (l := l) (E := E) (L := L) fun j hj => hok j (by omega)
    try first | refine AOLg.of [] ?_ | refine QSg.of [] ?_
    repeat' (first
      | (refine AWp.pass ?_; first
          | refine AWp.seq ?_
          | refine AWp.block ?_
          | refine AWp.skip ?_
          | refine AWp.regG [] (by conv => lhs; cbv) ?_
          | refine AWp.cond_t rfl ?_
          | refine AWp.cond_f rfl ?_
          | (refine AWp.cond rfl ?_ ?_ <;> intro hc <;> (try rw [hc]) <;> ((try simp only [zn] at hc) <;> (try simp (disch := omega) only [zz hA, zb, zy, reduceCtorEq, Bool.false_eq_true, Int.reduceLT, Int.reduceLE, Int.reduceNeg] at hc) <;> (try simp only [zw] at hc)) <;> (try (exfalso; omega)))
          | refine AWp.exit ?_
          | refine AWp.ret ⟨.inr rfl, _, RetOk.ev tabOk (by conv => lhs; cbv), ?_⟩)
      | (refine AOLg.pass ?_; refine AOLg.nx hA tabOk (by conv => lhs; cbv) ?_; first
          | refine NX.done ?_
          | refine NX.gt ?_
          | refine NX.gf ?_
          | (refine NX.gs ?_ ?_ <;> intro hc <;> rw [hc] <;> ((try simp only [zn] at hc) <;> (try simp (disch := omega) only [zz hA, zb, zy, reduceCtorEq, Bool.false_eq_true, Int.reduceLT, Int.reduceLE, Int.reduceNeg] at hc) <;> (try simp only [zw] at hc)) <;> (try (exfalso; omega)))
          | ((first | (refine NX.k 1 ?_; first | refine NX.one (One.elemM hA tabOk rfl rfl rfl rfl ?_ ?_) ?_ | refine NX.one (One.elemOwnM hA tabOk rfl rfl rfl rfl rfl ?_ ?_) ?_) | (refine NX.k 7 ?_; first | refine NX.one (One.concatM hA rfl rfl rfl ?_) ?_) | (refine NX.k 9 ?_; first | refine NX.one (One.neBoolM hA tabOk rfl rfl rfl rfl rfl) ?_) | (refine NX.k 10 ?_; first | refine NX.one (One.lenOwnM hA tabOk rfl rfl rfl rfl) ?_) | (refine NX.k 14 ?_; first | refine NX.one (One.loadRatM hA tabOk rfl rfl rfl rfl rfl rfl ?_) ?_)) <;> (first | refine AOLg.pass ?_ | (((try simp only [zn]) <;> (try simp (disch := omega) only [zz hA, zb, zy, reduceCtorEq, Bool.false_eq_true, Int.reduceLT, Int.reduceLE, Int.reduceNeg]) <;> (try simp only [zw])) <;> omega)))
          | refine NX.raw ?_)
      | refine Thn.exit ?_
      | refine Blk.here ?_
      | refine Blk.other (by decide) ?_
      | refine ⟨.inl rfl, _, RetOk.ev tabOk (by conv => lhs; cbv), ?_⟩
      | fail)
    refine rPV_then (by conv => lhs; cbv) ?_
    rw [e1, e2, hid_eq hA]
end Go.Proofs.Ytgemcogfpkolfaa.Aw

/- Contracts of the reference, part 7: what may not be. -/
set_option linter.unusedVariables false
set_option linter.unusedSimpArgs false
set_option linter.unusedSectionVars false
namespace Go.Proofs.Ytgemcogfpkolfaa.Aw
open Go Go.RowKit
set_option maxRecDepth 10000
attribute [local irreducible] AWp AOL QS One AOLg QSg NX QX TRg TX AllO Fin3
variable {A : Ar} (hA : A = real)
include hA
end Go.Proofs.Ytgemcogfpkolfaa.Aw

/- Contracts of package side and of the reference, part 8: variables. -/
set_option linter.unusedVariables false
set_option linter.unusedSimpArgs false
set_option linter.unusedSectionVars false
namespace Go.Proofs.Ytgemcogfpkolfaa.Aw
open Go Go.RowKit
set_option maxRecDepth 10000
attribute [local irreducible] AWp AOL QS One AOLg QSg NX QX TRg TX AllO Fin3
theorem eqS_comm (a b : ByteArray) : eqS a b = eqS b a := by unfold eqS; rw [Bool.eq_iff_iff, decide_eq_true_eq, decide_eq_true_eq]; exact ⟨Eq.symm, Eq.symm⟩
def idxS (T : List ByteArray) (s : ByteArray) : Int := idxB T.length fun j => eqS (T.getD j default) s
def varsN (E : List Nd) : Nat → List ByteArray
  | 0 => []
  | i + 1 => if ndK (E.getD i default) = 2 ∧ idxS (varsN E i) (ndS (E.getD i default)) < 0 then varsN E i ++ [ndS (E.getD i default)] else varsN E i
def varsD (E : List Nd) : List ByteArray := varsN E E.length
theorem varsN_len (E : List Nd) : ∀ i, (varsN E i).length ≤ i
  | 0 => by simp [varsN]
  | i + 1 => by
    have := varsN_len E i
    unfold varsN
    split
    · rw [List.length_append]; simp; omega
    · omega
variable {A : Ar} (hA : A = real)
include hA
theorem indexT_c (T : List ByteArray) (s : ByteArray) (hl : T.length ≤ 1000000) : PureCalls Try.prog 45 [slP A 1 encS T, SP s] (IP (hid A (idxS T s))) := by
  refine PureCalls.of Try.func45 rfl (by kernel_rfl) rfl ?_
  try first | refine AOLg.of [] ?_ | refine QSg.of [] ?_
  repeat' (first
    | (refine AWp.pass ?_; first
        | refine AWp.seq ?_
        | refine AWp.block ?_
        | refine AWp.skip ?_
        | refine AWp.regG [] (by conv => lhs; cbv) ?_
        | refine AWp.cond_t rfl ?_
        | refine AWp.cond_f rfl ?_
        | (refine AWp.cond rfl ?_ ?_ <;> intro hc <;> (try rw [hc]) <;> ((try simp only [zn] at hc) <;> (try simp (disch := omega) only [zz hA, zb, zy, reduceCtorEq, Bool.false_eq_true, Int.reduceLT, Int.reduceLE, Int.reduceNeg] at hc) <;> (try simp only [zw] at hc)) <;> (try (exfalso; omega)))
        | refine AWp.exit ?_
        | refine AWp.ret ⟨.inr rfl, _, RetOk.ev tabOk (by conv => lhs; cbv), ?_⟩)
    | (refine AOLg.pass ?_; refine AOLg.nx hA tabOk (by conv => lhs; cbv) ?_; first
        | refine NX.done ?_
        | refine NX.gt ?_
        | refine NX.gf ?_
        | (refine NX.gs ?_ ?_ <;> intro hc <;> rw [hc] <;> ((try simp only [zn] at hc) <;> (try simp (disch := omega) only [zz hA, zb, zy, reduceCtorEq, Bool.false_eq_true, Int.reduceLT, Int.reduceLE, Int.reduceNeg] at hc) <;> (try simp only [zw] at hc)) <;> (try (exfalso; omega)))
        | ((first | (refine NX.k 1 ?_; first | refine NX.one (One.elemM hA tabOk rfl rfl rfl rfl ?_ ?_) ?_ | refine NX.one (One.elemOwnM hA tabOk rfl rfl rfl rfl rfl ?_ ?_) ?_) | (refine NX.k 7 ?_; first | refine NX.one (One.concatM hA rfl rfl rfl ?_) ?_) | (refine NX.k 8 ?_; first | refine NX.one (One.eqBoolM hA tabOk rfl rfl rfl rfl rfl) ?_) | (refine NX.k 10 ?_; first | refine NX.one (One.lenOwnM hA tabOk rfl rfl rfl rfl) ?_) | (refine NX.k 14 ?_; first | refine NX.one (One.loadRatM hA tabOk rfl rfl rfl rfl rfl rfl ?_) ?_)) <;> (first | refine AOLg.pass ?_ | (((try simp only [zn]) <;> (try simp (disch := omega) only [zz hA, zb, zy, reduceCtorEq, Bool.false_eq_true, Int.reduceLT, Int.reduceLE, Int.reduceNeg]) <;> (try simp only [zw])) <;> omega)))
        | refine NX.raw ?_)
    | refine Thn.exit ?_
    | refine Blk.here ?_
    | refine Blk.other (by decide) ?_
    | refine ⟨.inl rfl, _, RetOk.ev tabOk (by conv => lhs; cbv), ?_⟩
    | fail)
  refine AWp.loopU (fun k : Nat => [(8, .ic (.lit (.int .i64 (hid A (cN k)))))]) (fun _ => []) (fun k => T.length - k) (fun k => k ≤ T.length ∧ ∀ j, j < k → eqS (T.getD j default) s = false) 0 (by conv => lhs; cbv) ⟨Nat.zero_le _, by simp⟩ (by (repeat' (first | exact subE.nil | refine subE.cons rfl ?_ | refine subE.int rfl ?_ ?_ | refine subE.bool rfl ?_ ?_ | refine subE.str rfl ?_ ?_ | refine subE.sl rfl ?_ ?_)) <;> simp [hA, real, hid, cN]) rfl ?_
  rintro k ⟨hk, hok⟩
  by_cases hlt : k < T.length
  · try first | refine AOLg.of [] ?_ | refine QSg.of [] ?_
    repeat' (first
      | (refine AWp.pass ?_; first
          | refine AWp.seq ?_
          | refine AWp.block ?_
          | refine AWp.skip ?_
          | refine AWp.regG [] (by conv => lhs; cbv) ?_
          | refine AWp.cond_t rfl ?_
          | refine AWp.cond_f rfl ?_
          | (refine AWp.cond rfl ?_ ?_ <;> intro hc <;> (try rw [hc]) <;> ((try simp only [zn] at hc) <;> (try simp (disch := omega) only [zz hA, zb, zy, reduceCtorEq, Bool.false_eq_true, Int.reduceLT, Int.reduceLE, Int.reduceNeg] at hc) <;> (try simp only [zw] at hc)) <;> (try (exfalso; omega)))
          | refine AWp.exit ?_
          | refine AWp.ret ⟨.inr rfl, _, RetOk.ev tabOk (by conv => lhs; cbv), ?_⟩)
      | (refine AOLg.pass ?_; refine AOLg.nx hA tabOk (by conv => lhs; cbv) ?_; first
          | refine NX.done ?_
          | refine NX.gt ?_
          | refine NX.gf ?_
          | (refine NX.gs ?_ ?_ <;> intro hc <;> rw [hc] <;> ((try simp only [zn] at hc) <;> (try simp (disch := omega) only [zz hA, zb, zy, reduceCtorEq, Bool.false_eq_true, Int.reduceLT, Int.reduceLE, Int.reduceNeg] at hc) <;> (try simp only [zw] at hc)) <;> (try (exfalso; omega)))
          | ((first | (refine NX.k 1 ?_; first | refine NX.one (One.elemM hA tabOk rfl rfl rfl rfl ?_ ?_) ?_ | refine NX.one (One.elemOwnM hA tabOk rfl rfl rfl rfl rfl ?_ ?_) ?_) | (refine NX.k 7 ?_; first | refine NX.one (One.concatM hA rfl rfl rfl ?_) ?_) | (refine NX.k 8 ?_; first | refine NX.one (One.eqBoolM hA tabOk rfl rfl rfl rfl rfl) ?_) | (refine NX.k 10 ?_; first | refine NX.one (One.lenOwnM hA tabOk rfl rfl rfl rfl) ?_) | (refine NX.k 14 ?_; first | refine NX.one (One.loadRatM hA tabOk rfl rfl rfl rfl rfl rfl ?_) ?_)) <;> (first | refine AOLg.pass ?_ | (((try simp only [zn]) <;> (try simp (disch := omega) only [zz hA, zb, zy, reduceCtorEq, Bool.false_eq_true, Int.reduceLT, Int.reduceLE, Int.reduceNeg]) <;> (try simp only [zw])) <;> omega)))
          | refine NX.raw ?_)
      | refine Thn.exit ?_
      | refine Blk.here ?_
      | refine Blk.other (by decide) ?_
      | refine ⟨.inl rfl, _, RetOk.ev tabOk (by conv => lhs; cbv), ?_⟩
      | fail)
    · refine rPV_then (by conv => lhs; cbv) ?_
      rw [show idxS T s = k from idxB_at hlt (by rw [eqS_comm]; unfold eqS; simpa using hc) hok]
      rfl
    · refine ⟨k + 1, ?_, ?_, rfl, rfl, ?_, (by repeat' (first | exact subE.nil | refine subE.cons rfl ?_))⟩ <;> (try omega)
      repeat' (first | exact subE.nil | refine subE.cons rfl ?_ | refine subE.int rfl ?_ ?_ | refine subE.bool rfl ?_ ?_ | refine subE.str rfl ?_ ?_ | refine subE.sl rfl ?_ ?_)
      · refine ⟨by omega, fun j hj => ?_⟩
        rcases Nat.lt_or_ge j k with h | h
        · exact hok j h
        · obtain rfl : j = k := by omega
          rw [eqS_comm]; unfold eqS; simpa using hc
      · (((try simp only [zn]) <;> (try simp (disch := omega) only [zz hA, zb, zy, reduceCtorEq, Bool.false_eq_true, Int.reduceLT, Int.reduceLE, Int.reduceNeg]) <;> (try simp only [zw])) <;> omega)
  · try first | refine AOLg.of [] ?_ | refine QSg.of [] ?_
    repeat' (first
      | (refine AWp.pass ?_; first
          | refine AWp.seq ?_
          | refine AWp.block ?_
          | refine AWp.skip ?_
          | refine AWp.regG [] (by conv => lhs; cbv) ?_
          | refine AWp.cond_t rfl ?_
          | refine AWp.cond_f rfl ?_
          | (refine AWp.cond rfl ?_ ?_ <;> intro hc <;> (try rw [hc]) <;> ((try simp only [zn] at hc) <;> (try simp (disch := omega) only [zz hA, zb, zy, reduceCtorEq, Bool.false_eq_true, Int.reduceLT, Int.reduceLE, Int.reduceNeg] at hc) <;> (try simp only [zw] at hc)) <;> (try (exfalso; omega)))
          | refine AWp.exit ?_
          | refine AWp.ret ⟨.inr rfl, _, RetOk.ev tabOk (by conv => lhs; cbv), ?_⟩)
      | (refine AOLg.pass ?_; refine AOLg.nx hA tabOk (by conv => lhs; cbv) ?_; first
          | refine NX.done ?_
          | refine NX.gt ?_
          | refine NX.gf ?_
          | (refine NX.gs ?_ ?_ <;> intro hc <;> rw [hc] <;> ((try simp only [zn] at hc) <;> (try simp (disch := omega) only [zz hA, zb, zy, reduceCtorEq, Bool.false_eq_true, Int.reduceLT, Int.reduceLE, Int.reduceNeg] at hc) <;> (try simp only [zw] at hc)) <;> (try (exfalso; omega)))
          | ((first | (refine NX.k 1 ?_; first | refine NX.one (One.elemM hA tabOk rfl rfl rfl rfl ?_ ?_) ?_ | refine NX.one (One.elemOwnM hA tabOk rfl rfl rfl rfl rfl ?_ ?_) ?_) | (refine NX.k 7 ?_; first | refine NX.one (One.concatM hA rfl rfl rfl ?_) ?_) | (refine NX.k 8 ?_; first | refine NX.one (One.eqBoolM hA tabOk rfl rfl rfl rfl rfl) ?_) | (refine NX.k 10 ?_; first | refine NX.one (One.lenOwnM hA tabOk rfl rfl rfl rfl) ?_) | (refine NX.k 14 ?_; first | refine NX.one (One.loadRatM hA tabOk rfl rfl rfl rfl rfl rfl ?_) ?_)) <;> (first | refine AOLg.pass ?_ | (((try simp only [zn]) <;> (try simp (disch := omega) only [zz hA, zb, zy, reduceCtorEq, Bool.false_eq_true, Int.reduceLT, Int.reduceLE, Int.reduceNeg]) <;> (try simp only [zw])) <;> omega)))
          | refine NX.raw ?_)
      | refine Thn.exit ?_
      | refine Blk.here ?_
      | refine Blk.other (by decide) ?_
      | refine ⟨.inl rfl, _, RetOk.ev tabOk (by conv => lhs; cbv), ?_⟩
      | fail)
    refine rPV_then (by conv => lhs; cbv) ?_
    rw [show idxS T s = -1 from idxB_none fun i hi => hok i (by omega), hid_eq hA]
theorem containsT_c (T : List ByteArray) (s : ByteArray) (hl : T.length ≤ 1000000) : PureCalls Try.prog 35 [slP A 1 encS T, SP s] (BP (hid A (decide (0 ≤ idxS T s)))) := by
  refine PureCalls.of Try.func35 rfl (by kernel_rfl) rfl ?_
  try first | refine AOLg.of [] ?_ | refine QSg.of [] ?_
  repeat' (first
    | (refine AWp.pass ?_; first
        | refine AWp.seq ?_
        | refine AWp.block ?_
        | refine AWp.skip ?_
        | refine AWp.regG [] (by conv => lhs; cbv) ?_
        | refine AWp.cond_t rfl ?_
        | refine AWp.cond_f rfl ?_
        | (refine AWp.cond rfl ?_ ?_ <;> intro hc <;> (try rw [hc]) <;> ((try simp only [zn] at hc) <;> (try simp (disch := omega) only [zz hA, zb, zy, reduceCtorEq, Bool.false_eq_true, Int.reduceLT, Int.reduceLE, Int.reduceNeg] at hc) <;> (try simp only [zw] at hc)) <;> (try (exfalso; omega)))
        | refine AWp.exit ?_
        | refine AWp.ret ⟨.inr rfl, _, RetOk.ev tabOk (by conv => lhs; cbv), ?_⟩)
    | (refine AOLg.pass ?_; refine AOLg.nx hA tabOk (by conv => lhs; cbv) ?_; first
        | refine NX.done ?_
        | refine NX.gt ?_
        | refine NX.gf ?_
        | (refine NX.gs ?_ ?_ <;> intro hc <;> rw [hc] <;> ((try simp only [zn] at hc) <;> (try simp (disch := omega) only [zz hA, zb, zy, reduceCtorEq, Bool.false_eq_true, Int.reduceLT, Int.reduceLE, Int.reduceNeg] at hc) <;> (try simp only [zw] at hc)) <;> (try (exfalso; omega)))
        | (refine NX.kC ?_; first | (with_reducible refine NX.call (indexT_c hA T s hl) ?_) | ((first | refine NX.call (indexT_c hA T s hl) ?_)) | fail)
        | (refine NX.kO ?_; (first | refine NX.callO (indexT_c hA T s hl) (by simp [allEq]) rfl ?_))
        | refine NX.raw ?_)
    | refine Thn.exit ?_
    | refine Blk.here ?_
    | refine Blk.other (by decide) ?_
    | refine ⟨.inl rfl, _, RetOk.ev tabOk (by conv => lhs; cbv), ?_⟩
    | fail)
  refine rPV_then (by conv => lhs; cbv) ?_
  simp [hA, real, hid]
set_option maxHeartbeats 4000000 in
theorem sVars_c (E : List Nd) (hE : E.length ≤ 1000000) : PureCalls Try.prog 17 [slP A 3 (encD A) E] (slP A 1 encS (varsD E)) := by
  refine PureCalls.of Try.func17 rfl (by kernel_rfl) rfl ?_
  try first | refine AOLg.of [3] ?_ | refine QSg.of [3] ?_
  repeat' (first
    | (refine AWp.pass ?_; first
        | refine AWp.seq ?_
        | refine AWp.block ?_
        | refine AWp.skip ?_
        | refine AWp.regG [3] (by conv => lhs; cbv) ?_
        | refine AWp.cond_t rfl ?_
        | refine AWp.cond_f rfl ?_
        | (refine AWp.cond rfl ?_ ?_ <;> intro hc <;> (try rw [hc]) <;> ((try simp only [zn] at hc) <;> (try simp (disch := omega) only [zz hA, zb, zy, reduceCtorEq, Bool.false_eq_true, Int.reduceLT, Int.reduceLE, Int.reduceNeg] at hc) <;> (try simp only [zw] at hc)) <;> (try (exfalso; omega)))
        | refine AWp.exit ?_
        | refine AWp.ret ⟨.inr rfl, _, RetOk.ev tabOk (by conv => lhs; cbv), ?_⟩)
    | (refine AOLg.pass ?_; refine AOLg.nx hA tabOk (by conv => lhs; cbv) ?_; first
        | refine NX.done ?_
        | refine NX.gt ?_
        | refine NX.gf ?_
        | (refine NX.gs ?_ ?_ <;> intro hc <;> rw [hc] <;> ((try simp only [zn] at hc) <;> (try simp (disch := omega) only [zz hA, zb, zy, reduceCtorEq, Bool.false_eq_true, Int.reduceLT, Int.reduceLE, Int.reduceNeg] at hc) <;> (try simp only [zw] at hc)) <;> (try (exfalso; omega)))
        | ((first | (refine NX.k 1 ?_; first | refine NX.one (One.elemM hA tabOk rfl rfl rfl rfl ?_ ?_) ?_ | refine NX.one (One.elemOwnM hA tabOk rfl rfl rfl rfl rfl ?_ ?_) ?_) | (refine NX.k 7 ?_; first | refine NX.one (One.concatM hA rfl rfl rfl ?_) ?_) | (refine NX.k 8 ?_; first | refine NX.one (One.eqBoolM hA tabOk rfl rfl rfl rfl rfl) ?_) | (refine NX.k 10 ?_; first | refine NX.one (One.lenOwnM hA tabOk rfl rfl rfl rfl) ?_) | (refine NX.k 11 ?_; first | refine NX.one (One.appendM hA tabOk _ rfl rfl rfl rfl rfl rfl ?_ ?_) ?_ | refine NX.one (One.appendMM hA tabOk rfl rfl rfl rfl rfl ?_ ?_) ?_ | refine NX.one (One.appendOwnM hA tabOk _ rfl rfl rfl rfl rfl rfl rfl ?_ ?_) ?_ | refine NX.one (One.appendOwnMM hA tabOk rfl rfl rfl rfl rfl rfl ?_ ?_) ?_ | refine NX.one (One.appendOwn0 hA tabOk rfl rfl rfl rfl rfl rfl ?_ ?_) ?_) | (refine NX.k 14 ?_; first | refine NX.one (One.loadRatM hA tabOk rfl rfl rfl rfl rfl rfl ?_) ?_) | (refine NX.k 15 ?_; first | refine NX.one (One.storeRatM hA tabOk _ rfl rfl rfl rfl rfl rfl rfl rfl (fun _ => rfl) ?_) ?_) | (refine NX.k 17 ?_; first | refine NX.one (One.build0 tabOk rfl rfl) ?_) | (refine NX.k 18 ?_; first | refine NX.one (One.fieldRat tabOk rfl rfl rfl rfl (by decide) rfl rfl) ?_)) <;> (first | refine AOLg.pass ?_ | (((try simp only [zn]) <;> (try simp (disch := omega) only [zz hA, zb, zy, reduceCtorEq, Bool.false_eq_true, Int.reduceLT, Int.reduceLE, Int.reduceNeg]) <;> (try simp only [zw])) <;> omega)))
        | (refine NX.one (One.nilOwn tabOk 3 34 rfl rfl rfl) ?_)
        | refine NX.raw ?_)
    | refine Thn.exit ?_
    | refine Blk.here ?_
    | refine Blk.other (by decide) ?_
    | refine ⟨.inl rfl, _, RetOk.ev tabOk (by conv => lhs; cbv), ?_⟩
    | fail)
  refine AWp.loopT 1 (fun x : Nat × Nat => [(8, .ic (.lit (.int .i64 (hid A (cN x.1))))), (3, .own 0 x.2)]) (fun x => [.row true x.2 9 1 (hid A (List.map encS (varsN E x.1)))]) (fun x => E.length - x.1) (fun x => x.1 ≤ E.length) (0, 0) (by conv => lhs; cbv) (Nat.zero_le _) (.int rfl (by simp [hA, real, hid, cN]) (.cons rfl .nil)) (by
    ((try simp only [zn]) <;> (try simp (disch := omega) only [zz hA, zb, zy, reduceCtorEq, Bool.false_eq_true, Int.reduceLT, Int.reduceLE, Int.reduceNeg, hid_eq hA]) <;> (try simp only [zw]))
    rfl) (fun _ => rfl) (fun _ => rfl) ?_
  rintro ⟨i, v⟩ hi0
  simp only [] at hi0 ⊢
  have hvl := varsN_len E i
  by_cases hi : i < E.length
  · have hat : ∀ s', s' = ndS (E.getD i default) → PureCalls Try.prog 35 [slP A 1 encS (varsN E i), SP s'] (BP (hid A (decide (0 ≤ idxS (varsN E i) (ndS (E.getD i default)))))) := by
      rintro s' rfl; exact containsT_c hA _ _ (by omega)
    have hn : varsN E (i + 1) = if ndK (E.getD i default) = 2 ∧ idxS (varsN E i) (ndS (E.getD i default)) < 0 then varsN E i ++ [ndS (E.getD i default)] else varsN E i := rfl
    generalize hs : ndS (E.getD i default) = s at *
    generalize hk : ndK (E.getD i default) = k at *
    generalize idxS (varsN E i) s = f at *
    generalize hV2 : varsN E (i + 1) = V2 at *
    generalize varsN E i = V at *
    by_cases hf : 0 ≤ f
    · rw [decide_eq_true hf] at hat
      rw [hid_eq hA (α := Bool)] at hat
      try first | refine AOLg.of [] ?_ | refine QSg.of [] ?_
      repeat' (first
        | (refine AWp.pass ?_; first
            | refine AWp.seq ?_
            | refine AWp.block ?_
            | refine AWp.skip ?_
            | refine AWp.regG [] (by conv => lhs; cbv) ?_
            | refine AWp.cond_t rfl ?_
            | refine AWp.cond_f rfl ?_
            | (refine AWp.cond rfl ?_ ?_ <;> intro hc <;> (try rw [hc]) <;> ((try simp only [zn] at hc) <;> (try simp (disch := omega) only [zz hA, zb, zy, reduceCtorEq, Bool.false_eq_true, Int.reduceLT, Int.reduceLE, Int.reduceNeg] at hc) <;> (try simp only [zw] at hc)) <;> (try (exfalso; omega)))
            | refine AWp.exit ?_
            | refine AWp.ret ⟨.inr rfl, _, RetOk.ev tabOk (by conv => lhs; cbv), ?_⟩)
        | (refine AOLg.pass ?_; refine AOLg.nx hA tabOk (by conv => lhs; cbv) ?_; first
            | refine NX.done ?_
            | refine NX.gt ?_
            | refine NX.gf ?_
            | (refine NX.gs ?_ ?_ <;> intro hc <;> rw [hc] <;> ((try simp only [zn] at hc) <;> (try simp (disch := omega) only [zz hA, zb, zy, reduceCtorEq, Bool.false_eq_true, Int.reduceLT, Int.reduceLE, Int.reduceNeg] at hc) <;> (try simp only [zw] at hc)) <;> (try (exfalso; omega)))
            | (refine NX.kC ?_; first | (with_reducible refine NX.call (hat _ (by simp only [hid_eq hA, cN_toNat]; exact hs)) ?_) | ((first | refine NX.call (hat _ (by simp only [hid_eq hA, cN_toNat]; exact hs)) ?_)) | fail)
            | (refine NX.kO ?_; (first | refine NX.callO (hat _ (by simp only [hid_eq hA, cN_toNat]; exact hs)) (by simp [allEq]) rfl ?_))
            | ((first | (refine NX.k 1 ?_; first | refine NX.one (One.elemM hA tabOk rfl rfl rfl rfl ?_ ?_) ?_ | refine NX.one (One.elemOwnM hA tabOk rfl rfl rfl rfl rfl ?_ ?_) ?_) | (refine NX.k 7 ?_; first | refine NX.one (One.concatM hA rfl rfl rfl ?_) ?_) | (refine NX.k 8 ?_; first | refine NX.one (One.eqBoolM hA tabOk rfl rfl rfl rfl rfl) ?_) | (refine NX.k 10 ?_; first | refine NX.one (One.lenOwnM hA tabOk rfl rfl rfl rfl) ?_) | (refine NX.k 11 ?_; first | refine NX.one (One.appendM hA tabOk _ rfl rfl rfl rfl rfl rfl ?_ ?_) ?_ | refine NX.one (One.appendMM hA tabOk rfl rfl rfl rfl rfl ?_ ?_) ?_ | refine NX.one (One.appendOwnM hA tabOk _ rfl rfl rfl rfl rfl rfl rfl ?_ ?_) ?_ | refine NX.one (One.appendOwnMM hA tabOk rfl rfl rfl rfl rfl rfl ?_ ?_) ?_ | refine NX.one (One.appendOwn0 hA tabOk rfl rfl rfl rfl rfl rfl ?_ ?_) ?_) | (refine NX.k 14 ?_; first | refine NX.one (One.loadRatM hA tabOk rfl rfl rfl rfl rfl rfl ?_) ?_) | (refine NX.k 15 ?_; first | refine NX.one (One.storeRatM hA tabOk _ rfl rfl rfl rfl rfl rfl rfl rfl (fun _ => rfl) ?_) ?_) | (refine NX.k 17 ?_; first | refine NX.one (One.build0 tabOk rfl rfl) ?_) | (refine NX.k 18 ?_; first | refine NX.one (One.fieldRat tabOk rfl rfl rfl rfl (by decide) rfl rfl) ?_)) <;> (first | refine AOLg.pass ?_ | (((try simp only [zn]) <;> (try simp (disch := omega) only [zz hA, zb, zy, reduceCtorEq, Bool.false_eq_true, Int.reduceLT, Int.reduceLE, Int.reduceNeg]) <;> (try simp only [zw])) <;> omega)))
            | refine NX.raw ?_)
        | refine Thn.exit ?_
        | refine Blk.here ?_
        | refine Blk.other (by decide) ?_
        | refine ⟨.inl rfl, _, RetOk.ev tabOk (by conv => lhs; cbv), ?_⟩
        | fail)
      all_goals
        refine ⟨(i + 1, v), by simp only; omega, by simp only; omega, rfl, rfl, (by repeat' (first | exact trimOk.nil | refine trimOk.same ?_ | refine trimOk.turn rfl ?_)), ?_, rfl, ?_, (by repeat' (first | exact subE.nil | refine subE.cons rfl ?_))⟩
        · rw [if_neg (by omega)] at hn
          simp only [hV2, hn]
          rfl
        · exact .int rfl (by (((try simp only [zn]) <;> (try simp (disch := omega) only [zz hA, zb, zy, reduceCtorEq, Bool.false_eq_true, Int.reduceLT, Int.reduceLE, Int.reduceNeg]) <;> (try simp only [zw])) <;> omega)) (.cons rfl .nil)
    · rw [decide_eq_false hf] at hat
      rw [hid_eq hA (α := Bool)] at hat
      try first | refine AOLg.of [] ?_ | refine QSg.of [] ?_
      repeat' (first
        | (refine AWp.pass ?_; first
            | refine AWp.seq ?_
            | refine AWp.block ?_
            | refine AWp.skip ?_
            | refine AWp.regG [] (by conv => lhs; cbv) ?_
            | refine AWp.cond_t rfl ?_
            | refine AWp.cond_f rfl ?_
            | (refine AWp.cond rfl ?_ ?_ <;> intro hc <;> (try rw [hc]) <;> ((try simp only [zn] at hc) <;> (try simp (disch := omega) only [zz hA, zb, zy, reduceCtorEq, Bool.false_eq_true, Int.reduceLT, Int.reduceLE, Int.reduceNeg] at hc) <;> (try simp only [zw] at hc)) <;> (try (exfalso; omega)))
            | refine AWp.exit ?_
            | refine AWp.ret ⟨.inr rfl, _, RetOk.ev tabOk (by conv => lhs; cbv), ?_⟩)
        | (refine AOLg.pass ?_; refine AOLg.nx hA tabOk (by conv => lhs; cbv) ?_; first
            | refine NX.done ?_
            | refine NX.gt ?_
            | refine NX.gf ?_
            | (refine NX.gs ?_ ?_ <;> intro hc <;> rw [hc] <;> ((try simp only [zn] at hc) <;> (try simp (disch := omega) only [zz hA, zb, zy, reduceCtorEq, Bool.false_eq_true, Int.reduceLT, Int.reduceLE, Int.reduceNeg] at hc) <;> (try simp only [zw] at hc)) <;> (try (exfalso; omega)))
            | (refine NX.kC ?_; first | (with_reducible refine NX.call (hat _ (by simp only [hid_eq hA, cN_toNat]; exact hs)) ?_) | ((first | refine NX.call (hat _ (by simp only [hid_eq hA, cN_toNat]; exact hs)) ?_)) | fail)
            | (refine NX.kO ?_; (first | refine NX.callO (hat _ (by simp only [hid_eq hA, cN_toNat]; exact hs)) (by simp [allEq]) rfl ?_))
            | ((first | (refine NX.k 1 ?_; first | refine NX.one (One.elemM hA tabOk rfl rfl rfl rfl ?_ ?_) ?_ | refine NX.one (One.elemOwnM hA tabOk rfl rfl rfl rfl rfl ?_ ?_) ?_) | (refine NX.k 7 ?_; first | refine NX.one (One.concatM hA rfl rfl rfl ?_) ?_) | (refine NX.k 8 ?_; first | refine NX.one (One.eqBoolM hA tabOk rfl rfl rfl rfl rfl) ?_) | (refine NX.k 10 ?_; first | refine NX.one (One.lenOwnM hA tabOk rfl rfl rfl rfl) ?_) | (refine NX.k 11 ?_; first | refine NX.one (One.appendM hA tabOk _ rfl rfl rfl rfl rfl rfl ?_ ?_) ?_ | refine NX.one (One.appendMM hA tabOk rfl rfl rfl rfl rfl ?_ ?_) ?_ | refine NX.one (One.appendOwnM hA tabOk _ rfl rfl rfl rfl rfl rfl rfl ?_ ?_) ?_ | refine NX.one (One.appendOwnMM hA tabOk rfl rfl rfl rfl rfl rfl ?_ ?_) ?_ | refine NX.one (One.appendOwn0 hA tabOk rfl rfl rfl rfl rfl rfl ?_ ?_) ?_) | (refine NX.k 14 ?_; first | refine NX.one (One.loadRatM hA tabOk rfl rfl rfl rfl rfl rfl ?_) ?_) | (refine NX.k 15 ?_; first | refine NX.one (One.storeRatM hA tabOk _ rfl rfl rfl rfl rfl rfl rfl rfl (fun _ => rfl) ?_) ?_) | (refine NX.k 17 ?_; first | refine NX.one (One.build0 tabOk rfl rfl) ?_) | (refine NX.k 18 ?_; first | refine NX.one (One.fieldRat tabOk rfl rfl rfl rfl (by decide) rfl rfl) ?_)) <;> (first | refine AOLg.pass ?_ | (((try simp only [zn]) <;> (try simp (disch := omega) only [zz hA, zb, zy, reduceCtorEq, Bool.false_eq_true, Int.reduceLT, Int.reduceLE, Int.reduceNeg]) <;> (try simp only [zw])) <;> omega)))
            | refine NX.raw ?_)
        | refine Thn.exit ?_
        | refine Blk.here ?_
        | refine Blk.other (by decide) ?_
        | refine ⟨.inl rfl, _, RetOk.ev tabOk (by conv => lhs; cbv), ?_⟩
        | fail)
      · refine ⟨(i + 1, v + 1), by simp only; omega, by simp only; omega, rfl, rfl, (by repeat' (first | exact trimOk.nil | refine trimOk.same ?_ | refine trimOk.turn rfl ?_)), ?_, rfl, ?_, (by repeat' (first | exact subE.nil | refine subE.cons rfl ?_))⟩
        · rw [if_pos ⟨by omega, by omega⟩] at hn
          simp only [hid_eq hA, hV2, hn, cN_toNat, hs]
          rfl
        · exact .int rfl (by (((try simp only [zn]) <;> (try simp (disch := omega) only [zz hA, zb, zy, reduceCtorEq, Bool.false_eq_true, Int.reduceLT, Int.reduceLE, Int.reduceNeg]) <;> (try simp only [zw])) <;> omega)) (.cons rfl .nil)
      · refine ⟨(i + 1, v), by simp only; omega, by simp only; omega, rfl, rfl, (by repeat' (first | exact trimOk.nil | refine trimOk.same ?_ | refine trimOk.turn rfl ?_)), ?_, rfl, ?_, (by repeat' (first | exact subE.nil | refine subE.cons rfl ?_))⟩
        · rw [if_neg (by omega)] at hn
          simp only [hV2, hn]
          rfl
        · exact .int rfl (by (((try simp only [zn]) <;> (try simp (disch := omega) only [zz hA, zb, zy, reduceCtorEq, Bool.false_eq_true, Int.reduceLT, Int.reduceLE, Int.reduceNeg]) <;> (try simp only [zw])) <;> omega)) (.cons rfl .nil)
  · obtain rfl : i = E.length := by omega
    try first | refine AOLg.of [] ?_ | refine QSg.of [] ?_
    repeat' (first
      | (refine AWp.pass ?_; first
          | refine AWp.seq ?_
          | refine AWp.block ?_
          | refine AWp.skip ?_
          | refine AWp.regG [] (by conv => lhs; cbv) ?_
          | refine AWp.cond_t rfl ?_
          | refine AWp.cond_f rfl ?_
          | (refine AWp.cond rfl ?_ ?_ <;> intro hc <;> (try rw [hc]) <;> ((try simp only [zn] at hc) <;> (try simp (disch := omega) only [zz hA, zb, zy, reduceCtorEq, Bool.false_eq_true, Int.reduceLT, Int.reduceLE, Int.reduceNeg] at hc) <;> (try simp only [zw] at hc)) <;> (try (exfalso; omega)))
          | refine AWp.exit ?_
          | refine AWp.ret ⟨.inr rfl, _, RetOk.ev tabOk (by conv => lhs; cbv), ?_⟩)
      | (refine AOLg.pass ?_; refine AOLg.nx hA tabOk (by conv => lhs; cbv) ?_; first
          | refine NX.done ?_
          | refine NX.gt ?_
          | refine NX.gf ?_
          | (refine NX.gs ?_ ?_ <;> intro hc <;> rw [hc] <;> ((try simp only [zn] at hc) <;> (try simp (disch := omega) only [zz hA, zb, zy, reduceCtorEq, Bool.false_eq_true, Int.reduceLT, Int.reduceLE, Int.reduceNeg] at hc) <;> (try simp only [zw] at hc)) <;> (try (exfalso; omega)))
          | ((first | (refine NX.k 1 ?_; first | refine NX.one (One.elemM hA tabOk rfl rfl rfl rfl ?_ ?_) ?_ | refine NX.one (One.elemOwnM hA tabOk rfl rfl rfl rfl rfl ?_ ?_) ?_) | (refine NX.k 7 ?_; first | refine NX.one (One.concatM hA rfl rfl rfl ?_) ?_) | (refine NX.k 8 ?_; first | refine NX.one (One.eqBoolM hA tabOk rfl rfl rfl rfl rfl) ?_) | (refine NX.k 10 ?_; first | refine NX.one (One.lenOwnM hA tabOk rfl rfl rfl rfl) ?_) | (refine NX.k 11 ?_; first | refine NX.one (One.appendM hA tabOk _ rfl rfl rfl rfl rfl rfl ?_ ?_) ?_ | refine NX.one (One.appendMM hA tabOk rfl rfl rfl rfl rfl ?_ ?_) ?_ | refine NX.one (One.appendOwnM hA tabOk _ rfl rfl rfl rfl rfl rfl rfl ?_ ?_) ?_ | refine NX.one (One.appendOwnMM hA tabOk rfl rfl rfl rfl rfl rfl ?_ ?_) ?_ | refine NX.one (One.appendOwn0 hA tabOk rfl rfl rfl rfl rfl rfl ?_ ?_) ?_) | (refine NX.k 14 ?_; first | refine NX.one (One.loadRatM hA tabOk rfl rfl rfl rfl rfl rfl ?_) ?_) | (refine NX.k 15 ?_; first | refine NX.one (One.storeRatM hA tabOk _ rfl rfl rfl rfl rfl rfl rfl rfl (fun _ => rfl) ?_) ?_) | (refine NX.k 17 ?_; first | refine NX.one (One.build0 tabOk rfl rfl) ?_) | (refine NX.k 18 ?_; first | refine NX.one (One.fieldRat tabOk rfl rfl rfl rfl (by decide) rfl rfl) ?_)) <;> (first | refine AOLg.pass ?_ | (((try simp only [zn]) <;> (try simp (disch := omega) only [zz hA, zb, zy, reduceCtorEq, Bool.false_eq_true, Int.reduceLT, Int.reduceLE, Int.reduceNeg]) <;> (try simp only [zw])) <;> omega)))
          | refine NX.raw ?_)
      | refine Thn.exit ?_
      | refine Blk.here ?_
      | refine Blk.other (by decide) ?_
      | refine ⟨.inl rfl, _, RetOk.ev tabOk (by conv => lhs; cbv), ?_⟩
      | fail)
    exact (rPV_own rfl).trans rfl
end Go.Proofs.Ytgemcogfpkolfaa.Aw

/- Contracts of the statements of side: the document's example, and what they are asked of. -/
set_option linter.unusedVariables false
set_option linter.unusedSimpArgs false
set_option linter.unusedSectionVars false
namespace Go.Proofs.Ytgemcogfpkolfaa.Aw
open Go Go.RowKit
set_option maxRecDepth 10000
attribute [local irreducible] AWp AOL QS One AOLg QSg NX QX TRg TX AllO Fin3
theorem One.bytesK {r : Option Nat} {P : Program} {ops : Array Oper} {i : Nat} {s : St} {tab : List TI} {A : Ar} (hA : A = real) (hT : TabOk P tab) {src dst e : TypeId} {j q : TI} {x : Operand} {ex : Bool} {l : List Int} {rows : List (List IC)} {b : ByteArray} (hb : mkS l = b) (h : opAt ops i s = some (.convert src dst x)) (hs : slT tab src = some (e, j)) (he : j.k = .int .u8) (hd : tiAt tab dst = some q) (hq : q.k = .string)
    (hx : s.ev x = .ic (.sl 1 ex rows)) (hr : rows = hid A (List.map encU l)) : One r P ops i s (.ic (.lit (.string b))) s.st := by
  have := One.bytesM (r := r) hA hT h hs he hd hq hx hr
  rwa [hid_eq hA, hb] at this
def shL : List Sg := [({ data := #[99] }, { data := #[45] })]
def shE : List Nd := [(2, { data := #[88] }, 0), (3, { data := #[99] }, 1)]
theorem shFind : findG shL { data := #[99] } = 0 := idxB_at (n := 1) (i := 0) (by decide) (by simp [eqS, shL, sgN]) (by simp)
theorem shGood : goodD shE ∧ manyD shE shE.length = 1 := by
  refine ⟨fun i hi => ?_, by decide⟩
  have hi : i < 2 := hi
  have : i = 0 ∨ i = 1 := by omega
  rcases this with rfl | rfl
  · decide
  · decide
theorem shSides : sidesD shL shE 76 = [82, 76] := by
  have hk : knownD shL 3 { data := #[99] } 1 = true := by unfold knownD; rw [shFind]; decide
  have hv : varyD shL 3 { data := #[99] } 1 0 = 45 := by unfold varyD; rw [hk, shFind]; decide
  have h1 : sdM shL shE (stD shE 2) 76 1 = [82, 76] := by
    show setsD [0, 76] [0] (fun k => turnD 76 (varyD shL 3 { data := #[99] } 1 k)) [0] = _
    simp only [setsD, List.foldl_cons, List.foldl_nil, hv]
    decide
  show sdStep shL shE (stD shE 2) (sdM shL shE (stD shE 2) 76 1) 0 = _
  rw [h1]
  rfl
theorem shCheck : checkW shL shE (sidesD shL shE 76) = 0 := by
  rw [shSides]
  have hk : knownD shL 3 { data := #[99] } 1 = true := by unfold knownD; rw [shFind]; decide
  refine (check_ok (l := shL) (E := shE) fun j hj => ?_).2
  have hj : j < 2 := hj
  have : j = 0 ∨ j = 1 := by omega
  rcases this with rfl | rfl
  · show wrongD shL 2 _ 0 82 = 0
    rfl
  · show wrongD shL 3 { data := #[99] } 1 76 = 0
    unfold wrongD
    rw [shFind, hk]
    decide
theorem shVars : (varsD shE).length = 1 := by
  have h0 : varsN shE 1 = [{ data := #[88] }] := rfl
  have h1 : varsN shE 2 = varsN shE 1 := by
    rw [varsN]
    exact if_neg fun h => absurd h.1 (by decide)
  show (varsN shE 2).length = 1
  rw [h1, h0]
  rfl
def of8M (l : List Sg) (E : List Nd) : Bool := ((decide (l.length ≤ 64) && rightG l) && fewD E) && rightD E
theorem of8M_st {l : List Sg} {E : List Nd} (h : of8M l E = true) : l.length ≤ 64 ∧ E.length ≤ 600 ∧ goodD E ∧ manyD E E.length = 1 ∧ 1 ≤ E.length := by
  unfold of8M fewD at h
  simp only [Bool.and_eq_true, decide_eq_true_eq] at h
  have := rightD_good h.2
  have := wtD_len E
  exact ⟨h.1.1.1, by omega, rightD_good h.2⟩
variable {A : Ar} (hA : A = real)
include hA
set_option maxHeartbeats 4000000 in
theorem shown8_c : PureCalls Try.prog 10 [] (BP true) := by
  have eL : slP A 2 (encG A) shL = .c (.sl 2 false [[.lit (.string { data := #[99] }), .lit (.string { data := #[45] })]]) := by simp [slP, hid_eq hA, encG, shL, sgN, sgA]
  have eE : slP A 3 (encD A) shE = .c (.sl 3 false [[.lit (.int .i64 2), .lit (.string { data := #[88] }), .lit (.int .i64 0)], [.lit (.int .i64 3), .lit (.string { data := #[99] }), .lit (.int .i64 1)]]) := by simp [slP, hid_eq hA, encD, shE, ndK, ndS, ndN]
  have hf : FitG shL := by unfold FitG shL; simp; decide
  have hc := sCheck_c hA shL shE 76 (by decide) hf shGood.1 shGood.2 (by decide)
  have ho := sOf_c hA shL shE 76 (by decide) hf shGood.1 shGood.2 (by decide)
  have hv := sVars_c hA shE (by decide)
  have hvl := shVars
  rw [shCheck, eL, eE, hid_eq hA (α := Int) (x := 0)] at hc
  rw [shSides, eL, eE] at ho
  rw [eE] at hv
  generalize varsD shE = V at *
  generalize checkA shL shE (sidesD shL shE 76) = ca at *
  refine PureCalls.of Try.func10 rfl (by kernel_rfl) rfl ?_
  try first | refine AOLg.of [] ?_ | refine QSg.of [] ?_
  repeat' (first
    | (refine AWp.pass ?_; first
        | refine AWp.seq ?_
        | refine AWp.block ?_
        | refine AWp.skip ?_
        | refine AWp.regG [] (by conv => lhs; cbv) ?_
        | refine AWp.cond_t rfl ?_
        | refine AWp.cond_f rfl ?_
        | (refine AWp.cond rfl ?_ ?_ <;> intro hc <;> (try rw [hc]) <;> ((try simp only [zn] at hc) <;> (try simp (disch := omega) only [zz hA, zb, zy, reduceCtorEq, Bool.false_eq_true, Int.reduceLT, Int.reduceLE, Int.reduceNeg] at hc) <;> (try simp only [zw] at hc)) <;> (try (exfalso; omega)))
        | refine AWp.exit ?_
        | refine AWp.ret ⟨.inr rfl, _, RetOk.ev tabOk (by conv => lhs; cbv), ?_⟩)
    | (refine AOLg.pass ?_; refine AOLg.nx hA tabOk (by conv => lhs; cbv) ?_; first
        | refine NX.done ?_
        | refine NX.gt ?_
        | refine NX.gf ?_
        | (refine NX.gs ?_ ?_ <;> intro hc <;> rw [hc] <;> ((try simp only [zn] at hc) <;> (try simp (disch := omega) only [zz hA, zb, zy, reduceCtorEq, Bool.false_eq_true, Int.reduceLT, Int.reduceLE, Int.reduceNeg] at hc) <;> (try simp only [zw] at hc)) <;> (try (exfalso; omega)))
        | (refine NX.kC ?_; first | (with_reducible refine NX.call (hc) ?_) | (with_reducible refine NX.call (ho) ?_) | (with_reducible refine NX.call (hv) ?_) | ((first | refine NX.call (hc) ?_ | refine NX.call (ho) ?_ | refine NX.call (hv) ?_)) | fail)
        | (refine NX.kO ?_; (first | refine NX.callO (hc) (by simp [allEq]) rfl ?_ | refine NX.callO (ho) (by simp [allEq]) rfl ?_ | refine NX.callO (hv) (by simp [allEq]) rfl ?_))
        | ((first | (refine NX.k 8 ?_; first | refine NX.one (One.eqBoolM hA tabOk rfl rfl rfl rfl rfl) ?_) | (refine NX.k 10 ?_; first | refine NX.one (One.lenOwnM hA tabOk rfl rfl rfl rfl) ?_) | (refine NX.k 17 ?_; first | refine NX.one (One.build0 tabOk rfl rfl) ?_)) <;> (first | refine AOLg.pass ?_ | (((try simp only [zn]) <;> (try simp (disch := omega) only [zz hA, zb, zy, reduceCtorEq, Bool.false_eq_true, Int.reduceLT, Int.reduceLE, Int.reduceNeg]) <;> (try simp only [zw])) <;> omega)))
        | (refine NX.one (One.bytesK (l := [82, 76]) (b := { data := #[82, 76] }) hA tabOk rfl rfl rfl rfl rfl rfl rfl rfl) ?_)
        | refine NX.raw ?_)
    | refine Thn.exit ?_
    | refine Blk.here ?_
    | refine Blk.other (by decide) ?_
    | refine ⟨.inl rfl, _, RetOk.ev tabOk (by conv => lhs; cbv), ?_⟩
    | fail)
  first | (exfalso; omega) | (refine rPV_then (by conv => lhs; cbv) ?_; rfl) | (refine rPV_then (by conv => lhs; cbv) ?_; refine congrArg (fun b => PV.c (IC.lit (Value.bool b))) ?_; ((try simp only [zn]) <;> (try simp (disch := omega) only [zz hA, zb, zy, reduceCtorEq, Bool.false_eq_true, Int.reduceLT, Int.reduceLE, Int.reduceNeg]) <;> (try simp only [zw])); done) | (refine rPV_then (by conv => lhs; cbv) ?_; refine congrArg (fun b => PV.c (IC.lit (Value.bool b))) ?_; ((try simp only [zn]) <;> (try simp (disch := omega) only [zz hA, zb, zy, reduceCtorEq, Bool.false_eq_true, Int.reduceLT, Int.reduceLE, Int.reduceNeg]) <;> (try simp only [zw])); omega) | fail
theorem of8_c (l : List Sg) (E : List Nd) (hsz : FitG l) (hsz2 : FitD E) : PureCalls Try.prog 11 [slP A 2 (encG A) l, slP A 3 (encD A) E] (BP (hid A (of8M l E))) := by
  have hr := sigRight_c hA l hsz
  have hw := few_c hA E hsz2
  have hd : wtD E ≤ 600 → _ := rRight_c hA E
  have ho : of8M l E = (((decide (l.length ≤ 64) && rightG l) && fewD E) && rightD E) := rfl
  have hfd : fewD E = true → wtD E ≤ 600 := fun h => of_decide_eq_true h
  generalize of8M l E = R at *
  generalize rightG l = b1 at *
  generalize fewD E = b2 at *
  generalize rightD E = b3 at *
  refine PureCalls.of Try.func11 rfl (by kernel_rfl) rfl ?_
  by_cases hl : l.length ≤ 64
  · rw [decide_eq_true hl] at ho
    cases b1 with
    | false =>
      rw [hid_eq hA (α := Bool)] at hr
      try first | refine AOLg.of [] ?_ | refine QSg.of [] ?_
      repeat' (first
        | (refine AWp.pass ?_; first
            | refine AWp.seq ?_
            | refine AWp.block ?_
            | refine AWp.skip ?_
            | refine AWp.regG [] (by conv => lhs; cbv) ?_
            | refine AWp.cond_t rfl ?_
            | refine AWp.cond_f rfl ?_
            | (refine AWp.cond rfl ?_ ?_ <;> intro hc <;> (try rw [hc]) <;> ((try simp only [zn] at hc) <;> (try simp (disch := omega) only [zz hA, zb, zy, reduceCtorEq, Bool.false_eq_true, Int.reduceLT, Int.reduceLE, Int.reduceNeg] at hc) <;> (try simp only [zw] at hc)) <;> (try (exfalso; omega)))
            | refine AWp.exit ?_
            | refine AWp.ret ⟨.inr rfl, _, RetOk.ev tabOk (by conv => lhs; cbv), ?_⟩)
        | (refine AOLg.pass ?_; refine AOLg.nx hA tabOk (by conv => lhs; cbv) ?_; first
            | refine NX.done ?_
            | refine NX.gt ?_
            | refine NX.gf ?_
            | (refine NX.gs ?_ ?_ <;> intro hc <;> rw [hc] <;> ((try simp only [zn] at hc) <;> (try simp (disch := omega) only [zz hA, zb, zy, reduceCtorEq, Bool.false_eq_true, Int.reduceLT, Int.reduceLE, Int.reduceNeg] at hc) <;> (try simp only [zw] at hc)) <;> (try (exfalso; omega)))
            | (refine NX.kC ?_; first | (with_reducible refine NX.call (hr) ?_) | ((first | refine NX.call (hr) ?_)) | fail)
            | (refine NX.kO ?_; (first | refine NX.callO (hr) (by simp [allEq]) rfl ?_))
            | ((first | (refine NX.k 10 ?_; first | refine NX.one (One.lenOwnM hA tabOk rfl rfl rfl rfl) ?_)) <;> (first | refine AOLg.pass ?_ | (((try simp only [zn]) <;> (try simp (disch := omega) only [zz hA, zb, zy, reduceCtorEq, Bool.false_eq_true, Int.reduceLT, Int.reduceLE, Int.reduceNeg]) <;> (try simp only [zw])) <;> omega)))
            | refine NX.raw ?_)
        | refine Thn.exit ?_
        | refine Blk.here ?_
        | refine Blk.other (by decide) ?_
        | refine ⟨.inl rfl, _, RetOk.ev tabOk (by conv => lhs; cbv), ?_⟩
        | fail)
      refine rPV_then (by conv => lhs; cbv) ?_
      rw [ho, hid_eq hA]; rfl
    | true =>
      rw [hid_eq hA (α := Bool)] at hr
      cases b2 with
      | false =>
        rw [hid_eq hA (α := Bool)] at hw
        try first | refine AOLg.of [] ?_ | refine QSg.of [] ?_
        repeat' (first
          | (refine AWp.pass ?_; first
              | refine AWp.seq ?_
              | refine AWp.block ?_
              | refine AWp.skip ?_
              | refine AWp.regG [] (by conv => lhs; cbv) ?_
              | refine AWp.cond_t rfl ?_
              | refine AWp.cond_f rfl ?_
              | (refine AWp.cond rfl ?_ ?_ <;> intro hc <;> (try rw [hc]) <;> ((try simp only [zn] at hc) <;> (try simp (disch := omega) only [zz hA, zb, zy, reduceCtorEq, Bool.false_eq_true, Int.reduceLT, Int.reduceLE, Int.reduceNeg] at hc) <;> (try simp only [zw] at hc)) <;> (try (exfalso; omega)))
              | refine AWp.exit ?_
              | refine AWp.ret ⟨.inr rfl, _, RetOk.ev tabOk (by conv => lhs; cbv), ?_⟩)
          | (refine AOLg.pass ?_; refine AOLg.nx hA tabOk (by conv => lhs; cbv) ?_; first
              | refine NX.done ?_
              | refine NX.gt ?_
              | refine NX.gf ?_
              | (refine NX.gs ?_ ?_ <;> intro hc <;> rw [hc] <;> ((try simp only [zn] at hc) <;> (try simp (disch := omega) only [zz hA, zb, zy, reduceCtorEq, Bool.false_eq_true, Int.reduceLT, Int.reduceLE, Int.reduceNeg] at hc) <;> (try simp only [zw] at hc)) <;> (try (exfalso; omega)))
              | (refine NX.kC ?_; first | (with_reducible refine NX.call (hr) ?_) | (with_reducible refine NX.call (hw) ?_) | ((first | refine NX.call (hr) ?_ | refine NX.call (hw) ?_)) | fail)
              | (refine NX.kO ?_; (first | refine NX.callO (hr) (by simp [allEq]) rfl ?_ | refine NX.callO (hw) (by simp [allEq]) rfl ?_))
              | ((first | (refine NX.k 10 ?_; first | refine NX.one (One.lenOwnM hA tabOk rfl rfl rfl rfl) ?_)) <;> (first | refine AOLg.pass ?_ | (((try simp only [zn]) <;> (try simp (disch := omega) only [zz hA, zb, zy, reduceCtorEq, Bool.false_eq_true, Int.reduceLT, Int.reduceLE, Int.reduceNeg]) <;> (try simp only [zw])) <;> omega)))
              | refine NX.raw ?_)
          | refine Thn.exit ?_
          | refine Blk.here ?_
          | refine Blk.other (by decide) ?_
          | refine ⟨.inl rfl, _, RetOk.ev tabOk (by conv => lhs; cbv), ?_⟩
          | fail)
        refine rPV_then (by conv => lhs; cbv) ?_
        rw [ho, hid_eq hA]; rfl
      | true =>
        rw [hid_eq hA (α := Bool)] at hw
        replace hd := hd (hfd rfl)
        try first | refine AOLg.of [] ?_ | refine QSg.of [] ?_
        repeat' (first
          | (refine AWp.pass ?_; first
              | refine AWp.seq ?_
              | refine AWp.block ?_
              | refine AWp.skip ?_
              | refine AWp.regG [] (by conv => lhs; cbv) ?_
              | refine AWp.cond_t rfl ?_
              | refine AWp.cond_f rfl ?_
              | (refine AWp.cond rfl ?_ ?_ <;> intro hc <;> (try rw [hc]) <;> ((try simp only [zn] at hc) <;> (try simp (disch := omega) only [zz hA, zb, zy, reduceCtorEq, Bool.false_eq_true, Int.reduceLT, Int.reduceLE, Int.reduceNeg] at hc) <;> (try simp only [zw] at hc)) <;> (try (exfalso; omega)))
              | refine AWp.exit ?_
              | refine AWp.ret ⟨.inr rfl, _, RetOk.ev tabOk (by conv => lhs; cbv), ?_⟩)
          | (refine AOLg.pass ?_; refine AOLg.nx hA tabOk (by conv => lhs; cbv) ?_; first
              | refine NX.done ?_
              | refine NX.gt ?_
              | refine NX.gf ?_
              | (refine NX.gs ?_ ?_ <;> intro hc <;> rw [hc] <;> ((try simp only [zn] at hc) <;> (try simp (disch := omega) only [zz hA, zb, zy, reduceCtorEq, Bool.false_eq_true, Int.reduceLT, Int.reduceLE, Int.reduceNeg] at hc) <;> (try simp only [zw] at hc)) <;> (try (exfalso; omega)))
              | (refine NX.kC ?_; first | (with_reducible refine NX.call (hr) ?_) | (with_reducible refine NX.call (hw) ?_) | (with_reducible refine NX.call (hd) ?_) | ((first | refine NX.call (hr) ?_ | refine NX.call (hw) ?_ | refine NX.call (hd) ?_)) | fail)
              | (refine NX.kO ?_; (first | refine NX.callO (hr) (by simp [allEq]) rfl ?_ | refine NX.callO (hw) (by simp [allEq]) rfl ?_ | refine NX.callO (hd) (by simp [allEq]) rfl ?_))
              | ((first | (refine NX.k 10 ?_; first | refine NX.one (One.lenOwnM hA tabOk rfl rfl rfl rfl) ?_)) <;> (first | refine AOLg.pass ?_ | (((try simp only [zn]) <;> (try simp (disch := omega) only [zz hA, zb, zy, reduceCtorEq, Bool.false_eq_true, Int.reduceLT, Int.reduceLE, Int.reduceNeg]) <;> (try simp only [zw])) <;> omega)))
              | refine NX.raw ?_)
          | refine Thn.exit ?_
          | refine Blk.here ?_
          | refine Blk.other (by decide) ?_
          | refine ⟨.inl rfl, _, RetOk.ev tabOk (by conv => lhs; cbv), ?_⟩
          | fail)
        refine rPV_then (by conv => lhs; cbv) ?_
        rw [ho]; simp [hid_eq hA]
  · rw [decide_eq_false hl] at ho
    try first | refine AOLg.of [] ?_ | refine QSg.of [] ?_
    repeat' (first
      | (refine AWp.pass ?_; first
          | refine AWp.seq ?_
          | refine AWp.block ?_
          | refine AWp.skip ?_
          | refine AWp.regG [] (by conv => lhs; cbv) ?_
          | refine AWp.cond_t rfl ?_
          | refine AWp.cond_f rfl ?_
          | (refine AWp.cond rfl ?_ ?_ <;> intro hc <;> (try rw [hc]) <;> ((try simp only [zn] at hc) <;> (try simp (disch := omega) only [zz hA, zb, zy, reduceCtorEq, Bool.false_eq_true, Int.reduceLT, Int.reduceLE, Int.reduceNeg] at hc) <;> (try simp only [zw] at hc)) <;> (try (exfalso; omega)))
          | refine AWp.exit ?_
          | refine AWp.ret ⟨.inr rfl, _, RetOk.ev tabOk (by conv => lhs; cbv), ?_⟩)
      | (refine AOLg.pass ?_; refine AOLg.nx hA tabOk (by conv => lhs; cbv) ?_; first
          | refine NX.done ?_
          | refine NX.gt ?_
          | refine NX.gf ?_
          | (refine NX.gs ?_ ?_ <;> intro hc <;> rw [hc] <;> ((try simp only [zn] at hc) <;> (try simp (disch := omega) only [zz hA, zb, zy, reduceCtorEq, Bool.false_eq_true, Int.reduceLT, Int.reduceLE, Int.reduceNeg] at hc) <;> (try simp only [zw] at hc)) <;> (try (exfalso; omega)))
          | ((first | (refine NX.k 10 ?_; first | refine NX.one (One.lenOwnM hA tabOk rfl rfl rfl rfl) ?_)) <;> (first | refine AOLg.pass ?_ | (((try simp only [zn]) <;> (try simp (disch := omega) only [zz hA, zb, zy, reduceCtorEq, Bool.false_eq_true, Int.reduceLT, Int.reduceLE, Int.reduceNeg]) <;> (try simp only [zw])) <;> omega)))
          | refine NX.raw ?_)
      | refine Thn.exit ?_
      | refine Blk.here ?_
      | refine Blk.other (by decide) ?_
      | refine ⟨.inl rfl, _, RetOk.ev tabOk (by conv => lhs; cbv), ?_⟩
      | fail)
    refine rPV_then (by conv => lhs; cbv) ?_
    rw [ho, hid_eq hA]; rfl
end Go.Proofs.Ytgemcogfpkolfaa.Aw

/- Laws SideTells, SideVars, SideUnknown. -/
set_option linter.unusedVariables false
set_option linter.unusedSimpArgs false
set_option linter.unusedSectionVars false
namespace Go.Proofs.Ytgemcogfpkolfaa.Aw
open Go Go.RowKit
set_option maxRecDepth 10000
attribute [local irreducible] AWp AOL QS One AOLg QSg NX QX TRg TX AllO Fin3
variable {A : Ar} (hA : A = real)
include hA
end Go.Proofs.Ytgemcogfpkolfaa.Aw

/- The arguments of the statements of side out of the row's data; the laws over them. -/
set_option linter.unusedVariables false
set_option linter.unusedSectionVars false
namespace Go.Proofs.Ytgemcogfpkolfaa.Aw
open Go Go.RowKit
theorem decSg {rows : List (List IC)} (h : ∀ r ∈ rows, Dec (.st [.str, .str]) r) : ∃ l : List Sg, rows = hid real (List.map (encG real) l) ∧ FitG l := by
  induction rows with
  | nil => exact ⟨[], rfl, by simp [FitG]⟩
  | cons r rs ih =>
    obtain ⟨l, hl, hb⟩ := ih fun x hx => h x (List.mem_cons_of_mem _ hx)
    obtain ⟨a1, b1, rfl, ⟨n, rfl, hn⟩, a2, b2, rfl, ⟨g, rfl, hg⟩, rfl⟩ := h r List.mem_cons_self
    refine ⟨(n, g) :: l, by rw [hl]; rfl, fun x hx => ?_⟩
    rcases List.mem_cons.1 hx with rfl | hx
    · exact ⟨by show n.size ≤ _; omega, by show g.size ≤ _; omega⟩
    · exact hb x hx
theorem decNd {rows : List (List IC)} (h : ∀ r ∈ rows, Dec (.st [.int .i64, .str, .int .i64]) r) : ∃ l : List Nd, rows = hid real (List.map (encD real) l) ∧ FitD l := by
  induction rows with
  | nil => exact ⟨[], rfl, by simp [FitD]⟩
  | cons r rs ih =>
    obtain ⟨l, hl, hb⟩ := ih fun x hx => h x (List.mem_cons_of_mem _ hx)
    obtain ⟨a1, b1, rfl, ⟨k, rfl, _⟩, a2, b2, rfl, ⟨s, rfl, hs⟩, a3, b3, rfl, ⟨n, rfl, _⟩, rfl⟩ := h r List.mem_cons_self
    refine ⟨(k, s, n) :: l, by rw [hl]; rfl, fun x hx => ?_⟩
    rcases List.mem_cons.1 hx with rfl | hx
    · show s.size ≤ _; omega
    · exact hb x hx
variable {A : Ar} (hA : A = real)
include hA
end Go.Proofs.Ytgemcogfpkolfaa.Aw

/- Laws SideVars, SideUnknown. -/
set_option linter.unusedVariables false
set_option linter.unusedSimpArgs false
set_option linter.unusedSectionVars false
namespace Go.Proofs.Ytgemcogfpkolfaa.Aw
open Go Go.RowKit
set_option maxRecDepth 10000
attribute [local irreducible] AWp AOL QS One AOLg QSg NX QX TRg TX AllO Fin3
def inN (E : List Nd) (s : ByteArray) : Nat → Bool
  | 0 => false
  | i + 1 => inN E s i || (decide (ndK (E.getD i default) = 2) && eqS (ndS (E.getD i default)) s)
def hasT (T : List ByteArray) (s : ByteArray) : Nat → Nat
  | 0 => 0
  | i + 1 => hasT T s i + (if eqS (T.getD i default) s = true then 1 else 0)
/-- What may not be is at a place, or there is nothing. -/
theorem check_cases (l : List Sg) (E : List Nd) (L : List Int) : (checkA l E L = 0 ∧ checkW l E L = 0 ∧ ∀ j, j < E.length → wAt l E L j = 0) ∨ ∃ n, n < E.length ∧ checkA l E L = n ∧ checkW l E L = wAt l E L n ∧ wAt l E L n ≠ 0 ∧ ∀ j, j < n → wAt l E L j = 0 := by
  rcases idxB_cases E.length (fun i => decide (wAt l E L i ≠ 0)) with ⟨h1, h2⟩ | ⟨n, hn, h1, h2, h3⟩
  · left
    have h4 : ∀ j, j < E.length → wAt l E L j = 0 := fun j hj => by have := of_decide_eq_false (h2 j hj); omega
    obtain ⟨e1, e2⟩ := check_ok h4
    exact ⟨e1, e2, h4⟩
  · right
    have h4 : ∀ j, j < n → wAt l E L j = 0 := fun j hj => by have := of_decide_eq_false (h3 j hj); omega
    have h5 : wAt l E L n ≠ 0 := of_decide_eq_true h2
    obtain ⟨e1, e2⟩ := check_at hn h4 h5
    exact ⟨n, hn, e1, e2, h5, h4⟩
variable {A : Ar} (hA : A = real)
include hA
end Go.Proofs.Ytgemcogfpkolfaa.Aw
