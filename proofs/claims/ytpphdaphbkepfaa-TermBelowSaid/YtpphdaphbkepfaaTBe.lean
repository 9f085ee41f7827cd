/- Texts of the proof, put together: the abstract walk, contracts of the functions that the statement reaches, plain laws, part 5 of 5. -/
import Derived.Test.YtpphdaphbkepfaaTBd
/- Contract of slices.Reverse on a row of the call's own. -/
set_option linter.unusedVariables false
set_option linter.unusedSimpArgs false
namespace Go.Proofs.Ytpphdaphbkepfaa.Aw
open Go Go.RowKit
set_option maxRecDepth 10000
/-- A call that turns the store in a known way. -/
theorem One.scallT {r : Option Nat} {P : Program} {ops : Array Oper} {i : Nat} {s0 : St} {x : Operand} {args : Array Operand} {ts : Array TypeId} {f : FuncId} {first cap : List AV} {y : AV} {st1 : List AObj} (h : opAt ops i s0 = some (.call { callee := .value x, args := args, argTypes := ts })) (hf : s0.ev x = .fn (.func f) first cap)
    (hc : ACalls P f (first ++ args.toList.map s0.ev ++ cap) s0.st (fun x st' => x = y ∧ st' = st1)) : One r P ops i s0 y st1 := fun rest Q k => by
  refine AOL.scall h hf hc ?_
  rintro x st' ⟨rfl, rfl⟩
  exact k
attribute [local irreducible] AWp AOL QS One AOLg QSg NX QX TRg TX AllO Fin3
def revI (l : List Int) (i : Nat) : List Int := (List.range l.length).map fun p => if p < i ∨ l.length ≤ p + i then l.getD (l.length - 1 - p) default else l.getD p default
theorem revI_len (l : List Int) (i : Nat) : (revI l i).length = l.length := by simp [revI]
theorem revI_get (l : List Int) (i p : Nat) (hp : p < l.length) : (revI l i).getD p default = if p < i ∨ l.length ≤ p + i then l.getD (l.length - 1 - p) default else l.getD p default := by
  rw [List.getD_eq_getElem?_getD]
  simp only [revI, List.getElem?_map, List.getElem?_range hp, Option.map_some, Option.getD_some]
theorem list_ext {a b : List Int} (hl : a.length = b.length) (h : ∀ p, p < a.length → a.getD p default = b.getD p default) : a = b := by
  refine List.ext_getElem hl fun p h1 h2 => ?_
  have := h p h1
  simpa [List.getD_eq_getElem?_getD, h1, h2] using this
theorem set_getD (l : List Int) (r : Nat) (v : Int) (p : Nat) (hp : p < l.length) : (l.set r v).getD p default = if p = r then v else l.getD p default := by
  simp only [List.getD_eq_getElem?_getD, List.getElem?_set]
  by_cases h : p = r
  · subst h; simp [hp]
  · simp [h, Ne.symm h]
theorem revI_zero (l : List Int) : revI l 0 = l := list_ext (revI_len l 0) fun p hp => by
  rw [revI_len] at hp
  rw [revI_get l 0 p hp, if_neg (by omega)]
theorem revI_step (l : List Int) (i : Nat) (h : 2 * i + 1 < l.length) : ((revI l i).set i ((revI l i).getD (l.length - 1 - i) default)).set (l.length - 1 - i) ((revI l i).getD i default) = revI l (i + 1) := by
  refine list_ext (by simp [revI_len]) fun p hp => ?_
  simp only [List.length_set, revI_len] at hp
  rw [set_getD _ _ _ _ (by simp [revI_len]; omega), set_getD _ _ _ _ (by simp [revI_len]; omega), revI_get _ _ _ hp, revI_get _ _ _ hp, revI_get _ _ _ (by omega), revI_get _ _ _ (by omega)]
  by_cases h1 : p = l.length - 1 - i
  · rw [if_pos h1, if_neg (by omega), if_pos (by omega)]
    congr 1; omega
  · rw [if_neg h1]
    by_cases h2 : p = i
    · subst h2
      rw [if_pos rfl, if_neg (by omega), if_pos (by omega)]
    · rw [if_neg h2]
      by_cases h3 : p < i ∨ l.length ≤ p + i
      · rw [if_pos h3, if_pos (by omega)]
      · rw [if_neg h3, if_neg (by omega)]
theorem revI_all (l : List Int) (i : Nat) (h : l.length ≤ 2 * i + 1) : revI l i = l.reverse := by
  refine list_ext (by simp [revI_len]) fun p hp => ?_
  rw [revI_len] at hp
  rw [revI_get _ _ _ hp]
  have e : l.reverse.getD p default = l.getD (l.length - 1 - p) default := by
    rw [List.getD_eq_getElem?_getD, List.getElem?_reverse hp, ← List.getD_eq_getElem?_getD]
  rw [e]
  by_cases h3 : p < i ∨ l.length ≤ p + i
  · rw [if_pos h3]
  · rw [if_neg h3]; congr 1; omega
variable {A : Ar} (hA : A = real)
include hA
set_option maxHeartbeats 4000000 in
theorem reverse_c (l : List Int) (ver : Nat) (q0 q1 : AObj) (hl : l.length ≤ 1000000) : ACalls Try.prog 51 [.own 2 ver] [q0, q1, .row true ver 3 1 (hid A (List.map encI l))] (fun x s' => x = .tup [] ∧ s' = [q0, q1, .row true ver 3 1 (hid A (List.map encI l.reverse))]) := by
  refine ACalls.of Try.func51 rfl (by kernel_rfl) rfl ?_
  try first | refine AOLg.of [] ?_ | refine QSg.of [] ?_
  repeat' (first
    | (refine AWp.pass ?_; first
        | refine AWp.seq ?_
        | refine AWp.block ?_
        | refine AWp.skip ?_
        | refine AWp.regG [] (by conv => lhs; cbv) ?_
        | refine AWp.cond_t rfl ?_
        | refine AWp.cond_f rfl ?_
        | (refine AWp.cond rfl ?_ ?_ <;> intro hc <;> (try rw [hc]) <;> ((try simp only [zn] at hc) <;> (try simp (disch := omega) only [zz hA, zb, zy, reduceCtorEq, Bool.false_eq_true, Int.reduceLT, Int.reduceLE, Int.reduceNeg] at hc) <;> (try simp only [zw] at hc)) <;> (try (exfalso; omega)))
        | refine AWp.exit ?_
        | refine AWp.ret ⟨.inr rfl, _, RetOk.ev tabOk (by conv => lhs; cbv), ?_⟩
        | refine AWp.drawVG [] rfl (by decide +kernel) (by conv => lhs; cbv) ?_)
    | (refine AOLg.pass ?_; refine AOLg.nx hA tabOk (by conv => lhs; cbv) ?_; first
        | refine NX.done ?_
        | refine NX.gt ?_
        | refine NX.gf ?_
        | (refine NX.gs ?_ ?_ <;> intro hc <;> rw [hc] <;> ((try simp only [zn] at hc) <;> (try simp (disch := omega) only [zz hA, zb, zy, reduceCtorEq, Bool.false_eq_true, Int.reduceLT, Int.reduceLE, Int.reduceNeg] at hc) <;> (try simp only [zw] at hc)) <;> (try (exfalso; omega)))
        | ((first | (refine NX.k 1 ?_; first | refine NX.one (One.elemM hA tabOk rfl rfl rfl rfl ?_ ?_) ?_ | refine NX.one (One.elemOwnM hA tabOk rfl rfl rfl rfl rfl ?_ ?_) ?_) | (refine NX.k 7 ?_; first | refine NX.one (One.concatM hA rfl rfl rfl ?_) ?_) | (refine NX.k 10 ?_; first | refine NX.one (One.lenOwnM hA tabOk rfl rfl rfl rfl) ?_) | (refine NX.k 14 ?_; first | refine NX.one (One.loadRatM hA tabOk rfl rfl rfl rfl rfl rfl ?_) ?_) | (refine NX.k 15 ?_; first | refine NX.one (One.storeRatM hA tabOk _ rfl rfl rfl rfl rfl rfl rfl rfl (fun _ => rfl) ?_) ?_)) <;> (first | refine AOLg.pass ?_ | (((try simp only [zn]) <;> (try simp (disch := omega) only [zz hA, zb, zy, reduceCtorEq, Bool.false_eq_true, Int.reduceLT, Int.reduceLE, Int.reduceNeg]) <;> (try simp only [zw])) <;> omega)))
        | refine NX.raw ?_)
    | (refine TRg.pass ?_; refine TRg.nx hA tabOk (by conv => lhs; cbv) ?_; first
        | refine TX.done ?_
        | refine TX.gt ?_
        | refine TX.gf ?_
        | (refine TX.gs ?_ ?_ <;> intro hc <;> rw [hc] <;> ((try simp only [zn] at hc) <;> (try simp (disch := omega) only [zz hA, zb, zy, reduceCtorEq, Bool.false_eq_true, Int.reduceLT, Int.reduceLE, Int.reduceNeg] at hc) <;> (try simp only [zw] at hc)) <;> (try (exfalso; omega)))
        | ((first | (refine TX.k 1 ?_; first | refine TX.one (One.elemM hA tabOk rfl rfl rfl rfl ?_ ?_) ?_ | refine TX.one (One.elemOwnM hA tabOk rfl rfl rfl rfl rfl ?_ ?_) ?_) | (refine TX.k 7 ?_; first | refine TX.one (One.concatM hA rfl rfl rfl ?_) ?_) | (refine TX.k 10 ?_; first | refine TX.one (One.lenOwnM hA tabOk rfl rfl rfl rfl) ?_) | (refine TX.k 14 ?_; first | refine TX.one (One.loadRatM hA tabOk rfl rfl rfl rfl rfl rfl ?_) ?_) | (refine TX.k 15 ?_; first | refine TX.one (One.storeRatM hA tabOk _ rfl rfl rfl rfl rfl rfl rfl rfl (fun _ => rfl) ?_) ?_)) <;> (first | refine TRg.pass ?_ | (((try simp only [zn]) <;> (try simp (disch := omega) only [zz hA, zb, zy, reduceCtorEq, Bool.false_eq_true, Int.reduceLT, Int.reduceLE, Int.reduceNeg]) <;> (try simp only [zw])) <;> omega)))
        | refine TX.raw ?_)
    | refine Fin3.of (by conv => lhs; cbv) (by repeat' (first | exact True.intro | exact rfl | refine And.intro ?_ ?_)) ?_ ?_
    | (refine AllO.pass ?_; first
        | exact AllO.nil
        | (refine AllO.cons (One.ev hA tabOk ?_) ?_ <;> (first | refine AllO.pass ?_ | ((conv => lhs; cbv); done)))
        | (refine AllO.cons (One.skipB ?_) ?_ <;> (first | refine AllO.pass ?_ | ((conv => lhs; cbv); done)))
        | ((first | refine AllO.consX (One.elemM hA tabOk rfl rfl rfl rfl ?_ ?_) rfl rfl ?_ | refine AllO.consX (One.concatM hA rfl rfl rfl ?_) rfl rfl ?_ | refine AllO.consX (One.lenOwnM hA tabOk rfl rfl rfl rfl) rfl rfl ?_ | refine AllO.consX (One.elemOwnM hA tabOk rfl rfl rfl rfl rfl ?_ ?_) rfl rfl ?_ | refine AllO.consX (One.loadRatM hA tabOk rfl rfl rfl rfl rfl rfl ?_) rfl rfl ?_) <;> (first | refine AllO.pass ?_ | (((try simp only [zn]) <;> (try simp (disch := omega) only [zz hA, zb, zy, reduceCtorEq, Bool.false_eq_true, Int.reduceLT, Int.reduceLE, Int.reduceNeg]) <;> (try simp only [zw])) <;> omega))))
    | refine Thn.exit ?_
    | refine Blk.here ?_
    | refine Blk.other (by decide) ?_
    | refine ⟨.inl rfl, _, RetOk.ev tabOk (by conv => lhs; cbv), ?_⟩
    | fail)
  refine AWp.loopU (fun i : Nat => [(2, .ic (.lit (.int .i64 (hid A (cN i))))), (3, .ic (.lit (.int .i64 (hid A ((l.length : Int) - 1 - cN i)))))]) (fun i => [q0, q1, .row true ver 3 1 (hid A (List.map encI (revI l i)))]) (fun i => l.length - 2 * i) (fun i => 2 * i ≤ l.length + 1) 0 (by conv => lhs; cbv) (by omega) (by
    refine .int rfl ?_ (.int rfl ?_ .nil) 
    all_goals (first | done | (((try simp only [zn]) <;> (try simp (disch := omega) only [zz hA, zb, zy, reduceCtorEq, Bool.false_eq_true, Int.reduceLT, Int.reduceLE, Int.reduceNeg]) <;> (try simp only [zw])) <;> omega))) (by simp only [revI_zero]) ?_
  intro i hi
  have hrl := revI_len l i
  by_cases hlt : 2 * i + 1 < l.length
  · have hst := revI_step l i hlt
    have hj : ((l.length : Int) - 1 - i).toNat = l.length - 1 - i := by omega
    generalize revI l i = r at *
    try first | refine AOLg.of [] ?_ | refine QSg.of [] ?_
    repeat' (first
      | (refine AWp.pass ?_; first
          | refine AWp.seq ?_
          | refine AWp.block ?_
          | refine AWp.skip ?_
          | refine AWp.regG [] (by conv => lhs; cbv) ?_
          | refine AWp.cond_t rfl ?_
          | refine AWp.cond_f rfl ?_
          | (refine AWp.cond rfl ?_ ?_ <;> intro hc <;> (try rw [hc]) <;> ((try simp only [zn] at hc) <;> (try simp (disch := omega) only [zz hA, zb, zy, reduceCtorEq, Bool.false_eq_true, Int.reduceLT, Int.reduceLE, Int.reduceNeg] at hc) <;> (try simp only [zw] at hc)) <;> (try (exfalso; omega)))
          | refine AWp.exit ?_
          | refine AWp.ret ⟨.inr rfl, _, RetOk.ev tabOk (by conv => lhs; cbv), ?_⟩
          | refine AWp.drawVG [] rfl (by decide +kernel) (by conv => lhs; cbv) ?_)
      | (refine AOLg.pass ?_; refine AOLg.nx hA tabOk (by conv => lhs; cbv) ?_; first
          | refine NX.done ?_
          | refine NX.gt ?_
          | refine NX.gf ?_
          | (refine NX.gs ?_ ?_ <;> intro hc <;> rw [hc] <;> ((try simp only [zn] at hc) <;> (try simp (disch := omega) only [zz hA, zb, zy, reduceCtorEq, Bool.false_eq_true, Int.reduceLT, Int.reduceLE, Int.reduceNeg] at hc) <;> (try simp only [zw] at hc)) <;> (try (exfalso; omega)))
          | ((first | (refine NX.k 1 ?_; first | refine NX.one (One.elemM hA tabOk rfl rfl rfl rfl ?_ ?_) ?_ | refine NX.one (One.elemOwnM hA tabOk rfl rfl rfl rfl rfl ?_ ?_) ?_) | (refine NX.k 7 ?_; first | refine NX.one (One.concatM hA rfl rfl rfl ?_) ?_) | (refine NX.k 10 ?_; first | refine NX.one (One.lenOwnM hA tabOk rfl rfl rfl rfl) ?_) | (refine NX.k 14 ?_; first | refine NX.one (One.loadRatM hA tabOk rfl rfl rfl rfl rfl rfl ?_) ?_) | (refine NX.k 15 ?_; first | refine NX.one (One.storeRatM hA tabOk _ rfl rfl rfl rfl rfl rfl rfl rfl (fun _ => rfl) ?_) ?_)) <;> (first | refine AOLg.pass ?_ | (((try simp only [zn]) <;> (try simp (disch := omega) only [zz hA, zb, zy, reduceCtorEq, Bool.false_eq_true, Int.reduceLT, Int.reduceLE, Int.reduceNeg]) <;> (try simp only [zw])) <;> omega)))
          | refine NX.raw ?_)
      | (refine TRg.pass ?_; refine TRg.nx hA tabOk (by conv => lhs; cbv) ?_; first
          | refine TX.done ?_
          | refine TX.gt ?_
          | refine TX.gf ?_
          | (refine TX.gs ?_ ?_ <;> intro hc <;> rw [hc] <;> ((try simp only [zn] at hc) <;> (try simp (disch := omega) only [zz hA, zb, zy, reduceCtorEq, Bool.false_eq_true, Int.reduceLT, Int.reduceLE, Int.reduceNeg] at hc) <;> (try simp only [zw] at hc)) <;> (try (exfalso; omega)))
          | ((first | (refine TX.k 1 ?_; first | refine TX.one (One.elemM hA tabOk rfl rfl rfl rfl ?_ ?_) ?_ | refine TX.one (One.elemOwnM hA tabOk rfl rfl rfl rfl rfl ?_ ?_) ?_) | (refine TX.k 7 ?_; first | refine TX.one (One.concatM hA rfl rfl rfl ?_) ?_) | (refine TX.k 10 ?_; first | refine TX.one (One.lenOwnM hA tabOk rfl rfl rfl rfl) ?_) | (refine TX.k 14 ?_; first | refine TX.one (One.loadRatM hA tabOk rfl rfl rfl rfl rfl rfl ?_) ?_) | (refine TX.k 15 ?_; first | refine TX.one (One.storeRatM hA tabOk _ rfl rfl rfl rfl rfl rfl rfl rfl (fun _ => rfl) ?_) ?_)) <;> (first | refine TRg.pass ?_ | (((try simp only [zn]) <;> (try simp (disch := omega) only [zz hA, zb, zy, reduceCtorEq, Bool.false_eq_true, Int.reduceLT, Int.reduceLE, Int.reduceNeg]) <;> (try simp only [zw])) <;> omega)))
          | refine TX.raw ?_)
      | refine Fin3.of (by conv => lhs; cbv) (by repeat' (first | exact True.intro | exact rfl | refine And.intro ?_ ?_)) ?_ ?_
      | (refine AllO.pass ?_; first
          | exact AllO.nil
          | (refine AllO.cons (One.ev hA tabOk ?_) ?_ <;> (first | refine AllO.pass ?_ | ((conv => lhs; cbv); done)))
          | (refine AllO.cons (One.skipB ?_) ?_ <;> (first | refine AllO.pass ?_ | ((conv => lhs; cbv); done)))
          | ((first | refine AllO.consX (One.elemM hA tabOk rfl rfl rfl rfl ?_ ?_) rfl rfl ?_ | refine AllO.consX (One.concatM hA rfl rfl rfl ?_) rfl rfl ?_ | refine AllO.consX (One.lenOwnM hA tabOk rfl rfl rfl rfl) rfl rfl ?_ | refine AllO.consX (One.elemOwnM hA tabOk rfl rfl rfl rfl rfl ?_ ?_) rfl rfl ?_ | refine AllO.consX (One.loadRatM hA tabOk rfl rfl rfl rfl rfl rfl ?_) rfl rfl ?_) <;> (first | refine AllO.pass ?_ | (((try simp only [zn]) <;> (try simp (disch := omega) only [zz hA, zb, zy, reduceCtorEq, Bool.false_eq_true, Int.reduceLT, Int.reduceLE, Int.reduceNeg]) <;> (try simp only [zw])) <;> omega))))
      | refine Thn.exit ?_
      | refine Blk.here ?_
      | refine Blk.other (by decide) ?_
      | refine ⟨.inl rfl, _, RetOk.ev tabOk (by conv => lhs; cbv), ?_⟩
      | fail)
    all_goals try (first | done | (((try simp only [zn]) <;> (try simp (disch := omega) only [zz hA, zb, zy, reduceCtorEq, Bool.false_eq_true, Int.reduceLT, Int.reduceLE, Int.reduceNeg]) <;> (try simp only [zw])) <;> omega))
    refine ⟨i + 1, ?_, ?_, rfl, ?_, ?_, (by repeat' (first | exact subE.nil | refine subE.cons rfl ?_))⟩ <;> (try omega)
    · ((try simp only [zn]) <;> (try simp (disch := omega) only [zz hA, zb, zy, reduceCtorEq, Bool.false_eq_true, Int.reduceLT, Int.reduceLE, Int.reduceNeg, hj, hst]) <;> (try simp only [zw]))
    · refine subE.int rfl ?_ (subE.int rfl ?_ subE.nil)
      all_goals (((try simp only [zn]) <;> (try simp (disch := omega) only [zz hA, zb, zy, reduceCtorEq, Bool.false_eq_true, Int.reduceLT, Int.reduceLE, Int.reduceNeg]) <;> (try simp only [zw])) <;> omega)
  · have hall := revI_all l i (by omega)
    try first | refine AOLg.of [] ?_ | refine QSg.of [] ?_
    repeat' (first
      | (refine AWp.pass ?_; first
          | refine AWp.seq ?_
          | refine AWp.block ?_
          | refine AWp.skip ?_
          | refine AWp.regG [] (by conv => lhs; cbv) ?_
          | refine AWp.cond_t rfl ?_
          | refine AWp.cond_f rfl ?_
          | (refine AWp.cond rfl ?_ ?_ <;> intro hc <;> (try rw [hc]) <;> ((try simp only [zn] at hc) <;> (try simp (disch := omega) only [zz hA, zb, zy, reduceCtorEq, Bool.false_eq_true, Int.reduceLT, Int.reduceLE, Int.reduceNeg] at hc) <;> (try simp only [zw] at hc)) <;> (try (exfalso; omega)))
          | refine AWp.exit ?_
          | refine AWp.ret ⟨.inr rfl, _, RetOk.ev tabOk (by conv => lhs; cbv), ?_⟩
          | refine AWp.drawVG [] rfl (by decide +kernel) (by conv => lhs; cbv) ?_)
      | (refine AOLg.pass ?_; refine AOLg.nx hA tabOk (by conv => lhs; cbv) ?_; first
          | refine NX.done ?_
          | refine NX.gt ?_
          | refine NX.gf ?_
          | (refine NX.gs ?_ ?_ <;> intro hc <;> rw [hc] <;> ((try simp only [zn] at hc) <;> (try simp (disch := omega) only [zz hA, zb, zy, reduceCtorEq, Bool.false_eq_true, Int.reduceLT, Int.reduceLE, Int.reduceNeg] at hc) <;> (try simp only [zw] at hc)) <;> (try (exfalso; omega)))
          | ((first | (refine NX.k 1 ?_; first | refine NX.one (One.elemM hA tabOk rfl rfl rfl rfl ?_ ?_) ?_ | refine NX.one (One.elemOwnM hA tabOk rfl rfl rfl rfl rfl ?_ ?_) ?_) | (refine NX.k 7 ?_; first | refine NX.one (One.concatM hA rfl rfl rfl ?_) ?_) | (refine NX.k 10 ?_; first | refine NX.one (One.lenOwnM hA tabOk rfl rfl rfl rfl) ?_) | (refine NX.k 14 ?_; first | refine NX.one (One.loadRatM hA tabOk rfl rfl rfl rfl rfl rfl ?_) ?_) | (refine NX.k 15 ?_; first | refine NX.one (One.storeRatM hA tabOk _ rfl rfl rfl rfl rfl rfl rfl rfl (fun _ => rfl) ?_) ?_)) <;> (first | refine AOLg.pass ?_ | (((try simp only [zn]) <;> (try simp (disch := omega) only [zz hA, zb, zy, reduceCtorEq, Bool.false_eq_true, Int.reduceLT, Int.reduceLE, Int.reduceNeg]) <;> (try simp only [zw])) <;> omega)))
          | refine NX.raw ?_)
      | (refine TRg.pass ?_; refine TRg.nx hA tabOk (by conv => lhs; cbv) ?_; first
          | refine TX.done ?_
          | refine TX.gt ?_
          | refine TX.gf ?_
          | (refine TX.gs ?_ ?_ <;> intro hc <;> rw [hc] <;> ((try simp only [zn] at hc) <;> (try simp (disch := omega) only [zz hA, zb, zy, reduceCtorEq, Bool.false_eq_true, Int.reduceLT, Int.reduceLE, Int.reduceNeg] at hc) <;> (try simp only [zw] at hc)) <;> (try (exfalso; omega)))
          | ((first | (refine TX.k 1 ?_; first | refine TX.one (One.elemM hA tabOk rfl rfl rfl rfl ?_ ?_) ?_ | refine TX.one (One.elemOwnM hA tabOk rfl rfl rfl rfl rfl ?_ ?_) ?_) | (refine TX.k 7 ?_; first | refine TX.one (One.concatM hA rfl rfl rfl ?_) ?_) | (refine TX.k 10 ?_; first | refine TX.one (One.lenOwnM hA tabOk rfl rfl rfl rfl) ?_) | (refine TX.k 14 ?_; first | refine TX.one (One.loadRatM hA tabOk rfl rfl rfl rfl rfl rfl ?_) ?_) | (refine TX.k 15 ?_; first | refine TX.one (One.storeRatM hA tabOk _ rfl rfl rfl rfl rfl rfl rfl rfl (fun _ => rfl) ?_) ?_)) <;> (first | refine TRg.pass ?_ | (((try simp only [zn]) <;> (try simp (disch := omega) only [zz hA, zb, zy, reduceCtorEq, Bool.false_eq_true, Int.reduceLT, Int.reduceLE, Int.reduceNeg]) <;> (try simp only [zw])) <;> omega)))
          | refine TX.raw ?_)
      | refine Fin3.of (by conv => lhs; cbv) (by repeat' (first | exact True.intro | exact rfl | refine And.intro ?_ ?_)) ?_ ?_
      | (refine AllO.pass ?_; first
          | exact AllO.nil
          | (refine AllO.cons (One.ev hA tabOk ?_) ?_ <;> (first | refine AllO.pass ?_ | ((conv => lhs; cbv); done)))
          | (refine AllO.cons (One.skipB ?_) ?_ <;> (first | refine AllO.pass ?_ | ((conv => lhs; cbv); done)))
          | ((first | refine AllO.consX (One.elemM hA tabOk rfl rfl rfl rfl ?_ ?_) rfl rfl ?_ | refine AllO.consX (One.concatM hA rfl rfl rfl ?_) rfl rfl ?_ | refine AllO.consX (One.lenOwnM hA tabOk rfl rfl rfl rfl) rfl rfl ?_ | refine AllO.consX (One.elemOwnM hA tabOk rfl rfl rfl rfl rfl ?_ ?_) rfl rfl ?_ | refine AllO.consX (One.loadRatM hA tabOk rfl rfl rfl rfl rfl rfl ?_) rfl rfl ?_) <;> (first | refine AllO.pass ?_ | (((try simp only [zn]) <;> (try simp (disch := omega) only [zz hA, zb, zy, reduceCtorEq, Bool.false_eq_true, Int.reduceLT, Int.reduceLE, Int.reduceNeg]) <;> (try simp only [zw])) <;> omega))))
      | refine Thn.exit ?_
      | refine Blk.here ?_
      | refine Blk.other (by decide) ?_
      | refine ⟨.inl rfl, _, RetOk.ev tabOk (by conv => lhs; cbv), ?_⟩
      | fail)
    all_goals try (first | done | (((try simp only [zn]) <;> (try simp (disch := omega) only [zz hA, zb, zy, reduceCtorEq, Bool.false_eq_true, Int.reduceLT, Int.reduceLE, Int.reduceNeg]) <;> (try simp only [zw])) <;> omega))
    exact ⟨rfl, by rw [hall]⟩
end Go.Proofs.Ytpphdaphbkepfaa.Aw

/- Contracts of package term, part 6: Right. -/
set_option linter.unusedVariables false
set_option linter.unusedSimpArgs false
namespace Go.Proofs.Ytpphdaphbkepfaa.Aw
open Go Go.RowKit
set_option maxRecDepth 10000
attribute [local irreducible] AWp AOL QS One AOLg QSg NX QX TRg TX AllO Fin3
variable {A : Ar} (hA : A = real)
include hA
set_option maxHeartbeats 4000000 in
theorem tRight_c (l : List Sg) (K : List (List Int)) (S : List Int) (hl : l.length ≤ 1000000) (hsz : FitG l) (hK : K.length ≤ 900000) (hk : ∀ x ∈ K, x.length ≤ 1000000) (hS : S.length ≤ 100000000) :
    PureCalls Try.prog 47 [slP A 2 (encG A) l, keyedPV A K S] (BP (hid A (rightT l K S))) := by
  have hr := right_c hA K S hK hk hS
  by_cases h1 : K.Nodup ∧ S = layM K
  · rw [decide_eq_true h1, hid_eq hA (α := Bool)] at hr
    by_cases h2 : 2 ≤ K.length
    · have hrt : rightT l K S = allB K.length fun i => keyOk l i (K.getD i default) := by unfold rightT; rw [decide_eq_true h1, decide_eq_true h2]; rfl
      refine PureCalls.of Try.func47 rfl (by kernel_rfl) rfl ?_
      try first | refine AOLg.of [] ?_ | refine QSg.of [] ?_
      repeat' (first
        | (refine AWp.pass ?_; first
            | refine AWp.seq ?_
            | refine AWp.block ?_
            | refine AWp.skip ?_
            | refine AWp.regG [] (by conv => lhs; cbv) ?_
            | refine AWp.cond_t rfl ?_
            | refine AWp.cond_f rfl ?_
            | (refine AWp.cond rfl ?_ ?_ <;> intro hc <;> (try rw [hc]) <;> ((try simp only [zn] at hc) <;> (try simp (disch := omega) only [zz hA, zb, zy, reduceCtorEq, Bool.false_eq_true, Int.reduceLT, Int.reduceLE, Int.reduceNeg] at hc) <;> (try simp only [zw] at hc)) <;> (try (exfalso; omega)))
            | refine AWp.exit ?_
            | refine AWp.ret ⟨.inr rfl, _, RetOk.ev tabOk (by conv => lhs; cbv), ?_⟩)
        | (refine AOLg.pass ?_; refine AOLg.nx hA tabOk (by conv => lhs; cbv) ?_; first
            | refine NX.done ?_
            | refine NX.gt ?_
            | refine NX.gf ?_
            | (refine NX.gs ?_ ?_ <;> intro hc <;> rw [hc] <;> ((try simp only [zn] at hc) <;> (try simp (disch := omega) only [zz hA, zb, zy, reduceCtorEq, Bool.false_eq_true, Int.reduceLT, Int.reduceLE, Int.reduceNeg] at hc) <;> (try simp only [zw] at hc)) <;> (try (exfalso; omega)))
            | (refine NX.kC ?_; first | (with_reducible refine NX.call (hr) ?_) | ((first | refine NX.call (hr) ?_)) | fail)
            | (refine NX.kO ?_; (first | refine NX.callO (hr) (by simp [allEq]) rfl ?_))
            | ((first | (refine NX.k 1 ?_; first | refine NX.one (One.elemM hA tabOk rfl rfl rfl rfl ?_ ?_) ?_ | refine NX.one (One.elemOwnM hA tabOk rfl rfl rfl rfl rfl ?_ ?_) ?_) | (refine NX.k 7 ?_; first | refine NX.one (One.concatM hA rfl rfl rfl ?_) ?_) | (refine NX.k 9 ?_; first | refine NX.one (One.neBoolM hA tabOk rfl rfl rfl rfl rfl) ?_) | (refine NX.k 10 ?_; first | refine NX.one (One.lenOwnM hA tabOk rfl rfl rfl rfl) ?_) | (refine NX.k 14 ?_; first | refine NX.one (One.loadRatM hA tabOk rfl rfl rfl rfl rfl rfl ?_) ?_) | (refine NX.k 15 ?_; first | refine NX.one (One.storeRatM hA tabOk _ rfl rfl rfl rfl rfl rfl rfl rfl (fun _ => rfl) ?_) ?_) | (refine NX.k 18 ?_; first | refine NX.one (One.fieldRat tabOk rfl rfl rfl rfl (by decide) rfl rfl) ?_)) <;> (first | refine AOLg.pass ?_ | (((try simp only [zn]) <;> (try simp (disch := omega) only [zz hA, zb, zy, reduceCtorEq, Bool.false_eq_true, Int.reduceLT, Int.reduceLE, Int.reduceNeg]) <;> (try simp only [zw])) <;> omega)))
            | refine NX.raw ?_)
        | refine Thn.exit ?_
        | refine Blk.here ?_
        | refine Blk.other (by decide) ?_
        | refine ⟨.inl rfl, _, RetOk.ev tabOk (by conv => lhs; cbv), ?_⟩
        | fail)
      refine AWp.loopT 1 (fun i : Nat => [(21, .ic (.lit (.int .i64 (hid A (cN i)))))]) (fun _ => [.var true 25 [.ic (.sl 1 false (hid A (List.map (encK A) K))), .ic (.sl 1 false (hid A (List.map encI S)))]])
        (fun i => K.length - i) (fun i => i ≤ K.length ∧ ∀ j, j < i → keyOk l j (K.getD j default) = true) 0 (by conv => lhs; cbv) ⟨Nat.zero_le _, by simp⟩ (by (repeat' (first | exact subE.nil | refine subE.cons rfl ?_ | refine subE.int rfl ?_ ?_ | refine subE.bool rfl ?_ ?_ | refine subE.str rfl ?_ ?_ | refine subE.sl rfl ?_ ?_)) <;> simp [hA, real, hid, cN]) rfl (fun _ => rfl) (fun _ => rfl) ?_
      rintro i ⟨hi0, hok⟩
      simp only [] at hi0 ⊢
      by_cases hi : i < K.length
      · have hno : keyOk l i (K.getD i default) = false → rightT l K S = false := fun h => by rw [hrt, allB_f hi h]
        have hmem : K.getD i default ∈ K := by rw [List.getD_eq_getElem?_getD, List.getElem?_eq_getElem hi]; exact List.getElem_mem _
        have hkl := hk _ hmem
        by_cases h3 : 3 ≤ (K.getD i default).length
        · obtain ⟨k, s, p, a, hq⟩ := key_ex h3
          have hal : a.length + 3 = (K.getD i default).length := by rw [hq]; rfl
          have hof : ∀ q : List Int, q = K.getD i default → PureCalls Try.prog 55 [intsP A q] (.tup [tmP A k s p a, BP true]) := by
            rintro z rfl
            rw [hq]
            exact of_c1 hA k s p a (by omega)
          have hmay : ∀ z : Int, z = i → PureCalls Try.prog 54 [slP A 2 (encG A) l, IP z, tmP A k s p a] (BP (hid A (mayM l i k s p a))) := by
            rintro z rfl
            exact tmay_c hA l i k s p a (by omega) hl hsz
          have hkk := keyOk_T l i k s p a
          rw [← hq] at hkk
          rw [hkk] at hno
          try first | refine AOLg.of [] ?_ | refine QSg.of [] ?_
          repeat' (first
            | (refine AWp.pass ?_; first
                | refine AWp.seq ?_
                | refine AWp.block ?_
                | refine AWp.skip ?_
                | refine AWp.regG [] (by conv => lhs; cbv) ?_
                | refine AWp.cond_t rfl ?_
                | refine AWp.cond_f rfl ?_
                | (refine AWp.cond rfl ?_ ?_ <;> intro hc <;> (try rw [hc]) <;> ((try simp only [zn] at hc) <;> (try simp (disch := omega) only [zz hA, zb, zy, reduceCtorEq, Bool.false_eq_true, Int.reduceLT, Int.reduceLE, Int.reduceNeg] at hc) <;> (try simp only [zw] at hc)) <;> (try (exfalso; omega)))
                | refine AWp.exit ?_
                | refine AWp.ret ⟨.inr rfl, _, RetOk.ev tabOk (by conv => lhs; cbv), ?_⟩)
            | (refine AOLg.pass ?_; refine AOLg.nx hA tabOk (by conv => lhs; cbv) ?_; first
                | refine NX.done ?_
                | refine NX.gt ?_
                | refine NX.gf ?_
                | (refine NX.gs ?_ ?_ <;> intro hc <;> rw [hc] <;> ((try simp only [zn] at hc) <;> (try simp (disch := omega) only [zz hA, zb, zy, reduceCtorEq, Bool.false_eq_true, Int.reduceLT, Int.reduceLE, Int.reduceNeg] at hc) <;> (try simp only [zw] at hc)) <;> (try (exfalso; omega)))
                | (refine NX.kC ?_; first | (with_reducible refine NX.call (hof _ (by simp [hA, real, hid, cN])) ?_) | ((with_reducible refine NX.call (hmay _ ?_) ?_) <;> (first | refine AOLg.pass ?_ | (((try simp only [zn]) <;> (try simp (disch := omega) only [zz hA, zb, zy, reduceCtorEq, Bool.false_eq_true, Int.reduceLT, Int.reduceLE, Int.reduceNeg]) <;> (try simp only [zw])) <;> omega))) | ((first | refine NX.call (hof _ (by simp [hA, real, hid, cN])) ?_ | refine NX.call (hmay _ ?_) ?_) <;> (first | refine AOLg.pass ?_ | (((try simp only [zn]) <;> (try simp (disch := omega) only [zz hA, zb, zy, reduceCtorEq, Bool.false_eq_true, Int.reduceLT, Int.reduceLE, Int.reduceNeg]) <;> (try simp only [zw])) <;> omega))) | fail)
                | (refine NX.kO ?_; (first | refine NX.callO (hof _ (by simp [hA, real, hid, cN])) (by simp [allEq]) rfl ?_ | refine NX.callO (hmay _ ?_) (by simp [allEq]) rfl ?_) <;> (first | refine AOLg.pass ?_ | (((try simp only [zn]) <;> (try simp (disch := omega) only [zz hA, zb, zy, reduceCtorEq, Bool.false_eq_true, Int.reduceLT, Int.reduceLE, Int.reduceNeg]) <;> (try simp only [zw])) <;> omega)))
                | ((first | (refine NX.k 1 ?_; first | refine NX.one (One.elemM hA tabOk rfl rfl rfl rfl ?_ ?_) ?_ | refine NX.one (One.elemOwnM hA tabOk rfl rfl rfl rfl rfl ?_ ?_) ?_) | (refine NX.k 7 ?_; first | refine NX.one (One.concatM hA rfl rfl rfl ?_) ?_) | (refine NX.k 9 ?_; first | refine NX.one (One.neBoolM hA tabOk rfl rfl rfl rfl rfl) ?_) | (refine NX.k 10 ?_; first | refine NX.one (One.lenOwnM hA tabOk rfl rfl rfl rfl) ?_) | (refine NX.k 14 ?_; first | refine NX.one (One.loadRatM hA tabOk rfl rfl rfl rfl rfl rfl ?_) ?_) | (refine NX.k 15 ?_; first | refine NX.one (One.storeRatM hA tabOk _ rfl rfl rfl rfl rfl rfl rfl rfl (fun _ => rfl) ?_) ?_) | (refine NX.k 18 ?_; first | refine NX.one (One.fieldRat tabOk rfl rfl rfl rfl (by decide) rfl rfl) ?_)) <;> (first | refine AOLg.pass ?_ | (((try simp only [zn]) <;> (try simp (disch := omega) only [zz hA, zb, zy, reduceCtorEq, Bool.false_eq_true, Int.reduceLT, Int.reduceLE, Int.reduceNeg]) <;> (try simp only [zw])) <;> omega)))
                | refine NX.raw ?_)
            | refine Thn.exit ?_
            | refine Blk.here ?_
            | refine Blk.other (by decide) ?_
            | refine ⟨.inl rfl, _, RetOk.ev tabOk (by conv => lhs; cbv), ?_⟩
            | fail)
          all_goals first
            | (refine rPV_then (by conv => lhs; cbv) ?_
               rw [hno (by clear hno hrt hof hmay hr; simp_all <;> omega)]
               simp [hid_eq hA]; done)
            | skip
          all_goals
            refine ⟨i + 1, ⟨by omega, stepB hok (by rw [hkk]; clear hno hrt hof hmay hr; simp_all <;> omega)⟩, by omega, rfl, rfl, (by repeat' (first | exact trimOk.nil | refine trimOk.same ?_ | refine trimOk.turn rfl ?_)), rfl, rfl, ?_, (by repeat' (first | exact subE.nil | refine subE.cons rfl ?_))⟩
            exact .int rfl (by (((try simp only [zn]) <;> (try simp (disch := omega) only [zz hA, zb, zy, reduceCtorEq, Bool.false_eq_true, Int.reduceLT, Int.reduceLE, Int.reduceNeg]) <;> (try simp only [zw])) <;> omega)) .nil
        · have hof : ∀ q : List Int, q = K.getD i default → PureCalls Try.prog 55 [intsP A q] (.tup [.agg [.lit (.int .i64 0), .lit (.int .i64 0), .lit (.int .i64 0), .sl 0 true []], BP false]) := by
            rintro z rfl
            exact of_c0 hA _ (by omega)
          have hnn : rightT l K S = false := hno (by unfold keyOk; rw [decide_eq_false h3]; rfl)
          try first | refine AOLg.of [] ?_ | refine QSg.of [] ?_
          repeat' (first
            | (refine AWp.pass ?_; first
                | refine AWp.seq ?_
                | refine AWp.block ?_
                | refine AWp.skip ?_
                | refine AWp.regG [] (by conv => lhs; cbv) ?_
                | refine AWp.cond_t rfl ?_
                | refine AWp.cond_f rfl ?_
                | (refine AWp.cond rfl ?_ ?_ <;> intro hc <;> (try rw [hc]) <;> ((try simp only [zn] at hc) <;> (try simp (disch := omega) only [zz hA, zb, zy, reduceCtorEq, Bool.false_eq_true, Int.reduceLT, Int.reduceLE, Int.reduceNeg] at hc) <;> (try simp only [zw] at hc)) <;> (try (exfalso; omega)))
                | refine AWp.exit ?_
                | refine AWp.ret ⟨.inr rfl, _, RetOk.ev tabOk (by conv => lhs; cbv), ?_⟩)
            | (refine AOLg.pass ?_; refine AOLg.nx hA tabOk (by conv => lhs; cbv) ?_; first
                | refine NX.done ?_
                | refine NX.gt ?_
                | refine NX.gf ?_
                | (refine NX.gs ?_ ?_ <;> intro hc <;> rw [hc] <;> ((try simp only [zn] at hc) <;> (try simp (disch := omega) only [zz hA, zb, zy, reduceCtorEq, Bool.false_eq_true, Int.reduceLT, Int.reduceLE, Int.reduceNeg] at hc) <;> (try simp only [zw] at hc)) <;> (try (exfalso; omega)))
                | (refine NX.kC ?_; first | (with_reducible refine NX.call (hof _ (by simp [hA, real, hid, cN])) ?_) | ((first | refine NX.call (hof _ (by simp [hA, real, hid, cN])) ?_)) | fail)
                | (refine NX.kO ?_; (first | refine NX.callO (hof _ (by simp [hA, real, hid, cN])) (by simp [allEq]) rfl ?_))
                | ((first | (refine NX.k 1 ?_; first | refine NX.one (One.elemM hA tabOk rfl rfl rfl rfl ?_ ?_) ?_ | refine NX.one (One.elemOwnM hA tabOk rfl rfl rfl rfl rfl ?_ ?_) ?_) | (refine NX.k 7 ?_; first | refine NX.one (One.concatM hA rfl rfl rfl ?_) ?_) | (refine NX.k 9 ?_; first | refine NX.one (One.neBoolM hA tabOk rfl rfl rfl rfl rfl) ?_) | (refine NX.k 10 ?_; first | refine NX.one (One.lenOwnM hA tabOk rfl rfl rfl rfl) ?_) | (refine NX.k 14 ?_; first | refine NX.one (One.loadRatM hA tabOk rfl rfl rfl rfl rfl rfl ?_) ?_) | (refine NX.k 15 ?_; first | refine NX.one (One.storeRatM hA tabOk _ rfl rfl rfl rfl rfl rfl rfl rfl (fun _ => rfl) ?_) ?_) | (refine NX.k 18 ?_; first | refine NX.one (One.fieldRat tabOk rfl rfl rfl rfl (by decide) rfl rfl) ?_)) <;> (first | refine AOLg.pass ?_ | (((try simp only [zn]) <;> (try simp (disch := omega) only [zz hA, zb, zy, reduceCtorEq, Bool.false_eq_true, Int.reduceLT, Int.reduceLE, Int.reduceNeg]) <;> (try simp only [zw])) <;> omega)))
                | refine NX.raw ?_)
            | refine Thn.exit ?_
            | refine Blk.here ?_
            | refine Blk.other (by decide) ?_
            | refine ⟨.inl rfl, _, RetOk.ev tabOk (by conv => lhs; cbv), ?_⟩
            | fail)
          refine rPV_then (by conv => lhs; cbv) ?_
          rw [hnn, hid_eq hA]
      · have hyes : rightT l K S = true := by rw [hrt]; exact allB_t fun j hj => hok j (by omega)
        try first | refine AOLg.of [] ?_ | refine QSg.of [] ?_
        repeat' (first
          | (refine AWp.pass ?_; first
              | refine AWp.seq ?_
              | refine AWp.block ?_
              | refine AWp.skip ?_
              | refine AWp.regG [] (by conv => lhs; cbv) ?_
              | refine AWp.cond_t rfl ?_
              | refine AWp.cond_f rfl ?_
              | (refine AWp.cond rfl ?_ ?_ <;> intro hc <;> (try rw [hc]) <;> ((try simp only [zn] at hc) <;> (try simp (disch := omega) only [zz hA, zb, zy, reduceCtorEq, Bool.false_eq_true, Int.reduceLT, Int.reduceLE, Int.reduceNeg] at hc) <;> (try simp only [zw] at hc)) <;> (try (exfalso; omega)))
              | refine AWp.exit ?_
              | refine AWp.ret ⟨.inr rfl, _, RetOk.ev tabOk (by conv => lhs; cbv), ?_⟩)
          | (refine AOLg.pass ?_; refine AOLg.nx hA tabOk (by conv => lhs; cbv) ?_; first
              | refine NX.done ?_
              | refine NX.gt ?_
              | refine NX.gf ?_
              | (refine NX.gs ?_ ?_ <;> intro hc <;> rw [hc] <;> ((try simp only [zn] at hc) <;> (try simp (disch := omega) only [zz hA, zb, zy, reduceCtorEq, Bool.false_eq_true, Int.reduceLT, Int.reduceLE, Int.reduceNeg] at hc) <;> (try simp only [zw] at hc)) <;> (try (exfalso; omega)))
              | ((first | (refine NX.k 1 ?_; first | refine NX.one (One.elemM hA tabOk rfl rfl rfl rfl ?_ ?_) ?_ | refine NX.one (One.elemOwnM hA tabOk rfl rfl rfl rfl rfl ?_ ?_) ?_) | (refine NX.k 7 ?_; first | refine NX.one (One.concatM hA rfl rfl rfl ?_) ?_) | (refine NX.k 9 ?_; first | refine NX.one (One.neBoolM hA tabOk rfl rfl rfl rfl rfl) ?_) | (refine NX.k 10 ?_; first | refine NX.one (One.lenOwnM hA tabOk rfl rfl rfl rfl) ?_) | (refine NX.k 14 ?_; first | refine NX.one (One.loadRatM hA tabOk rfl rfl rfl rfl rfl rfl ?_) ?_) | (refine NX.k 15 ?_; first | refine NX.one (One.storeRatM hA tabOk _ rfl rfl rfl rfl rfl rfl rfl rfl (fun _ => rfl) ?_) ?_) | (refine NX.k 18 ?_; first | refine NX.one (One.fieldRat tabOk rfl rfl rfl rfl (by decide) rfl rfl) ?_)) <;> (first | refine AOLg.pass ?_ | (((try simp only [zn]) <;> (try simp (disch := omega) only [zz hA, zb, zy, reduceCtorEq, Bool.false_eq_true, Int.reduceLT, Int.reduceLE, Int.reduceNeg]) <;> (try simp only [zw])) <;> omega)))
              | refine NX.raw ?_)
          | refine Thn.exit ?_
          | refine Blk.here ?_
          | refine Blk.other (by decide) ?_
          | refine ⟨.inl rfl, _, RetOk.ev tabOk (by conv => lhs; cbv), ?_⟩
          | fail)
        refine rPV_then (by conv => lhs; cbv) ?_
        rw [hyes, hid_eq hA]
    · have hrt : rightT l K S = false := by unfold rightT; rw [decide_eq_false h2]; simp
      refine PureCalls.of Try.func47 rfl (by kernel_rfl) rfl ?_
      try first | refine AOLg.of [] ?_ | refine QSg.of [] ?_
      repeat' (first
        | (refine AWp.pass ?_; first
            | refine AWp.seq ?_
            | refine AWp.block ?_
            | refine AWp.skip ?_
            | refine AWp.regG [] (by conv => lhs; cbv) ?_
            | refine AWp.cond_t rfl ?_
            | refine AWp.cond_f rfl ?_
            | (refine AWp.cond rfl ?_ ?_ <;> intro hc <;> (try rw [hc]) <;> ((try simp only [zn] at hc) <;> (try simp (disch := omega) only [zz hA, zb, zy, reduceCtorEq, Bool.false_eq_true, Int.reduceLT, Int.reduceLE, Int.reduceNeg] at hc) <;> (try simp only [zw] at hc)) <;> (try (exfalso; omega)))
            | refine AWp.exit ?_
            | refine AWp.ret ⟨.inr rfl, _, RetOk.ev tabOk (by conv => lhs; cbv), ?_⟩)
        | (refine AOLg.pass ?_; refine AOLg.nx hA tabOk (by conv => lhs; cbv) ?_; first
            | refine NX.done ?_
            | refine NX.gt ?_
            | refine NX.gf ?_
            | (refine NX.gs ?_ ?_ <;> intro hc <;> rw [hc] <;> ((try simp only [zn] at hc) <;> (try simp (disch := omega) only [zz hA, zb, zy, reduceCtorEq, Bool.false_eq_true, Int.reduceLT, Int.reduceLE, Int.reduceNeg] at hc) <;> (try simp only [zw] at hc)) <;> (try (exfalso; omega)))
            | (refine NX.kC ?_; first | (with_reducible refine NX.call (hr) ?_) | ((first | refine NX.call (hr) ?_)) | fail)
            | (refine NX.kO ?_; (first | refine NX.callO (hr) (by simp [allEq]) rfl ?_))
            | ((first | (refine NX.k 1 ?_; first | refine NX.one (One.elemM hA tabOk rfl rfl rfl rfl ?_ ?_) ?_ | refine NX.one (One.elemOwnM hA tabOk rfl rfl rfl rfl rfl ?_ ?_) ?_) | (refine NX.k 7 ?_; first | refine NX.one (One.concatM hA rfl rfl rfl ?_) ?_) | (refine NX.k 9 ?_; first | refine NX.one (One.neBoolM hA tabOk rfl rfl rfl rfl rfl) ?_) | (refine NX.k 10 ?_; first | refine NX.one (One.lenOwnM hA tabOk rfl rfl rfl rfl) ?_) | (refine NX.k 14 ?_; first | refine NX.one (One.loadRatM hA tabOk rfl rfl rfl rfl rfl rfl ?_) ?_) | (refine NX.k 15 ?_; first | refine NX.one (One.storeRatM hA tabOk _ rfl rfl rfl rfl rfl rfl rfl rfl (fun _ => rfl) ?_) ?_) | (refine NX.k 18 ?_; first | refine NX.one (One.fieldRat tabOk rfl rfl rfl rfl (by decide) rfl rfl) ?_)) <;> (first | refine AOLg.pass ?_ | (((try simp only [zn]) <;> (try simp (disch := omega) only [zz hA, zb, zy, reduceCtorEq, Bool.false_eq_true, Int.reduceLT, Int.reduceLE, Int.reduceNeg]) <;> (try simp only [zw])) <;> omega)))
            | refine NX.raw ?_)
        | refine Thn.exit ?_
        | refine Blk.here ?_
        | refine Blk.other (by decide) ?_
        | refine ⟨.inl rfl, _, RetOk.ev tabOk (by conv => lhs; cbv), ?_⟩
        | fail)
      refine rPV_then (by conv => lhs; cbv) ?_
      rw [hrt, hid_eq hA]
  · rw [decide_eq_false h1, hid_eq hA (α := Bool)] at hr
    have hrt : rightT l K S = false := by unfold rightT; rw [decide_eq_false h1]; rfl
    refine PureCalls.of Try.func47 rfl (by kernel_rfl) rfl ?_
    try first | refine AOLg.of [] ?_ | refine QSg.of [] ?_
    repeat' (first
      | (refine AWp.pass ?_; first
          | refine AWp.seq ?_
          | refine AWp.block ?_
          | refine AWp.skip ?_
          | refine AWp.regG [] (by conv => lhs; cbv) ?_
          | refine AWp.cond_t rfl ?_
          | refine AWp.cond_f rfl ?_
          | (refine AWp.cond rfl ?_ ?_ <;> intro hc <;> (try rw [hc]) <;> ((try simp only [zn] at hc) <;> (try simp (disch := omega) only [zz hA, zb, zy, reduceCtorEq, Bool.false_eq_true, Int.reduceLT, Int.reduceLE, Int.reduceNeg] at hc) <;> (try simp only [zw] at hc)) <;> (try (exfalso; omega)))
          | refine AWp.exit ?_
          | refine AWp.ret ⟨.inr rfl, _, RetOk.ev tabOk (by conv => lhs; cbv), ?_⟩)
      | (refine AOLg.pass ?_; refine AOLg.nx hA tabOk (by conv => lhs; cbv) ?_; first
          | refine NX.done ?_
          | refine NX.gt ?_
          | refine NX.gf ?_
          | (refine NX.gs ?_ ?_ <;> intro hc <;> rw [hc] <;> ((try simp only [zn] at hc) <;> (try simp (disch := omega) only [zz hA, zb, zy, reduceCtorEq, Bool.false_eq_true, Int.reduceLT, Int.reduceLE, Int.reduceNeg] at hc) <;> (try simp only [zw] at hc)) <;> (try (exfalso; omega)))
          | (refine NX.kC ?_; first | (with_reducible refine NX.call (hr) ?_) | ((first | refine NX.call (hr) ?_)) | fail)
          | (refine NX.kO ?_; (first | refine NX.callO (hr) (by simp [allEq]) rfl ?_))
          | ((first | (refine NX.k 1 ?_; first | refine NX.one (One.elemM hA tabOk rfl rfl rfl rfl ?_ ?_) ?_ | refine NX.one (One.elemOwnM hA tabOk rfl rfl rfl rfl rfl ?_ ?_) ?_) | (refine NX.k 7 ?_; first | refine NX.one (One.concatM hA rfl rfl rfl ?_) ?_) | (refine NX.k 9 ?_; first | refine NX.one (One.neBoolM hA tabOk rfl rfl rfl rfl rfl) ?_) | (refine NX.k 10 ?_; first | refine NX.one (One.lenOwnM hA tabOk rfl rfl rfl rfl) ?_) | (refine NX.k 14 ?_; first | refine NX.one (One.loadRatM hA tabOk rfl rfl rfl rfl rfl rfl ?_) ?_) | (refine NX.k 15 ?_; first | refine NX.one (One.storeRatM hA tabOk _ rfl rfl rfl rfl rfl rfl rfl rfl (fun _ => rfl) ?_) ?_) | (refine NX.k 18 ?_; first | refine NX.one (One.fieldRat tabOk rfl rfl rfl rfl (by decide) rfl rfl) ?_)) <;> (first | refine AOLg.pass ?_ | (((try simp only [zn]) <;> (try simp (disch := omega) only [zz hA, zb, zy, reduceCtorEq, Bool.false_eq_true, Int.reduceLT, Int.reduceLE, Int.reduceNeg]) <;> (try simp only [zw])) <;> omega)))
          | refine NX.raw ?_)
      | refine Thn.exit ?_
      | refine Blk.here ?_
      | refine Blk.other (by decide) ?_
      | refine ⟨.inl rfl, _, RetOk.ev tabOk (by conv => lhs; cbv), ?_⟩
      | fail)
    refine rPV_then (by conv => lhs; cbv) ?_
    rw [hrt, hid_eq hA]
end Go.Proofs.Ytpphdaphbkepfaa.Aw

/- Contracts of package term, part 7: of what a term is made. -/
set_option linter.unusedVariables false
set_option linter.unusedSimpArgs false
namespace Go.Proofs.Ytpphdaphbkepfaa.Aw
open Go Go.RowKit
set_option maxRecDepth 10000
attribute [local irreducible] AWp AOL QS One AOLg QSg NX QX TRg TX AllO Fin3
def encT (b : Bool) : List IC := [.lit (.bool b)]
def argsK (K : List (List Int)) (n : Nat) : List Int := (K.getD n default).drop 3
def markA (r : List Bool) (a : List Int) : List Bool := a.foldl (fun r x => r.set x.toNat true) r
def belB (K : List (List Int)) (id : Nat) : Nat → List Bool
  | 0 => (List.replicate (id + 1) false).set id true
  | k + 1 => if (belB K id k).getD (id - k) default = true then markA (belB K id k) (argsK K (id - k)) else belB K id k
def belO (K : List (List Int)) (id : Nat) : Nat → List Int
  | 0 => []
  | k + 1 => if (belB K id k).getD (id - k) default = true then belO K id k ++ [((id - k : Nat) : Int)] else belO K id k
def belowM (K : List (List Int)) (id : Nat) : List Int := (belO K id (id + 1)).reverse
theorem markA_len (r : List Bool) (a : List Int) : (markA r a).length = r.length := by
  induction a generalizing r with
  | nil => rfl
  | cons x a ih => show (markA _ a).length = _; rw [ih, List.length_set]
theorem markA_succ (r : List Bool) (a : List Int) (j : Nat) (h : j < a.length) : markA r (a.take (j + 1)) = (markA r (a.take j)).set (a.getD j default).toNat true := by
  rw [List.take_succ_eq_append_getElem h]
  simp only [markA, List.foldl_append, List.foldl_cons, List.foldl_nil, List.getD_eq_getElem?_getD, List.getElem?_eq_getElem h, Option.getD_some]
theorem belB_len (K : List (List Int)) (id : Nat) : ∀ k, (belB K id k).length = id + 1
  | 0 => by simp [belB]
  | k + 1 => by
    unfold belB; split
    · rw [markA_len, belB_len K id k]
    · exact belB_len K id k
theorem belO_len (K : List (List Int)) (id : Nat) : ∀ k, (belO K id k).length ≤ k
  | 0 => by simp [belO]
  | k + 1 => by
    have := belO_len K id k
    unfold belO; split
    · simp; omega
    · omega
/-- Keys that stand for terms of what is ahead. -/
def Down (K : List (List Int)) : Prop := ∀ n, n < K.length → 3 ≤ (K.getD n default).length ∧ ∀ x ∈ argsK K n, 0 ≤ x ∧ x < n
variable {A : Ar} (hA : A = real)
include hA
set_option maxHeartbeats 4000000 in
theorem below_c (K : List (List Int)) (S : List Int) (id : Nat) (hd : Down K) (hK : K.length ≤ 900000) (hk : ∀ x ∈ K, x.length ≤ 1000000) (hi : id < K.length) : ∀ z : Int, z = id → PureCalls Try.prog 30 [keyedPV A K S, IP z] (intsP A (belowM K id)) := by
  intro z hz
  refine PureCalls.of Try.func30 rfl (by kernel_rfl) rfl ?_
  try first | refine AOLg.of [6] ?_ | refine QSg.of [6] ?_
  repeat' (first
    | (refine AWp.pass ?_; first
        | refine AWp.seq ?_
        | refine AWp.block ?_
        | refine AWp.skip ?_
        | refine AWp.regG [6] (by conv => lhs; cbv) ?_
        | refine AWp.cond_t rfl ?_
        | refine AWp.cond_f rfl ?_
        | (refine AWp.cond rfl ?_ ?_ <;> intro hc <;> (try rw [hc]) <;> ((try simp only [zn] at hc) <;> (try simp (disch := omega) only [zz hA, zb, zy, reduceCtorEq, Bool.false_eq_true, Int.reduceLT, Int.reduceLE, Int.reduceNeg] at hc) <;> (try simp only [zw] at hc)) <;> (try (exfalso; omega)))
        | refine AWp.exit ?_
        | refine AWp.ret ⟨.inr rfl, _, RetOk.ev tabOk (by conv => lhs; cbv), ?_⟩)
    | (refine AOLg.pass ?_; refine AOLg.nx hA tabOk (by conv => lhs; cbv) ?_; first
        | refine NX.done ?_
        | refine NX.gt ?_
        | refine NX.gf ?_
        | (refine NX.gs ?_ ?_ <;> intro hc <;> rw [hc] <;> ((try simp only [zn] at hc) <;> (try simp (disch := omega) only [zz hA, zb, zy, reduceCtorEq, Bool.false_eq_true, Int.reduceLT, Int.reduceLE, Int.reduceNeg] at hc) <;> (try simp only [zw] at hc)) <;> (try (exfalso; omega)))
        | ((first | (refine NX.k 1 ?_; first | refine NX.one (One.elemM hA tabOk rfl rfl rfl rfl ?_ ?_) ?_ | refine NX.one (One.elemOwnM hA tabOk rfl rfl rfl rfl rfl ?_ ?_) ?_) | (refine NX.k 7 ?_; first | refine NX.one (One.concatM hA rfl rfl rfl ?_) ?_) | (refine NX.k 10 ?_; first | refine NX.one (One.lenOwnM hA tabOk rfl rfl rfl rfl) ?_) | (refine NX.k 11 ?_; first | refine NX.one (One.appendM hA tabOk _ rfl rfl rfl rfl rfl rfl ?_ ?_) ?_ | refine NX.one (One.appendMM hA tabOk rfl rfl rfl rfl rfl ?_ ?_) ?_ | refine NX.one (One.appendOwnM hA tabOk _ rfl rfl rfl rfl rfl rfl rfl ?_ ?_) ?_ | refine NX.one (One.appendOwnMM hA tabOk rfl rfl rfl rfl rfl rfl ?_ ?_) ?_ | refine NX.one (One.appendOwn0 hA tabOk rfl rfl rfl rfl rfl rfl ?_ ?_) ?_) | (refine NX.k 14 ?_; first | refine NX.one (One.loadRatM hA tabOk rfl rfl rfl rfl rfl rfl ?_) ?_) | (refine NX.k 15 ?_; first | refine NX.one (One.storeRatM hA tabOk _ rfl rfl rfl rfl rfl rfl rfl rfl (fun _ => rfl) ?_) ?_) | (refine NX.k 16 ?_; first | refine NX.one (One.makeM hA tabOk encI 0 rfl rfl rfl rfl rfl rfl rfl ?_ ?_ ?_) ?_) | (refine NX.k 17 ?_; first | refine NX.one (One.build0 tabOk rfl rfl) ?_) | (refine NX.k 18 ?_; first | refine NX.one (One.fieldRat tabOk rfl rfl rfl rfl (by decide) rfl rfl) ?_)) <;> (first | refine AOLg.pass ?_ | (((try simp only [zn]) <;> (try simp (disch := omega) only [zz hA, zb, zy, reduceCtorEq, Bool.false_eq_true, Int.reduceLT, Int.reduceLE, Int.reduceNeg]) <;> (try simp only [zw])) <;> omega)))
        | (refine NX.one (One.nilOwn tabOk 6 23 rfl rfl rfl) ?_)
        | (refine NX.one (One.makeM hA tabOk encT false rfl rfl rfl rfl rfl rfl rfl (by (((try simp only [zn]) <;> (try simp (disch := omega) only [zz hA, zb, zy, reduceCtorEq, Bool.false_eq_true, Int.reduceLT, Int.reduceLE, Int.reduceNeg]) <;> (try simp only [zw])) <;> omega)) (by (((try simp only [zn]) <;> (try simp (disch := omega) only [zz hA, zb, zy, reduceCtorEq, Bool.false_eq_true, Int.reduceLT, Int.reduceLE, Int.reduceNeg]) <;> (try simp only [zw])) <;> omega)) (by (((try simp only [zn]) <;> (try simp (disch := omega) only [zz hA, zb, zy, reduceCtorEq, Bool.false_eq_true, Int.reduceLT, Int.reduceLE, Int.reduceNeg]) <;> (try simp only [zw])) <;> omega))) ?_)
        | refine NX.raw ?_)
    | refine Thn.exit ?_
    | refine Blk.here ?_
    | refine Blk.other (by decide) ?_
    | refine ⟨.inl rfl, _, RetOk.ev tabOk (by conv => lhs; cbv), ?_⟩
    | fail)
  refine AWp.loopT 3 (fun x : Nat × Nat => [(30, .ic (.lit (.int .i64 (hid A (cN x.1))))), (6, .own 2 x.2)]) (fun x => [.var true 25 [.ic (.sl 1 false (hid A (List.map (encK A) K))), .ic (.sl 1 false (hid A (List.map encI S)))], .row true 0 4 1 (hid A (List.map encT (belB K id x.1))), .row true x.2 3 1 (hid A (List.map encI (belO K id x.1)))])
    (fun x => id + 1 - x.1) (fun x => x.1 ≤ id + 1) (0, 0) (by conv => lhs; cbv) (Nat.zero_le _) (.int rfl (by simp [hA, real, hid, cN]) (.cons rfl .nil)) (by
      have e : (z + 1).toNat = id + 1 := by omega
      have e2 : z.toNat = id := by omega
      ((try simp only [zn]) <;> (try simp (disch := omega) only [zz hA, zb, zy, reduceCtorEq, Bool.false_eq_true, Int.reduceLT, Int.reduceLE, Int.reduceNeg, belB, belO, e, e2]) <;> (try simp only [zw]))
      rfl) (fun _ => rfl) (fun _ => rfl) ?_
  rintro ⟨k, ver⟩ hi0
  simp only [] at hi0 ⊢
  have hBl := belB_len K id k
  have hOl := belO_len K id k
  by_cases hkk : k < id + 1
  · have eB : belB K id (k + 1) = if (belB K id k).getD (id - k) default = true then markA (belB K id k) (argsK K (id - k)) else belB K id k := rfl
    have eO : belO K id (k + 1) = if (belB K id k).getD (id - k) default = true then belO K id k ++ [((id - k : Nat) : Int)] else belO K id k := rfl
    generalize belB K id k = B at *
    generalize belO K id k = O at *
    generalize hB2 : belB K id (k + 1) = B2 at *
    generalize hO2 : belO K id (k + 1) = O2 at *
    obtain ⟨h3, hdn⟩ := hd (id - k) (by omega)
    have hmem : K.getD (id - k) default ∈ K := by rw [List.getD_eq_getElem?_getD, List.getElem?_eq_getElem (by omega)]; exact List.getElem_mem _
    have hkl := hk _ hmem
    obtain ⟨kk, s, p, a, hq⟩ := key_ex h3
    have hal : a.length + 3 = (K.getD (id - k) default).length := by rw [hq]; rfl
    have ha : argsK K (id - k) = a := by unfold argsK; rw [hq]; rfl
    rw [ha] at hdn eB
    have hof := tOf_c1 hA K S (id - k) kk s p a (by omega) hq (by omega)
    have hn : ∀ n : Nat, n = id - k → B.getD n default = B.getD (id - k) default := by rintro n rfl; rfl
    generalize hb : B.getD (id - k) default = b at *
    cases b
    · obtain rfl : B2 = B := eB
      obtain rfl : O2 = O := eO
      try first | refine AOLg.of [] ?_ | refine QSg.of [] ?_
      repeat' (first
        | (refine AWp.pass ?_; first
            | refine AWp.seq ?_
            | refine AWp.block ?_
            | refine AWp.skip ?_
            | refine AWp.regG [] (by conv => lhs; cbv) ?_
            | refine AWp.cond_t rfl ?_
            | refine AWp.cond_f rfl ?_
            | (refine AWp.cond rfl ?_ ?_ <;> intro hc <;> (try rw [hc]) <;> ((try simp only [zn] at hc) <;> (try simp (disch := omega) only [zz hA, zb, zy, reduceCtorEq, Bool.false_eq_true, Int.reduceLT, Int.reduceLE, Int.reduceNeg] at hc) <;> (try simp only [zw] at hc)) <;> (try (exfalso; omega)))
            | refine AWp.exit ?_
            | refine AWp.ret ⟨.inr rfl, _, RetOk.ev tabOk (by conv => lhs; cbv), ?_⟩)
        | (refine AOLg.pass ?_; refine AOLg.nx hA tabOk (by conv => lhs; cbv) ?_; first
            | refine NX.done ?_
            | refine NX.gt ?_
            | refine NX.gf ?_
            | (refine NX.gs ?_ ?_ <;> intro hc <;> rw [hc] <;> ((try simp only [zn] at hc) <;> (try simp (disch := omega) only [zz hA, zb, zy, reduceCtorEq, Bool.false_eq_true, Int.reduceLT, Int.reduceLE, Int.reduceNeg] at hc) <;> (try simp only [zw] at hc)) <;> (try (exfalso; omega)))
            | ((first | (refine NX.k 1 ?_; first | refine NX.one (One.elemM hA tabOk rfl rfl rfl rfl ?_ ?_) ?_ | refine NX.one (One.elemOwnM hA tabOk rfl rfl rfl rfl rfl ?_ ?_) ?_) | (refine NX.k 7 ?_; first | refine NX.one (One.concatM hA rfl rfl rfl ?_) ?_) | (refine NX.k 10 ?_; first | refine NX.one (One.lenOwnM hA tabOk rfl rfl rfl rfl) ?_) | (refine NX.k 11 ?_; first | refine NX.one (One.appendM hA tabOk _ rfl rfl rfl rfl rfl rfl ?_ ?_) ?_ | refine NX.one (One.appendMM hA tabOk rfl rfl rfl rfl rfl ?_ ?_) ?_ | refine NX.one (One.appendOwnM hA tabOk _ rfl rfl rfl rfl rfl rfl rfl ?_ ?_) ?_ | refine NX.one (One.appendOwnMM hA tabOk rfl rfl rfl rfl rfl rfl ?_ ?_) ?_ | refine NX.one (One.appendOwn0 hA tabOk rfl rfl rfl rfl rfl rfl ?_ ?_) ?_) | (refine NX.k 14 ?_; first | refine NX.one (One.loadRatM hA tabOk rfl rfl rfl rfl rfl rfl ?_) ?_) | (refine NX.k 15 ?_; first | refine NX.one (One.storeRatM hA tabOk _ rfl rfl rfl rfl rfl rfl rfl rfl (fun _ => rfl) ?_) ?_) | (refine NX.k 16 ?_; first | refine NX.one (One.makeM hA tabOk encI 0 rfl rfl rfl rfl rfl rfl rfl ?_ ?_ ?_) ?_) | (refine NX.k 17 ?_; first | refine NX.one (One.build0 tabOk rfl rfl) ?_) | (refine NX.k 18 ?_; first | refine NX.one (One.fieldRat tabOk rfl rfl rfl rfl (by decide) rfl rfl) ?_)) <;> (first | refine AOLg.pass ?_ | (((try simp only [zn]) <;> (try simp (disch := omega) only [zz hA, zb, zy, reduceCtorEq, Bool.false_eq_true, Int.reduceLT, Int.reduceLE, Int.reduceNeg]) <;> (try simp only [zw])) <;> omega)))
            | refine NX.raw ?_)
        | refine Thn.exit ?_
        | refine Blk.here ?_
        | refine Blk.other (by decide) ?_
        | refine ⟨.inl rfl, _, RetOk.ev tabOk (by conv => lhs; cbv), ?_⟩
        | fail)
      · refine ⟨(k + 1, ver), by simp only; omega, by simp only; omega, rfl, rfl, (by repeat' (first | exact trimOk.nil | refine trimOk.same ?_ | refine trimOk.turn rfl ?_)), ?_, rfl, ?_, (by repeat' (first | exact subE.nil | refine subE.cons rfl ?_))⟩
        · simp only [hB2, hO2]
          rfl
        · exact .int rfl (by (((try simp only [zn]) <;> (try simp (disch := omega) only [zz hA, zb, zy, reduceCtorEq, Bool.false_eq_true, Int.reduceLT, Int.reduceLE, Int.reduceNeg]) <;> (try simp only [zw])) <;> omega)) (.cons rfl .nil)
      · exfalso
        rw [hn _ (by omega)] at hc
        exact Bool.noConfusion hc
    · obtain rfl : B2 = markA B a := eB
      obtain rfl : O2 = O ++ [((id - k : Nat) : Int)] := eO
      try first | refine AOLg.of [] ?_ | refine QSg.of [] ?_
      repeat' (first
        | (refine AWp.pass ?_; first
            | refine AWp.seq ?_
            | refine AWp.block ?_
            | refine AWp.skip ?_
            | refine AWp.regG [] (by conv => lhs; cbv) ?_
            | refine AWp.cond_t rfl ?_
            | refine AWp.cond_f rfl ?_
            | (refine AWp.cond rfl ?_ ?_ <;> intro hc <;> (try rw [hc]) <;> ((try simp only [zn] at hc) <;> (try simp (disch := omega) only [zz hA, zb, zy, reduceCtorEq, Bool.false_eq_true, Int.reduceLT, Int.reduceLE, Int.reduceNeg] at hc) <;> (try simp only [zw] at hc)) <;> (try (exfalso; omega)))
            | refine AWp.exit ?_
            | refine AWp.ret ⟨.inr rfl, _, RetOk.ev tabOk (by conv => lhs; cbv), ?_⟩)
        | (refine AOLg.pass ?_; refine AOLg.nx hA tabOk (by conv => lhs; cbv) ?_; first
            | refine NX.done ?_
            | refine NX.gt ?_
            | refine NX.gf ?_
            | (refine NX.gs ?_ ?_ <;> intro hc <;> rw [hc] <;> ((try simp only [zn] at hc) <;> (try simp (disch := omega) only [zz hA, zb, zy, reduceCtorEq, Bool.false_eq_true, Int.reduceLT, Int.reduceLE, Int.reduceNeg] at hc) <;> (try simp only [zw] at hc)) <;> (try (exfalso; omega)))
            | (refine NX.kC ?_; first | ((with_reducible refine NX.call (hof _ ?_) ?_) <;> (first | refine AOLg.pass ?_ | (((try simp only [zn]) <;> (try simp (disch := omega) only [zz hA, zb, zy, reduceCtorEq, Bool.false_eq_true, Int.reduceLT, Int.reduceLE, Int.reduceNeg]) <;> (try simp only [zw])) <;> omega))) | ((first | refine NX.call (hof _ ?_) ?_) <;> (first | refine AOLg.pass ?_ | (((try simp only [zn]) <;> (try simp (disch := omega) only [zz hA, zb, zy, reduceCtorEq, Bool.false_eq_true, Int.reduceLT, Int.reduceLE, Int.reduceNeg]) <;> (try simp only [zw])) <;> omega))) | fail)
            | (refine NX.kO ?_; (first | refine NX.callO (hof _ ?_) (by simp [allEq]) rfl ?_) <;> (first | refine AOLg.pass ?_ | (((try simp only [zn]) <;> (try simp (disch := omega) only [zz hA, zb, zy, reduceCtorEq, Bool.false_eq_true, Int.reduceLT, Int.reduceLE, Int.reduceNeg]) <;> (try simp only [zw])) <;> omega)))
            | ((first | (refine NX.k 1 ?_; first | refine NX.one (One.elemM hA tabOk rfl rfl rfl rfl ?_ ?_) ?_ | refine NX.one (One.elemOwnM hA tabOk rfl rfl rfl rfl rfl ?_ ?_) ?_) | (refine NX.k 7 ?_; first | refine NX.one (One.concatM hA rfl rfl rfl ?_) ?_) | (refine NX.k 10 ?_; first | refine NX.one (One.lenOwnM hA tabOk rfl rfl rfl rfl) ?_) | (refine NX.k 11 ?_; first | refine NX.one (One.appendM hA tabOk _ rfl rfl rfl rfl rfl rfl ?_ ?_) ?_ | refine NX.one (One.appendMM hA tabOk rfl rfl rfl rfl rfl ?_ ?_) ?_ | refine NX.one (One.appendOwnM hA tabOk _ rfl rfl rfl rfl rfl rfl rfl ?_ ?_) ?_ | refine NX.one (One.appendOwnMM hA tabOk rfl rfl rfl rfl rfl rfl ?_ ?_) ?_ | refine NX.one (One.appendOwn0 hA tabOk rfl rfl rfl rfl rfl rfl ?_ ?_) ?_) | (refine NX.k 14 ?_; first | refine NX.one (One.loadRatM hA tabOk rfl rfl rfl rfl rfl rfl ?_) ?_) | (refine NX.k 15 ?_; first | refine NX.one (One.storeRatM hA tabOk _ rfl rfl rfl rfl rfl rfl rfl rfl (fun _ => rfl) ?_) ?_) | (refine NX.k 16 ?_; first | refine NX.one (One.makeM hA tabOk encI 0 rfl rfl rfl rfl rfl rfl rfl ?_ ?_ ?_) ?_) | (refine NX.k 17 ?_; first | refine NX.one (One.build0 tabOk rfl rfl) ?_) | (refine NX.k 18 ?_; first | refine NX.one (One.fieldRat tabOk rfl rfl rfl rfl (by decide) rfl rfl) ?_)) <;> (first | refine AOLg.pass ?_ | (((try simp only [zn]) <;> (try simp (disch := omega) only [zz hA, zb, zy, reduceCtorEq, Bool.false_eq_true, Int.reduceLT, Int.reduceLE, Int.reduceNeg]) <;> (try simp only [zw])) <;> omega)))
            | refine NX.raw ?_)
        | refine Thn.exit ?_
        | refine Blk.here ?_
        | refine Blk.other (by decide) ?_
        | refine ⟨.inl rfl, _, RetOk.ev tabOk (by conv => lhs; cbv), ?_⟩
        | fail)
      · exfalso
        rw [hn _ (by omega)] at hc
        exact Bool.noConfusion hc
      refine AWp.loopU (fun j : Nat => [(54, .ic (.lit (.int .i64 (hid A (cN j)))))]) (fun j => [.var true 25 [.ic (.sl 1 false (hid A (List.map (encK A) K))), .ic (.sl 1 false (hid A (List.map encI S)))], .row true 0 4 1 (hid A (List.map encT (markA B (a.take j)))), .row true ver.succ 3 1 (hid A (List.map encI (O ++ [z - cN k]))), .var true 44 [.ic (.lit (.int .i64 kk)), .ic (.lit (.int .i64 s)), .ic (.lit (.int .i64 p)), .ic (.sl 1 false (hid A (List.map encI a)))]]) (fun j => a.length - j) (fun j => j ≤ a.length) 0 (by conv => lhs; cbv) (Nat.zero_le _) (by (repeat' (first | exact subE.nil | refine subE.cons rfl ?_ | refine subE.int rfl ?_ ?_ | refine subE.bool rfl ?_ ?_ | refine subE.str rfl ?_ ?_ | refine subE.sl rfl ?_ ?_)) <;> simp [hA, real, hid, cN]) (by
        ((try simp only [zn]) <;> (try simp (disch := omega) only [zz hA, zb, zy, reduceCtorEq, Bool.false_eq_true, Int.reduceLT, Int.reduceLE, Int.reduceNeg, List.take_zero, markA, List.foldl_nil]) <;> (try simp only [zw]))) ?_
      intro j hj
      have hml : (markA B (a.take j)).length = id + 1 := by rw [markA_len, hBl]
      by_cases hjj : j < a.length
      · have hx := hdn (a.getD j default) (by rw [List.getD_eq_getElem?_getD, List.getElem?_eq_getElem hjj]; exact List.getElem_mem _)
        have hms := markA_succ B a j hjj
        generalize markA B (a.take j) = R at *
        try first | refine AOLg.of [] ?_ | refine QSg.of [] ?_
        repeat' (first
          | (refine AWp.pass ?_; first
              | refine AWp.seq ?_
              | refine AWp.block ?_
              | refine AWp.skip ?_
              | refine AWp.regG [] (by conv => lhs; cbv) ?_
              | refine AWp.cond_t rfl ?_
              | refine AWp.cond_f rfl ?_
              | (refine AWp.cond rfl ?_ ?_ <;> intro hc <;> (try rw [hc]) <;> ((try simp only [zn] at hc) <;> (try simp (disch := omega) only [zz hA, zb, zy, reduceCtorEq, Bool.false_eq_true, Int.reduceLT, Int.reduceLE, Int.reduceNeg] at hc) <;> (try simp only [zw] at hc)) <;> (try (exfalso; omega)))
              | refine AWp.exit ?_
              | refine AWp.ret ⟨.inr rfl, _, RetOk.ev tabOk (by conv => lhs; cbv), ?_⟩)
          | (refine AOLg.pass ?_; refine AOLg.nx hA tabOk (by conv => lhs; cbv) ?_; first
              | refine NX.done ?_
              | refine NX.gt ?_
              | refine NX.gf ?_
              | (refine NX.gs ?_ ?_ <;> intro hc <;> rw [hc] <;> ((try simp only [zn] at hc) <;> (try simp (disch := omega) only [zz hA, zb, zy, reduceCtorEq, Bool.false_eq_true, Int.reduceLT, Int.reduceLE, Int.reduceNeg] at hc) <;> (try simp only [zw] at hc)) <;> (try (exfalso; omega)))
              | ((first | (refine NX.k 1 ?_; first | refine NX.one (One.elemM hA tabOk rfl rfl rfl rfl ?_ ?_) ?_ | refine NX.one (One.elemOwnM hA tabOk rfl rfl rfl rfl rfl ?_ ?_) ?_) | (refine NX.k 7 ?_; first | refine NX.one (One.concatM hA rfl rfl rfl ?_) ?_) | (refine NX.k 10 ?_; first | refine NX.one (One.lenOwnM hA tabOk rfl rfl rfl rfl) ?_) | (refine NX.k 11 ?_; first | refine NX.one (One.appendM hA tabOk _ rfl rfl rfl rfl rfl rfl ?_ ?_) ?_ | refine NX.one (One.appendMM hA tabOk rfl rfl rfl rfl rfl ?_ ?_) ?_ | refine NX.one (One.appendOwnM hA tabOk _ rfl rfl rfl rfl rfl rfl rfl ?_ ?_) ?_ | refine NX.one (One.appendOwnMM hA tabOk rfl rfl rfl rfl rfl rfl ?_ ?_) ?_ | refine NX.one (One.appendOwn0 hA tabOk rfl rfl rfl rfl rfl rfl ?_ ?_) ?_) | (refine NX.k 14 ?_; first | refine NX.one (One.loadRatM hA tabOk rfl rfl rfl rfl rfl rfl ?_) ?_) | (refine NX.k 15 ?_; first | refine NX.one (One.storeRatM hA tabOk _ rfl rfl rfl rfl rfl rfl rfl rfl (fun _ => rfl) ?_) ?_) | (refine NX.k 16 ?_; first | refine NX.one (One.makeM hA tabOk encI 0 rfl rfl rfl rfl rfl rfl rfl ?_ ?_ ?_) ?_) | (refine NX.k 17 ?_; first | refine NX.one (One.build0 tabOk rfl rfl) ?_) | (refine NX.k 18 ?_; first | refine NX.one (One.fieldRat tabOk rfl rfl rfl rfl (by decide) rfl rfl) ?_)) <;> (first | refine AOLg.pass ?_ | (((try simp only [zn]) <;> (try simp (disch := omega) only [zz hA, zb, zy, reduceCtorEq, Bool.false_eq_true, Int.reduceLT, Int.reduceLE, Int.reduceNeg]) <;> (try simp only [zw])) <;> omega)))
              | refine NX.raw ?_)
          | refine Thn.exit ?_
          | refine Blk.here ?_
          | refine Blk.other (by decide) ?_
          | refine ⟨.inl rfl, _, RetOk.ev tabOk (by conv => lhs; cbv), ?_⟩
          | fail)
        refine ⟨j + 1, ?_, ?_, rfl, ?_, ?_, (by repeat' (first | exact subE.nil | refine subE.cons rfl ?_))⟩ <;> (try omega)
        · ((try simp only [zn]) <;> (try simp (disch := omega) only [zz hA, zb, zy, reduceCtorEq, Bool.false_eq_true, Int.reduceLT, Int.reduceLE, Int.reduceNeg, hms]) <;> (try simp only [zw]))
        · exact .int rfl (by (((try simp only [zn]) <;> (try simp (disch := omega) only [zz hA, zb, zy, reduceCtorEq, Bool.false_eq_true, Int.reduceLT, Int.reduceLE, Int.reduceNeg]) <;> (try simp only [zw])) <;> omega)) .nil
      · have hml2 : markA B (a.take j) = markA B a := by rw [List.take_of_length_le (by omega)]
        try first | refine AOLg.of [] ?_ | refine QSg.of [] ?_
        repeat' (first
          | (refine AWp.pass ?_; first
              | refine AWp.seq ?_
              | refine AWp.block ?_
              | refine AWp.skip ?_
              | refine AWp.regG [] (by conv => lhs; cbv) ?_
              | refine AWp.cond_t rfl ?_
              | refine AWp.cond_f rfl ?_
              | (refine AWp.cond rfl ?_ ?_ <;> intro hc <;> (try rw [hc]) <;> ((try simp only [zn] at hc) <;> (try simp (disch := omega) only [zz hA, zb, zy, reduceCtorEq, Bool.false_eq_true, Int.reduceLT, Int.reduceLE, Int.reduceNeg] at hc) <;> (try simp only [zw] at hc)) <;> (try (exfalso; omega)))
              | refine AWp.exit ?_
              | refine AWp.ret ⟨.inr rfl, _, RetOk.ev tabOk (by conv => lhs; cbv), ?_⟩)
          | (refine AOLg.pass ?_; refine AOLg.nx hA tabOk (by conv => lhs; cbv) ?_; first
              | refine NX.done ?_
              | refine NX.gt ?_
              | refine NX.gf ?_
              | (refine NX.gs ?_ ?_ <;> intro hc <;> rw [hc] <;> ((try simp only [zn] at hc) <;> (try simp (disch := omega) only [zz hA, zb, zy, reduceCtorEq, Bool.false_eq_true, Int.reduceLT, Int.reduceLE, Int.reduceNeg] at hc) <;> (try simp only [zw] at hc)) <;> (try (exfalso; omega)))
              | ((first | (refine NX.k 1 ?_; first | refine NX.one (One.elemM hA tabOk rfl rfl rfl rfl ?_ ?_) ?_ | refine NX.one (One.elemOwnM hA tabOk rfl rfl rfl rfl rfl ?_ ?_) ?_) | (refine NX.k 7 ?_; first | refine NX.one (One.concatM hA rfl rfl rfl ?_) ?_) | (refine NX.k 10 ?_; first | refine NX.one (One.lenOwnM hA tabOk rfl rfl rfl rfl) ?_) | (refine NX.k 11 ?_; first | refine NX.one (One.appendM hA tabOk _ rfl rfl rfl rfl rfl rfl ?_ ?_) ?_ | refine NX.one (One.appendMM hA tabOk rfl rfl rfl rfl rfl ?_ ?_) ?_ | refine NX.one (One.appendOwnM hA tabOk _ rfl rfl rfl rfl rfl rfl rfl ?_ ?_) ?_ | refine NX.one (One.appendOwnMM hA tabOk rfl rfl rfl rfl rfl rfl ?_ ?_) ?_ | refine NX.one (One.appendOwn0 hA tabOk rfl rfl rfl rfl rfl rfl ?_ ?_) ?_) | (refine NX.k 14 ?_; first | refine NX.one (One.loadRatM hA tabOk rfl rfl rfl rfl rfl rfl ?_) ?_) | (refine NX.k 15 ?_; first | refine NX.one (One.storeRatM hA tabOk _ rfl rfl rfl rfl rfl rfl rfl rfl (fun _ => rfl) ?_) ?_) | (refine NX.k 16 ?_; first | refine NX.one (One.makeM hA tabOk encI 0 rfl rfl rfl rfl rfl rfl rfl ?_ ?_ ?_) ?_) | (refine NX.k 17 ?_; first | refine NX.one (One.build0 tabOk rfl rfl) ?_) | (refine NX.k 18 ?_; first | refine NX.one (One.fieldRat tabOk rfl rfl rfl rfl (by decide) rfl rfl) ?_)) <;> (first | refine AOLg.pass ?_ | (((try simp only [zn]) <;> (try simp (disch := omega) only [zz hA, zb, zy, reduceCtorEq, Bool.false_eq_true, Int.reduceLT, Int.reduceLE, Int.reduceNeg]) <;> (try simp only [zw])) <;> omega)))
              | refine NX.raw ?_)
          | refine Thn.exit ?_
          | refine Blk.here ?_
          | refine Blk.other (by decide) ?_
          | refine ⟨.inl rfl, _, RetOk.ev tabOk (by conv => lhs; cbv), ?_⟩
          | fail)
        refine ⟨(k + 1, ver + 1), by simp only; omega, by simp only; omega, rfl, rfl, (by repeat' (first | exact trimOk.nil | refine trimOk.same ?_ | refine trimOk.turn rfl ?_)), ?_, rfl, ?_, (by repeat' (first | exact subE.nil | refine subE.cons rfl ?_))⟩
        · have e : z - k = ((id - k : Nat) : Int) := by omega
          simp only [hB2, hO2, hml2]
          ((try simp only [zn]) <;> (try simp (disch := omega) only [zz hA, zb, zy, reduceCtorEq, Bool.false_eq_true, Int.reduceLT, Int.reduceLE, Int.reduceNeg, e]) <;> (try simp only [zw]))
          rfl
        · exact .int rfl (by (((try simp only [zn]) <;> (try simp (disch := omega) only [zz hA, zb, zy, reduceCtorEq, Bool.false_eq_true, Int.reduceLT, Int.reduceLE, Int.reduceNeg]) <;> (try simp only [zw])) <;> omega)) (.cons rfl .nil)
  · obtain rfl : k = id + 1 := by omega
    try first | refine AOLg.of [] ?_ | refine QSg.of [] ?_
    repeat' (first
      | (refine AWp.pass ?_; first
          | refine AWp.seq ?_
          | refine AWp.block ?_
          | refine AWp.skip ?_
          | refine AWp.regG [] (by conv => lhs; cbv) ?_
          | refine AWp.cond_t rfl ?_
          | refine AWp.cond_f rfl ?_
          | (refine AWp.cond rfl ?_ ?_ <;> intro hc <;> (try rw [hc]) <;> ((try simp only [zn] at hc) <;> (try simp (disch := omega) only [zz hA, zb, zy, reduceCtorEq, Bool.false_eq_true, Int.reduceLT, Int.reduceLE, Int.reduceNeg] at hc) <;> (try simp only [zw] at hc)) <;> (try (exfalso; omega)))
          | refine AWp.exit ?_
          | refine AWp.ret ⟨.inr rfl, _, RetOk.ev tabOk (by conv => lhs; cbv), ?_⟩)
      | (refine AOLg.pass ?_; refine AOLg.nx hA tabOk (by conv => lhs; cbv) ?_; first
          | refine NX.done ?_
          | refine NX.gt ?_
          | refine NX.gf ?_
          | (refine NX.gs ?_ ?_ <;> intro hc <;> rw [hc] <;> ((try simp only [zn] at hc) <;> (try simp (disch := omega) only [zz hA, zb, zy, reduceCtorEq, Bool.false_eq_true, Int.reduceLT, Int.reduceLE, Int.reduceNeg] at hc) <;> (try simp only [zw] at hc)) <;> (try (exfalso; omega)))
          | ((first | (refine NX.k 1 ?_; first | refine NX.one (One.elemM hA tabOk rfl rfl rfl rfl ?_ ?_) ?_ | refine NX.one (One.elemOwnM hA tabOk rfl rfl rfl rfl rfl ?_ ?_) ?_) | (refine NX.k 7 ?_; first | refine NX.one (One.concatM hA rfl rfl rfl ?_) ?_) | (refine NX.k 10 ?_; first | refine NX.one (One.lenOwnM hA tabOk rfl rfl rfl rfl) ?_) | (refine NX.k 11 ?_; first | refine NX.one (One.appendM hA tabOk _ rfl rfl rfl rfl rfl rfl ?_ ?_) ?_ | refine NX.one (One.appendMM hA tabOk rfl rfl rfl rfl rfl ?_ ?_) ?_ | refine NX.one (One.appendOwnM hA tabOk _ rfl rfl rfl rfl rfl rfl rfl ?_ ?_) ?_ | refine NX.one (One.appendOwnMM hA tabOk rfl rfl rfl rfl rfl rfl ?_ ?_) ?_ | refine NX.one (One.appendOwn0 hA tabOk rfl rfl rfl rfl rfl rfl ?_ ?_) ?_) | (refine NX.k 14 ?_; first | refine NX.one (One.loadRatM hA tabOk rfl rfl rfl rfl rfl rfl ?_) ?_) | (refine NX.k 15 ?_; first | refine NX.one (One.storeRatM hA tabOk _ rfl rfl rfl rfl rfl rfl rfl rfl (fun _ => rfl) ?_) ?_) | (refine NX.k 16 ?_; first | refine NX.one (One.makeM hA tabOk encI 0 rfl rfl rfl rfl rfl rfl rfl ?_ ?_ ?_) ?_) | (refine NX.k 17 ?_; first | refine NX.one (One.build0 tabOk rfl rfl) ?_) | (refine NX.k 18 ?_; first | refine NX.one (One.fieldRat tabOk rfl rfl rfl rfl (by decide) rfl rfl) ?_)) <;> (first | refine AOLg.pass ?_ | (((try simp only [zn]) <;> (try simp (disch := omega) only [zz hA, zb, zy, reduceCtorEq, Bool.false_eq_true, Int.reduceLT, Int.reduceLE, Int.reduceNeg]) <;> (try simp only [zw])) <;> omega)))
          | (refine NX.one (One.scallT rfl rfl (reverse_c hA (belO K id (id + 1)) ver _ _ (by (((try simp only [zn]) <;> (try simp (disch := omega) only [zz hA, zb, zy, reduceCtorEq, Bool.false_eq_true, Int.reduceLT, Int.reduceLE, Int.reduceNeg]) <;> (try simp only [zw])) <;> omega)))) ?_)
          | refine NX.raw ?_)
      | refine Thn.exit ?_
      | refine Blk.here ?_
      | refine Blk.other (by decide) ?_
      | refine ⟨.inl rfl, _, RetOk.ev tabOk (by conv => lhs; cbv), ?_⟩
      | fail)
    exact (rPV_own rfl).trans rfl
end Go.Proofs.Ytpphdaphbkepfaa.Aw

/- Contracts of package term, part 8: the store of two. -/
set_option linter.unusedVariables false
set_option linter.unusedSimpArgs false
namespace Go.Proofs.Ytpphdaphbkepfaa.Aw
open Go Go.RowKit
set_option maxRecDepth 10000
attribute [local irreducible] AWp AOL QS One AOLg QSg NX QX TRg TX AllO Fin3
def newK : Nat → List (List Int)
  | 0 => []
  | 1 => [[0, 0, 0]]
  | 2 => [[0, 0, 0], [1, 0, 0]]
  | _ + 3 => [[0, 0, 0], [1, 0, 0], [2, 0, 0]]
def pickI : Nat → Int
  | 0 => 0
  | 1 => 1
  | _ + 2 => 2
theorem newK_len : ∀ n, (newK n).length ≤ 3
  | 0 | 1 | 2 => by simp [newK]
  | _ + 3 => by simp [newK]
theorem newK_row : ∀ n, ∀ x ∈ newK n, x.length ≤ 1000000
  | 0 | 1 | 2 => by simp [newK]
  | _ + 3 => by simp [newK]
theorem newK_nodup : ∀ n, (newK n).Nodup
  | 0 | 1 | 2 => by simp [newK]
  | _ + 3 => by simp [newK]
def pickJ : Nat → Int
  | 0 => 0
  | 1 => 1
  | _ => 2
theorem down3 : Down (newK 3) := by
  unfold Down; decide
theorem mayM_new : ∀ i, i < 3 → ∀ many : Nat, mayM [] many (pickJ i) 0 0 [] = true := by
  intro i hi many
  rw [mayM_iff]
  refine ⟨?_, show (-1 : Int) < 0 by decide⟩
  match i, hi with
  | 0, _ => exact .inl ⟨.inl rfl, rfl, rfl, rfl⟩
  | 1, _ => exact .inl ⟨.inr rfl, rfl, rfl, rfl⟩
  | 2, _ => exact .inr (.inl ⟨rfl, by decide, rfl, rfl⟩)
theorem right3 : rightT [] (newK 3) (layM (newK 3)) = true := by
  unfold rightT
  rw [Bool.and_eq_true, Bool.and_eq_true]
  refine ⟨⟨decide_eq_true ⟨newK_nodup 3, rfl⟩, by decide⟩, ?_⟩
  refine allB_t fun i hi => ?_
  match i, hi with
  | 0, _ => show keyOk [] 0 (keyT 0 0 0 []) = true; rw [keyOk_T, Bool.and_eq_true]; exact ⟨mayM_new 0 (by decide) 0, by decide⟩
  | 1, _ => show keyOk [] 1 (keyT 1 0 0 []) = true; rw [keyOk_T, Bool.and_eq_true]; exact ⟨mayM_new 1 (by decide) 1, by decide⟩
  | 2, _ => show keyOk [] 2 (keyT 2 0 0 []) = true; rw [keyOk_T, Bool.and_eq_true]; exact ⟨mayM_new 2 (by decide) 2, by decide⟩
variable {A : Ar} (hA : A = real)
include hA
set_option maxHeartbeats 4000000 in
theorem tNew_c : PureCalls Try.prog 46 [] (tabPV A (newK 2)) := by
  have hlay := lay_c hA [] (by simp) (by simp)
  refine PureCalls.of Try.func46 rfl (by kernel_rfl) rfl ?_
  try first | refine AOLg.of [] ?_ | refine QSg.of [] ?_
  repeat' (first
    | (refine AWp.pass ?_; first
        | refine AWp.seq ?_
        | refine AWp.block ?_
        | refine AWp.skip ?_
        | refine AWp.regG [] (by conv => lhs; cbv) ?_
        | refine AWp.cond_t rfl ?_
        | refine AWp.cond_f rfl ?_
        | (refine AWp.cond rfl ?_ ?_ <;> intro hc <;> (try rw [hc]) <;> ((try simp only [zn] at hc) <;> (try simp (disch := omega) only [zz hA, zb, zy, reduceCtorEq, Bool.false_eq_true, Int.reduceLT, Int.reduceLE, Int.reduceNeg] at hc) <;> (try simp only [zw] at hc)) <;> (try (exfalso; omega)))
        | refine AWp.exit ?_
        | refine AWp.ret ⟨.inr rfl, _, RetOk.ev tabOk (by conv => lhs; cbv), ?_⟩
        | refine AWp.drawVG [] rfl (by decide +kernel) (by conv => lhs; cbv) ?_)
    | (refine AOLg.pass ?_; refine AOLg.nx hA tabOk (by conv => lhs; cbv) ?_; first
        | refine NX.done ?_
        | refine NX.gt ?_
        | refine NX.gf ?_
        | (refine NX.gs ?_ ?_ <;> intro hc <;> rw [hc] <;> ((try simp only [zn] at hc) <;> (try simp (disch := omega) only [zz hA, zb, zy, reduceCtorEq, Bool.false_eq_true, Int.reduceLT, Int.reduceLE, Int.reduceNeg] at hc) <;> (try simp only [zw] at hc)) <;> (try (exfalso; omega)))
        | (refine NX.kC ?_; first | (with_reducible refine NX.call (hlay) ?_) | (refine NX.call (PureCalls.weaken (hlay) ?_) ?_ <;> (first | refine AOLg.pass ?_ | ((with_reducible repeat' (first | exact PLes.nil | exact ILes.nil | refine PLes.cons (PLe.refl _) ?_ | refine PLes.cons (PLe.c (ILe.nilM hA _ _ _ _)) ?_ | refine PLes.cons (PLe.agg ?_) ?_ | refine ILes.cons (ILe.refl _) ?_ | refine ILes.cons (ILe.nilM hA _ _ _ _) ?_)); done) | (((try simp only [zn]) <;> (try simp (disch := omega) only [zz hA, zb, zy, reduceCtorEq, Bool.false_eq_true, Int.reduceLT, Int.reduceLE, Int.reduceNeg]) <;> (try simp only [zw])) <;> omega))) | ((first | refine NX.call (hlay) ?_)) | fail)
        | (refine NX.kO ?_; (first | refine NX.callO (hlay) (by simp [allEq]) rfl ?_))
        | ((first | (refine NX.k 1 ?_; first | refine NX.one (One.elemM hA tabOk rfl rfl rfl rfl ?_ ?_) ?_ | refine NX.one (One.elemOwnM hA tabOk rfl rfl rfl rfl rfl ?_ ?_) ?_) | (refine NX.k 7 ?_; first | refine NX.one (One.concatM hA rfl rfl rfl ?_) ?_) | (refine NX.k 10 ?_; first | refine NX.one (One.lenOwnM hA tabOk rfl rfl rfl rfl) ?_) | (refine NX.k 14 ?_; first | refine NX.one (One.loadRatM hA tabOk rfl rfl rfl rfl rfl rfl ?_) ?_) | (refine NX.k 15 ?_; first | refine NX.one (One.storeRatM hA tabOk _ rfl rfl rfl rfl rfl rfl rfl rfl (fun _ => rfl) ?_) ?_) | (refine NX.k 17 ?_; first | refine NX.one (One.build0 tabOk rfl rfl) ?_)) <;> (first | refine AOLg.pass ?_ | (((try simp only [zn]) <;> (try simp (disch := omega) only [zz hA, zb, zy, reduceCtorEq, Bool.false_eq_true, Int.reduceLT, Int.reduceLE, Int.reduceNeg]) <;> (try simp only [zw])) <;> omega)))
        | refine NX.raw ?_)
    | (refine TRg.pass ?_; refine TRg.nx hA tabOk (by conv => lhs; cbv) ?_; first
        | refine TX.done ?_
        | refine TX.gt ?_
        | refine TX.gf ?_
        | (refine TX.gs ?_ ?_ <;> intro hc <;> rw [hc] <;> ((try simp only [zn] at hc) <;> (try simp (disch := omega) only [zz hA, zb, zy, reduceCtorEq, Bool.false_eq_true, Int.reduceLT, Int.reduceLE, Int.reduceNeg] at hc) <;> (try simp only [zw] at hc)) <;> (try (exfalso; omega)))
        | (refine TX.kC ?_; first | (with_reducible refine TX.call (hlay) ?_) | (refine TX.call (PureCalls.weaken (hlay) ?_) ?_ <;> (first | refine TRg.pass ?_ | ((with_reducible repeat' (first | exact PLes.nil | exact ILes.nil | refine PLes.cons (PLe.refl _) ?_ | refine PLes.cons (PLe.c (ILe.nilM hA _ _ _ _)) ?_ | refine PLes.cons (PLe.agg ?_) ?_ | refine ILes.cons (ILe.refl _) ?_ | refine ILes.cons (ILe.nilM hA _ _ _ _) ?_)); done) | (((try simp only [zn]) <;> (try simp (disch := omega) only [zz hA, zb, zy, reduceCtorEq, Bool.false_eq_true, Int.reduceLT, Int.reduceLE, Int.reduceNeg]) <;> (try simp only [zw])) <;> omega))) | ((first | refine TX.call (hlay) ?_)) | fail)
        | (refine TX.kO ?_; (first | refine TX.callO (hlay) (by simp [allEq]) rfl ?_))
        | ((first | (refine TX.k 1 ?_; first | refine TX.one (One.elemM hA tabOk rfl rfl rfl rfl ?_ ?_) ?_ | refine TX.one (One.elemOwnM hA tabOk rfl rfl rfl rfl rfl ?_ ?_) ?_) | (refine TX.k 7 ?_; first | refine TX.one (One.concatM hA rfl rfl rfl ?_) ?_) | (refine TX.k 10 ?_; first | refine TX.one (One.lenOwnM hA tabOk rfl rfl rfl rfl) ?_) | (refine TX.k 14 ?_; first | refine TX.one (One.loadRatM hA tabOk rfl rfl rfl rfl rfl rfl ?_) ?_) | (refine TX.k 15 ?_; first | refine TX.one (One.storeRatM hA tabOk _ rfl rfl rfl rfl rfl rfl rfl rfl (fun _ => rfl) ?_) ?_) | (refine TX.k 17 ?_; first | refine TX.one (One.build0 tabOk rfl rfl) ?_)) <;> (first | refine TRg.pass ?_ | (((try simp only [zn]) <;> (try simp (disch := omega) only [zz hA, zb, zy, reduceCtorEq, Bool.false_eq_true, Int.reduceLT, Int.reduceLE, Int.reduceNeg]) <;> (try simp only [zw])) <;> omega)))
        | refine TX.raw ?_)
    | refine Fin3.of (by conv => lhs; cbv) (by repeat' (first | exact True.intro | exact rfl | refine And.intro ?_ ?_)) ?_ ?_
    | (refine AllO.pass ?_; first
        | exact AllO.nil
        | (refine AllO.cons (One.ev hA tabOk ?_) ?_ <;> (first | refine AllO.pass ?_ | ((conv => lhs; cbv); done)))
        | (refine AllO.cons (One.skipB ?_) ?_ <;> (first | refine AllO.pass ?_ | ((conv => lhs; cbv); done)))
        | ((with_reducible refine AllO.call (by conv => lhs; cbv) (hlay) ?_ ?_) <;> (first | refine AllO.pass ?_ | exact rfl | (((try simp only [zn]) <;> (try simp (disch := omega) only [zz hA, zb, zy, reduceCtorEq, Bool.false_eq_true, Int.reduceLT, Int.reduceLE, Int.reduceNeg]) <;> (try simp only [zw])) <;> omega)))
        | ((first | refine AllO.consX (One.elemM hA tabOk rfl rfl rfl rfl ?_ ?_) rfl rfl ?_ | refine AllO.consX (One.concatM hA rfl rfl rfl ?_) rfl rfl ?_ | refine AllO.consX (One.lenOwnM hA tabOk rfl rfl rfl rfl) rfl rfl ?_ | refine AllO.consX (One.elemOwnM hA tabOk rfl rfl rfl rfl rfl ?_ ?_) rfl rfl ?_ | refine AllO.consX (One.loadRatM hA tabOk rfl rfl rfl rfl rfl rfl ?_) rfl rfl ?_) <;> (first | refine AllO.pass ?_ | (((try simp only [zn]) <;> (try simp (disch := omega) only [zz hA, zb, zy, reduceCtorEq, Bool.false_eq_true, Int.reduceLT, Int.reduceLE, Int.reduceNeg]) <;> (try simp only [zw])) <;> omega))))
    | refine Thn.exit ?_
    | refine Blk.here ?_
    | refine Blk.other (by decide) ?_
    | refine ⟨.inl rfl, _, RetOk.ev tabOk (by conv => lhs; cbv), ?_⟩
    | fail)
  refine AWp.recell 1 [.ic (.sl 1 false (hid A (List.map (encK A) (newK 0)))), .ic (.sl 1 false (hid A (List.map encI (layM (newK 0)))))] rfl (.cons (by rw [hid_eq hA]; exact .nil _ _ _) (.cons (.refl _) .nil)) ?_
  refine AWp.norm (by conv => lhs; cbv) ?_
  refine AWp.loopU (fun i : Nat => [(8, .ic (.lit (.int .i64 (pickI i))))]) (fun i => [.var true 25 [.ic (.sl 0 true []), .ic (.sl 0 true [])], .var true 25 [.ic (.sl 1 false (hid A (List.map (encK A) (newK i)))), .ic (.sl 1 false (hid A (List.map encI (layM (newK i)))))]]) (fun i => 2 - i) (fun i => i ≤ 2) 0 (by conv => lhs; cbv) (by omega) (.int rfl rfl .nil) rfl ?_
  intro i hi
  match i, hi with
  | 0, _ =>
    have hput := put_c hA (newK 0) (keyT 0 0 0 []) (newK_nodup 0) (by have := newK_len 0; omega) (newK_row 0) (by simp [keyT])
    have hkey := key_c hA 0 0 0 [] (by simp)
    rw [show putK (newK 0) (keyT 0 0 0 []) = newK 1 by rfl] at hput
    generalize hK0 : newK 0 = K0 at *
    generalize hK1 : newK 1 = K1 at *
    generalize keyT 0 0 0 [] = q at *
    try first | refine AOLg.of [] ?_ | refine QSg.of [] ?_
    repeat' (first
      | (refine AWp.pass ?_; first
          | refine AWp.seq ?_
          | refine AWp.block ?_
          | refine AWp.skip ?_
          | refine AWp.regG [] (by conv => lhs; cbv) ?_
          | refine AWp.cond_t rfl ?_
          | refine AWp.cond_f rfl ?_
          | (refine AWp.cond rfl ?_ ?_ <;> intro hc <;> (try rw [hc]) <;> ((try simp only [zn] at hc) <;> (try simp (disch := omega) only [zz hA, zb, zy, reduceCtorEq, Bool.false_eq_true, Int.reduceLT, Int.reduceLE, Int.reduceNeg] at hc) <;> (try simp only [zw] at hc)) <;> (try (exfalso; omega)))
          | refine AWp.exit ?_
          | refine AWp.ret ⟨.inr rfl, _, RetOk.ev tabOk (by conv => lhs; cbv), ?_⟩
          | refine AWp.drawVG [] rfl (by decide +kernel) (by conv => lhs; cbv) ?_)
      | (refine AOLg.pass ?_; refine AOLg.nx hA tabOk (by conv => lhs; cbv) ?_; first
          | refine NX.done ?_
          | refine NX.gt ?_
          | refine NX.gf ?_
          | (refine NX.gs ?_ ?_ <;> intro hc <;> rw [hc] <;> ((try simp only [zn] at hc) <;> (try simp (disch := omega) only [zz hA, zb, zy, reduceCtorEq, Bool.false_eq_true, Int.reduceLT, Int.reduceLE, Int.reduceNeg] at hc) <;> (try simp only [zw] at hc)) <;> (try (exfalso; omega)))
          | (refine NX.kC ?_; first | (with_reducible refine NX.call (hkey) ?_) | (with_reducible refine NX.call (hput) ?_) | (refine NX.call (PureCalls.weaken (hkey) ?_) ?_ <;> (first | refine AOLg.pass ?_ | ((with_reducible repeat' (first | exact PLes.nil | exact ILes.nil | refine PLes.cons (PLe.refl _) ?_ | refine PLes.cons (PLe.c (ILe.nilM hA _ _ _ _)) ?_ | refine PLes.cons (PLe.agg ?_) ?_ | refine ILes.cons (ILe.refl _) ?_ | refine ILes.cons (ILe.nilM hA _ _ _ _) ?_)); done) | (((try simp only [zn]) <;> (try simp (disch := omega) only [zz hA, zb, zy, reduceCtorEq, Bool.false_eq_true, Int.reduceLT, Int.reduceLE, Int.reduceNeg]) <;> (try simp only [zw])) <;> omega))) | ((first | refine NX.call (hkey) ?_ | refine NX.call (hput) ?_)) | fail)
          | (refine NX.kO ?_; (first | refine NX.callO (hkey) (by simp [allEq]) rfl ?_ | refine NX.callO (hput) (by simp [allEq]) rfl ?_))
          | ((first | (refine NX.k 1 ?_; first | refine NX.one (One.elemM hA tabOk rfl rfl rfl rfl ?_ ?_) ?_ | refine NX.one (One.elemOwnM hA tabOk rfl rfl rfl rfl rfl ?_ ?_) ?_) | (refine NX.k 7 ?_; first | refine NX.one (One.concatM hA rfl rfl rfl ?_) ?_) | (refine NX.k 10 ?_; first | refine NX.one (One.lenOwnM hA tabOk rfl rfl rfl rfl) ?_) | (refine NX.k 14 ?_; first | refine NX.one (One.loadRatM hA tabOk rfl rfl rfl rfl rfl rfl ?_) ?_) | (refine NX.k 15 ?_; first | refine NX.one (One.storeRatM hA tabOk _ rfl rfl rfl rfl rfl rfl rfl rfl (fun _ => rfl) ?_) ?_) | (refine NX.k 17 ?_; first | refine NX.one (One.build0 tabOk rfl rfl) ?_)) <;> (first | refine AOLg.pass ?_ | (((try simp only [zn]) <;> (try simp (disch := omega) only [zz hA, zb, zy, reduceCtorEq, Bool.false_eq_true, Int.reduceLT, Int.reduceLE, Int.reduceNeg]) <;> (try simp only [zw])) <;> omega)))
          | (refine NX.one (One.elem tabOk rfl rfl rfl rfl (by decide) rfl) ?_)
          | refine NX.raw ?_)
      | (refine TRg.pass ?_; refine TRg.nx hA tabOk (by conv => lhs; cbv) ?_; first
          | refine TX.done ?_
          | refine TX.gt ?_
          | refine TX.gf ?_
          | (refine TX.gs ?_ ?_ <;> intro hc <;> rw [hc] <;> ((try simp only [zn] at hc) <;> (try simp (disch := omega) only [zz hA, zb, zy, reduceCtorEq, Bool.false_eq_true, Int.reduceLT, Int.reduceLE, Int.reduceNeg] at hc) <;> (try simp only [zw] at hc)) <;> (try (exfalso; omega)))
          | (refine TX.kC ?_; first | (with_reducible refine TX.call (hkey) ?_) | (with_reducible refine TX.call (hput) ?_) | (refine TX.call (PureCalls.weaken (hkey) ?_) ?_ <;> (first | refine TRg.pass ?_ | ((with_reducible repeat' (first | exact PLes.nil | exact ILes.nil | refine PLes.cons (PLe.refl _) ?_ | refine PLes.cons (PLe.c (ILe.nilM hA _ _ _ _)) ?_ | refine PLes.cons (PLe.agg ?_) ?_ | refine ILes.cons (ILe.refl _) ?_ | refine ILes.cons (ILe.nilM hA _ _ _ _) ?_)); done) | (((try simp only [zn]) <;> (try simp (disch := omega) only [zz hA, zb, zy, reduceCtorEq, Bool.false_eq_true, Int.reduceLT, Int.reduceLE, Int.reduceNeg]) <;> (try simp only [zw])) <;> omega))) | ((first | refine TX.call (hkey) ?_ | refine TX.call (hput) ?_)) | fail)
          | (refine TX.kO ?_; (first | refine TX.callO (hkey) (by simp [allEq]) rfl ?_ | refine TX.callO (hput) (by simp [allEq]) rfl ?_))
          | ((first | (refine TX.k 1 ?_; first | refine TX.one (One.elemM hA tabOk rfl rfl rfl rfl ?_ ?_) ?_ | refine TX.one (One.elemOwnM hA tabOk rfl rfl rfl rfl rfl ?_ ?_) ?_) | (refine TX.k 7 ?_; first | refine TX.one (One.concatM hA rfl rfl rfl ?_) ?_) | (refine TX.k 10 ?_; first | refine TX.one (One.lenOwnM hA tabOk rfl rfl rfl rfl) ?_) | (refine TX.k 14 ?_; first | refine TX.one (One.loadRatM hA tabOk rfl rfl rfl rfl rfl rfl ?_) ?_) | (refine TX.k 15 ?_; first | refine TX.one (One.storeRatM hA tabOk _ rfl rfl rfl rfl rfl rfl rfl rfl (fun _ => rfl) ?_) ?_) | (refine TX.k 17 ?_; first | refine TX.one (One.build0 tabOk rfl rfl) ?_)) <;> (first | refine TRg.pass ?_ | (((try simp only [zn]) <;> (try simp (disch := omega) only [zz hA, zb, zy, reduceCtorEq, Bool.false_eq_true, Int.reduceLT, Int.reduceLE, Int.reduceNeg]) <;> (try simp only [zw])) <;> omega)))
          | (refine TX.one (One.elem tabOk rfl rfl rfl rfl (by decide) rfl) ?_)
          | refine TX.raw ?_)
      | refine Fin3.of (by conv => lhs; cbv) (by repeat' (first | exact True.intro | exact rfl | refine And.intro ?_ ?_)) ?_ ?_
      | (refine AllO.pass ?_; first
          | exact AllO.nil
          | (refine AllO.cons (One.ev hA tabOk ?_) ?_ <;> (first | refine AllO.pass ?_ | ((conv => lhs; cbv); done)))
          | (refine AllO.cons (One.skipB ?_) ?_ <;> (first | refine AllO.pass ?_ | ((conv => lhs; cbv); done)))
          | ((with_reducible refine AllO.call (by conv => lhs; cbv) (hkey) ?_ ?_) <;> (first | refine AllO.pass ?_ | exact rfl | (((try simp only [zn]) <;> (try simp (disch := omega) only [zz hA, zb, zy, reduceCtorEq, Bool.false_eq_true, Int.reduceLT, Int.reduceLE, Int.reduceNeg]) <;> (try simp only [zw])) <;> omega)))
          | ((with_reducible refine AllO.call (by conv => lhs; cbv) (hput) ?_ ?_) <;> (first | refine AllO.pass ?_ | exact rfl | (((try simp only [zn]) <;> (try simp (disch := omega) only [zz hA, zb, zy, reduceCtorEq, Bool.false_eq_true, Int.reduceLT, Int.reduceLE, Int.reduceNeg]) <;> (try simp only [zw])) <;> omega)))
          | ((first | refine AllO.consX (One.elemM hA tabOk rfl rfl rfl rfl ?_ ?_) rfl rfl ?_ | refine AllO.consX (One.concatM hA rfl rfl rfl ?_) rfl rfl ?_ | refine AllO.consX (One.lenOwnM hA tabOk rfl rfl rfl rfl) rfl rfl ?_ | refine AllO.consX (One.elemOwnM hA tabOk rfl rfl rfl rfl rfl ?_ ?_) rfl rfl ?_ | refine AllO.consX (One.loadRatM hA tabOk rfl rfl rfl rfl rfl rfl ?_) rfl rfl ?_) <;> (first | refine AllO.pass ?_ | (((try simp only [zn]) <;> (try simp (disch := omega) only [zz hA, zb, zy, reduceCtorEq, Bool.false_eq_true, Int.reduceLT, Int.reduceLE, Int.reduceNeg]) <;> (try simp only [zw])) <;> omega))))
      | refine Thn.exit ?_
      | refine Blk.here ?_
      | refine Blk.other (by decide) ?_
      | refine ⟨.inl rfl, _, RetOk.ev tabOk (by conv => lhs; cbv), ?_⟩
      | fail)
    refine ⟨1, ?_, ?_, rfl, ?_, ?_, (by repeat' (first | exact subE.nil | refine subE.cons rfl ?_))⟩ <;> (try omega)
    · rw [hK1]
    · exact .int rfl (by show _ = (1 : Int); (((try simp only [zn]) <;> (try simp (disch := omega) only [zz hA, zb, zy, reduceCtorEq, Bool.false_eq_true, Int.reduceLT, Int.reduceLE, Int.reduceNeg]) <;> (try simp only [zw])) <;> omega)) .nil
  | 1, _ =>
    have hput := put_c hA (newK 1) (keyT 1 0 0 []) (newK_nodup 1) (by have := newK_len 1; omega) (newK_row 1) (by simp [keyT])
    have hkey := key_c hA 1 0 0 [] (by simp)
    rw [show putK (newK 1) (keyT 1 0 0 []) = newK 2 by rfl] at hput
    generalize hK1 : newK 1 = K1 at *
    generalize hK2 : newK 2 = K2 at *
    generalize keyT 1 0 0 [] = q at *
    try first | refine AOLg.of [] ?_ | refine QSg.of [] ?_
    repeat' (first
      | (refine AWp.pass ?_; first
          | refine AWp.seq ?_
          | refine AWp.block ?_
          | refine AWp.skip ?_
          | refine AWp.regG [] (by conv => lhs; cbv) ?_
          | refine AWp.cond_t rfl ?_
          | refine AWp.cond_f rfl ?_
          | (refine AWp.cond rfl ?_ ?_ <;> intro hc <;> (try rw [hc]) <;> ((try simp only [zn] at hc) <;> (try simp (disch := omega) only [zz hA, zb, zy, reduceCtorEq, Bool.false_eq_true, Int.reduceLT, Int.reduceLE, Int.reduceNeg] at hc) <;> (try simp only [zw] at hc)) <;> (try (exfalso; omega)))
          | refine AWp.exit ?_
          | refine AWp.ret ⟨.inr rfl, _, RetOk.ev tabOk (by conv => lhs; cbv), ?_⟩
          | refine AWp.drawVG [] rfl (by decide +kernel) (by conv => lhs; cbv) ?_)
      | (refine AOLg.pass ?_; refine AOLg.nx hA tabOk (by conv => lhs; cbv) ?_; first
          | refine NX.done ?_
          | refine NX.gt ?_
          | refine NX.gf ?_
          | (refine NX.gs ?_ ?_ <;> intro hc <;> rw [hc] <;> ((try simp only [zn] at hc) <;> (try simp (disch := omega) only [zz hA, zb, zy, reduceCtorEq, Bool.false_eq_true, Int.reduceLT, Int.reduceLE, Int.reduceNeg] at hc) <;> (try simp only [zw] at hc)) <;> (try (exfalso; omega)))
          | (refine NX.kC ?_; first | (with_reducible refine NX.call (hkey) ?_) | (with_reducible refine NX.call (hput) ?_) | (refine NX.call (PureCalls.weaken (hkey) ?_) ?_ <;> (first | refine AOLg.pass ?_ | ((with_reducible repeat' (first | exact PLes.nil | exact ILes.nil | refine PLes.cons (PLe.refl _) ?_ | refine PLes.cons (PLe.c (ILe.nilM hA _ _ _ _)) ?_ | refine PLes.cons (PLe.agg ?_) ?_ | refine ILes.cons (ILe.refl _) ?_ | refine ILes.cons (ILe.nilM hA _ _ _ _) ?_)); done) | (((try simp only [zn]) <;> (try simp (disch := omega) only [zz hA, zb, zy, reduceCtorEq, Bool.false_eq_true, Int.reduceLT, Int.reduceLE, Int.reduceNeg]) <;> (try simp only [zw])) <;> omega))) | ((first | refine NX.call (hkey) ?_ | refine NX.call (hput) ?_)) | fail)
          | (refine NX.kO ?_; (first | refine NX.callO (hkey) (by simp [allEq]) rfl ?_ | refine NX.callO (hput) (by simp [allEq]) rfl ?_))
          | ((first | (refine NX.k 1 ?_; first | refine NX.one (One.elemM hA tabOk rfl rfl rfl rfl ?_ ?_) ?_ | refine NX.one (One.elemOwnM hA tabOk rfl rfl rfl rfl rfl ?_ ?_) ?_) | (refine NX.k 7 ?_; first | refine NX.one (One.concatM hA rfl rfl rfl ?_) ?_) | (refine NX.k 10 ?_; first | refine NX.one (One.lenOwnM hA tabOk rfl rfl rfl rfl) ?_) | (refine NX.k 14 ?_; first | refine NX.one (One.loadRatM hA tabOk rfl rfl rfl rfl rfl rfl ?_) ?_) | (refine NX.k 15 ?_; first | refine NX.one (One.storeRatM hA tabOk _ rfl rfl rfl rfl rfl rfl rfl rfl (fun _ => rfl) ?_) ?_) | (refine NX.k 17 ?_; first | refine NX.one (One.build0 tabOk rfl rfl) ?_)) <;> (first | refine AOLg.pass ?_ | (((try simp only [zn]) <;> (try simp (disch := omega) only [zz hA, zb, zy, reduceCtorEq, Bool.false_eq_true, Int.reduceLT, Int.reduceLE, Int.reduceNeg]) <;> (try simp only [zw])) <;> omega)))
          | (refine NX.one (One.elem tabOk rfl rfl rfl rfl (by decide) rfl) ?_)
          | refine NX.raw ?_)
      | (refine TRg.pass ?_; refine TRg.nx hA tabOk (by conv => lhs; cbv) ?_; first
          | refine TX.done ?_
          | refine TX.gt ?_
          | refine TX.gf ?_
          | (refine TX.gs ?_ ?_ <;> intro hc <;> rw [hc] <;> ((try simp only [zn] at hc) <;> (try simp (disch := omega) only [zz hA, zb, zy, reduceCtorEq, Bool.false_eq_true, Int.reduceLT, Int.reduceLE, Int.reduceNeg] at hc) <;> (try simp only [zw] at hc)) <;> (try (exfalso; omega)))
          | (refine TX.kC ?_; first | (with_reducible refine TX.call (hkey) ?_) | (with_reducible refine TX.call (hput) ?_) | (refine TX.call (PureCalls.weaken (hkey) ?_) ?_ <;> (first | refine TRg.pass ?_ | ((with_reducible repeat' (first | exact PLes.nil | exact ILes.nil | refine PLes.cons (PLe.refl _) ?_ | refine PLes.cons (PLe.c (ILe.nilM hA _ _ _ _)) ?_ | refine PLes.cons (PLe.agg ?_) ?_ | refine ILes.cons (ILe.refl _) ?_ | refine ILes.cons (ILe.nilM hA _ _ _ _) ?_)); done) | (((try simp only [zn]) <;> (try simp (disch := omega) only [zz hA, zb, zy, reduceCtorEq, Bool.false_eq_true, Int.reduceLT, Int.reduceLE, Int.reduceNeg]) <;> (try simp only [zw])) <;> omega))) | ((first | refine TX.call (hkey) ?_ | refine TX.call (hput) ?_)) | fail)
          | (refine TX.kO ?_; (first | refine TX.callO (hkey) (by simp [allEq]) rfl ?_ | refine TX.callO (hput) (by simp [allEq]) rfl ?_))
          | ((first | (refine TX.k 1 ?_; first | refine TX.one (One.elemM hA tabOk rfl rfl rfl rfl ?_ ?_) ?_ | refine TX.one (One.elemOwnM hA tabOk rfl rfl rfl rfl rfl ?_ ?_) ?_) | (refine TX.k 7 ?_; first | refine TX.one (One.concatM hA rfl rfl rfl ?_) ?_) | (refine TX.k 10 ?_; first | refine TX.one (One.lenOwnM hA tabOk rfl rfl rfl rfl) ?_) | (refine TX.k 14 ?_; first | refine TX.one (One.loadRatM hA tabOk rfl rfl rfl rfl rfl rfl ?_) ?_) | (refine TX.k 15 ?_; first | refine TX.one (One.storeRatM hA tabOk _ rfl rfl rfl rfl rfl rfl rfl rfl (fun _ => rfl) ?_) ?_) | (refine TX.k 17 ?_; first | refine TX.one (One.build0 tabOk rfl rfl) ?_)) <;> (first | refine TRg.pass ?_ | (((try simp only [zn]) <;> (try simp (disch := omega) only [zz hA, zb, zy, reduceCtorEq, Bool.false_eq_true, Int.reduceLT, Int.reduceLE, Int.reduceNeg]) <;> (try simp only [zw])) <;> omega)))
          | (refine TX.one (One.elem tabOk rfl rfl rfl rfl (by decide) rfl) ?_)
          | refine TX.raw ?_)
      | refine Fin3.of (by conv => lhs; cbv) (by repeat' (first | exact True.intro | exact rfl | refine And.intro ?_ ?_)) ?_ ?_
      | (refine AllO.pass ?_; first
          | exact AllO.nil
          | (refine AllO.cons (One.ev hA tabOk ?_) ?_ <;> (first | refine AllO.pass ?_ | ((conv => lhs; cbv); done)))
          | (refine AllO.cons (One.skipB ?_) ?_ <;> (first | refine AllO.pass ?_ | ((conv => lhs; cbv); done)))
          | ((with_reducible refine AllO.call (by conv => lhs; cbv) (hkey) ?_ ?_) <;> (first | refine AllO.pass ?_ | exact rfl | (((try simp only [zn]) <;> (try simp (disch := omega) only [zz hA, zb, zy, reduceCtorEq, Bool.false_eq_true, Int.reduceLT, Int.reduceLE, Int.reduceNeg]) <;> (try simp only [zw])) <;> omega)))
          | ((with_reducible refine AllO.call (by conv => lhs; cbv) (hput) ?_ ?_) <;> (first | refine AllO.pass ?_ | exact rfl | (((try simp only [zn]) <;> (try simp (disch := omega) only [zz hA, zb, zy, reduceCtorEq, Bool.false_eq_true, Int.reduceLT, Int.reduceLE, Int.reduceNeg]) <;> (try simp only [zw])) <;> omega)))
          | ((first | refine AllO.consX (One.elemM hA tabOk rfl rfl rfl rfl ?_ ?_) rfl rfl ?_ | refine AllO.consX (One.concatM hA rfl rfl rfl ?_) rfl rfl ?_ | refine AllO.consX (One.lenOwnM hA tabOk rfl rfl rfl rfl) rfl rfl ?_ | refine AllO.consX (One.elemOwnM hA tabOk rfl rfl rfl rfl rfl ?_ ?_) rfl rfl ?_ | refine AllO.consX (One.loadRatM hA tabOk rfl rfl rfl rfl rfl rfl ?_) rfl rfl ?_) <;> (first | refine AllO.pass ?_ | (((try simp only [zn]) <;> (try simp (disch := omega) only [zz hA, zb, zy, reduceCtorEq, Bool.false_eq_true, Int.reduceLT, Int.reduceLE, Int.reduceNeg]) <;> (try simp only [zw])) <;> omega))))
      | refine Thn.exit ?_
      | refine Blk.here ?_
      | refine Blk.other (by decide) ?_
      | refine ⟨.inl rfl, _, RetOk.ev tabOk (by conv => lhs; cbv), ?_⟩
      | fail)
    refine ⟨2, ?_, ?_, rfl, ?_, ?_, (by repeat' (first | exact subE.nil | refine subE.cons rfl ?_))⟩ <;> (try omega)
    · rw [hK2]
    · exact .int rfl (by show _ = (2 : Int); (((try simp only [zn]) <;> (try simp (disch := omega) only [zz hA, zb, zy, reduceCtorEq, Bool.false_eq_true, Int.reduceLT, Int.reduceLE, Int.reduceNeg]) <;> (try simp only [zw])) <;> omega)) .nil
  | 2, _ =>
    try first | refine AOLg.of [] ?_ | refine QSg.of [] ?_
    repeat' (first
      | (refine AWp.pass ?_; first
          | refine AWp.seq ?_
          | refine AWp.block ?_
          | refine AWp.skip ?_
          | refine AWp.regG [] (by conv => lhs; cbv) ?_
          | refine AWp.cond_t rfl ?_
          | refine AWp.cond_f rfl ?_
          | (refine AWp.cond rfl ?_ ?_ <;> intro hc <;> (try rw [hc]) <;> ((try simp only [zn] at hc) <;> (try simp (disch := omega) only [zz hA, zb, zy, reduceCtorEq, Bool.false_eq_true, Int.reduceLT, Int.reduceLE, Int.reduceNeg] at hc) <;> (try simp only [zw] at hc)) <;> (try (exfalso; omega)))
          | refine AWp.exit ?_
          | refine AWp.ret ⟨.inr rfl, _, RetOk.ev tabOk (by conv => lhs; cbv), ?_⟩
          | refine AWp.drawVG [] rfl (by decide +kernel) (by conv => lhs; cbv) ?_)
      | (refine AOLg.pass ?_; refine AOLg.nx hA tabOk (by conv => lhs; cbv) ?_; first
          | refine NX.done ?_
          | refine NX.gt ?_
          | refine NX.gf ?_
          | (refine NX.gs ?_ ?_ <;> intro hc <;> rw [hc] <;> ((try simp only [zn] at hc) <;> (try simp (disch := omega) only [zz hA, zb, zy, reduceCtorEq, Bool.false_eq_true, Int.reduceLT, Int.reduceLE, Int.reduceNeg] at hc) <;> (try simp only [zw] at hc)) <;> (try (exfalso; omega)))
          | ((first | (refine NX.k 1 ?_; first | refine NX.one (One.elemM hA tabOk rfl rfl rfl rfl ?_ ?_) ?_ | refine NX.one (One.elemOwnM hA tabOk rfl rfl rfl rfl rfl ?_ ?_) ?_) | (refine NX.k 7 ?_; first | refine NX.one (One.concatM hA rfl rfl rfl ?_) ?_) | (refine NX.k 10 ?_; first | refine NX.one (One.lenOwnM hA tabOk rfl rfl rfl rfl) ?_) | (refine NX.k 14 ?_; first | refine NX.one (One.loadRatM hA tabOk rfl rfl rfl rfl rfl rfl ?_) ?_) | (refine NX.k 15 ?_; first | refine NX.one (One.storeRatM hA tabOk _ rfl rfl rfl rfl rfl rfl rfl rfl (fun _ => rfl) ?_) ?_) | (refine NX.k 17 ?_; first | refine NX.one (One.build0 tabOk rfl rfl) ?_)) <;> (first | refine AOLg.pass ?_ | (((try simp only [zn]) <;> (try simp (disch := omega) only [zz hA, zb, zy, reduceCtorEq, Bool.false_eq_true, Int.reduceLT, Int.reduceLE, Int.reduceNeg]) <;> (try simp only [zw])) <;> omega)))
          | refine NX.raw ?_)
      | (refine TRg.pass ?_; refine TRg.nx hA tabOk (by conv => lhs; cbv) ?_; first
          | refine TX.done ?_
          | refine TX.gt ?_
          | refine TX.gf ?_
          | (refine TX.gs ?_ ?_ <;> intro hc <;> rw [hc] <;> ((try simp only [zn] at hc) <;> (try simp (disch := omega) only [zz hA, zb, zy, reduceCtorEq, Bool.false_eq_true, Int.reduceLT, Int.reduceLE, Int.reduceNeg] at hc) <;> (try simp only [zw] at hc)) <;> (try (exfalso; omega)))
          | ((first | (refine TX.k 1 ?_; first | refine TX.one (One.elemM hA tabOk rfl rfl rfl rfl ?_ ?_) ?_ | refine TX.one (One.elemOwnM hA tabOk rfl rfl rfl rfl rfl ?_ ?_) ?_) | (refine TX.k 7 ?_; first | refine TX.one (One.concatM hA rfl rfl rfl ?_) ?_) | (refine TX.k 10 ?_; first | refine TX.one (One.lenOwnM hA tabOk rfl rfl rfl rfl) ?_) | (refine TX.k 14 ?_; first | refine TX.one (One.loadRatM hA tabOk rfl rfl rfl rfl rfl rfl ?_) ?_) | (refine TX.k 15 ?_; first | refine TX.one (One.storeRatM hA tabOk _ rfl rfl rfl rfl rfl rfl rfl rfl (fun _ => rfl) ?_) ?_) | (refine TX.k 17 ?_; first | refine TX.one (One.build0 tabOk rfl rfl) ?_)) <;> (first | refine TRg.pass ?_ | (((try simp only [zn]) <;> (try simp (disch := omega) only [zz hA, zb, zy, reduceCtorEq, Bool.false_eq_true, Int.reduceLT, Int.reduceLE, Int.reduceNeg]) <;> (try simp only [zw])) <;> omega)))
          | refine TX.raw ?_)
      | refine Fin3.of (by conv => lhs; cbv) (by repeat' (first | exact True.intro | exact rfl | refine And.intro ?_ ?_)) ?_ ?_
      | (refine AllO.pass ?_; first
          | exact AllO.nil
          | (refine AllO.cons (One.ev hA tabOk ?_) ?_ <;> (first | refine AllO.pass ?_ | ((conv => lhs; cbv); done)))
          | (refine AllO.cons (One.skipB ?_) ?_ <;> (first | refine AllO.pass ?_ | ((conv => lhs; cbv); done)))
          | ((first | refine AllO.consX (One.elemM hA tabOk rfl rfl rfl rfl ?_ ?_) rfl rfl ?_ | refine AllO.consX (One.concatM hA rfl rfl rfl ?_) rfl rfl ?_ | refine AllO.consX (One.lenOwnM hA tabOk rfl rfl rfl rfl) rfl rfl ?_ | refine AllO.consX (One.elemOwnM hA tabOk rfl rfl rfl rfl rfl ?_ ?_) rfl rfl ?_ | refine AllO.consX (One.loadRatM hA tabOk rfl rfl rfl rfl rfl rfl ?_) rfl rfl ?_) <;> (first | refine AllO.pass ?_ | (((try simp only [zn]) <;> (try simp (disch := omega) only [zz hA, zb, zy, reduceCtorEq, Bool.false_eq_true, Int.reduceLT, Int.reduceLE, Int.reduceNeg]) <;> (try simp only [zw])) <;> omega))))
      | refine Thn.exit ?_
      | refine Blk.here ?_
      | refine Blk.other (by decide) ?_
      | refine ⟨.inl rfl, _, RetOk.ev tabOk (by conv => lhs; cbv), ?_⟩
      | fail)
    refine rPV_then (by conv => lhs; cbv) ?_
    rfl
set_option maxHeartbeats 4000000 in
theorem shown3_c : PureCalls Try.prog 26 [] (BP true) := by
  have hm := mayM_new 2 (by decide) 2
  have he : putTe [] (newK 2) 2 0 0 [] 9 = 0 := by
    unfold putTe
    rw [if_pos (by exact hm), if_neg (by decide)]
  have hk : putTK [] (newK 2) 2 0 0 [] 9 = newK 3 := by
    unfold putTK; rw [if_pos he]; rfl
  have hi : putTi [] (newK 2) 2 0 0 [] 9 = 2 := by
    unfold putTi; rw [if_pos he]; rfl
  have hput := tPut_c hA [] (newK 2) 2 0 0 [] 9 (by decide) (by decide) (by simp [FitG]) (newK_nodup 2) (by decide) (newK_row 2)
  rw [he, hk, hi] at hput
  have hr := tRight_c hA [] (newK 3) (layM (newK 3)) (by decide) (by simp [FitG]) (by decide) (newK_row 3) (by have := layM_len (newK 3); have := sizeM_bound (newK 3).length; have := newK_len 3; omega)
  rw [right3, hid_eq hA (α := Bool)] at hr
  have hbl := below_c hA (newK 3) (layM (newK 3)) 2 down3 (by decide) (newK_row 3) (by decide)
  have hb1 : (belowM (newK 3) 2).length = 1 := by decide
  have hl3 : (newK 3).length = 3 := rfl
  have hnew := tNew_c hA
  clear hm he hk hi
  generalize newK 3 = K3 at *
  generalize newK 2 = K2 at *
  generalize belowM K3 2 = b at *
  refine PureCalls.of Try.func26 rfl (by kernel_rfl) rfl ?_
  try first | refine AOLg.of [] ?_ | refine QSg.of [] ?_
  repeat' (first
    | (refine AWp.pass ?_; first
        | refine AWp.seq ?_
        | refine AWp.block ?_
        | refine AWp.skip ?_
        | refine AWp.regG [] (by conv => lhs; cbv) ?_
        | refine AWp.cond_t rfl ?_
        | refine AWp.cond_f rfl ?_
        | (refine AWp.cond rfl ?_ ?_ <;> intro hc <;> (try rw [hc]) <;> ((try simp only [zn] at hc) <;> (try simp (disch := omega) only [zz hA, zb, zy, reduceCtorEq, Bool.false_eq_true, Int.reduceLT, Int.reduceLE, Int.reduceNeg] at hc) <;> (try simp only [zw] at hc)) <;> (try (exfalso; omega)))
        | refine AWp.exit ?_
        | refine AWp.ret ⟨.inr rfl, _, RetOk.ev tabOk (by conv => lhs; cbv), ?_⟩)
    | (refine AOLg.pass ?_; refine AOLg.nx hA tabOk (by conv => lhs; cbv) ?_; first
        | refine NX.done ?_
        | refine NX.gt ?_
        | refine NX.gf ?_
        | (refine NX.gs ?_ ?_ <;> intro hc <;> rw [hc] <;> ((try simp only [zn] at hc) <;> (try simp (disch := omega) only [zz hA, zb, zy, reduceCtorEq, Bool.false_eq_true, Int.reduceLT, Int.reduceLE, Int.reduceNeg] at hc) <;> (try simp only [zw] at hc)) <;> (try (exfalso; omega)))
        | (refine NX.kC ?_; first | (with_reducible refine NX.call (hnew) ?_) | (with_reducible refine NX.call (hput) ?_) | (with_reducible refine NX.call (hr) ?_) | ((with_reducible refine NX.call (hbl _ ?_) ?_) <;> (first | refine AOLg.pass ?_ | (((try simp only [zn]) <;> (try simp (disch := omega) only [zz hA, zb, zy, reduceCtorEq, Bool.false_eq_true, Int.reduceLT, Int.reduceLE, Int.reduceNeg]) <;> (try simp only [zw])) <;> omega))) | (refine NX.call (PureCalls.weaken (hput) ?_) ?_ <;> (first | refine AOLg.pass ?_ | ((with_reducible repeat' (first | exact PLes.nil | exact ILes.nil | refine PLes.cons (PLe.refl _) ?_ | refine PLes.cons (PLe.c (ILe.nilM hA _ _ _ _)) ?_ | refine PLes.cons (PLe.agg ?_) ?_ | refine ILes.cons (ILe.refl _) ?_ | refine ILes.cons (ILe.nilM hA _ _ _ _) ?_)); done) | (((try simp only [zn]) <;> (try simp (disch := omega) only [zz hA, zb, zy, reduceCtorEq, Bool.false_eq_true, Int.reduceLT, Int.reduceLE, Int.reduceNeg]) <;> (try simp only [zw])) <;> omega))) | (refine NX.call (PureCalls.weaken (hr) ?_) ?_ <;> (first | refine AOLg.pass ?_ | ((with_reducible repeat' (first | exact PLes.nil | exact ILes.nil | refine PLes.cons (PLe.refl _) ?_ | refine PLes.cons (PLe.c (ILe.nilM hA _ _ _ _)) ?_ | refine PLes.cons (PLe.agg ?_) ?_ | refine ILes.cons (ILe.refl _) ?_ | refine ILes.cons (ILe.nilM hA _ _ _ _) ?_)); done) | (((try simp only [zn]) <;> (try simp (disch := omega) only [zz hA, zb, zy, reduceCtorEq, Bool.false_eq_true, Int.reduceLT, Int.reduceLE, Int.reduceNeg]) <;> (try simp only [zw])) <;> omega))) | ((first | refine NX.call (hnew) ?_ | refine NX.call (hput) ?_ | refine NX.call (hr) ?_ | refine NX.call (hbl _ ?_) ?_) <;> (first | refine AOLg.pass ?_ | (((try simp only [zn]) <;> (try simp (disch := omega) only [zz hA, zb, zy, reduceCtorEq, Bool.false_eq_true, Int.reduceLT, Int.reduceLE, Int.reduceNeg]) <;> (try simp only [zw])) <;> omega))) | fail)
        | (refine NX.kO ?_; (first | refine NX.callO (hnew) (by simp [allEq]) rfl ?_ | refine NX.callO (hput) (by simp [allEq]) rfl ?_ | refine NX.callO (hr) (by simp [allEq]) rfl ?_ | refine NX.callO (hbl _ ?_) (by simp [allEq]) rfl ?_) <;> (first | refine AOLg.pass ?_ | (((try simp only [zn]) <;> (try simp (disch := omega) only [zz hA, zb, zy, reduceCtorEq, Bool.false_eq_true, Int.reduceLT, Int.reduceLE, Int.reduceNeg]) <;> (try simp only [zw])) <;> omega)))
        | ((first | (refine NX.k 8 ?_; first | refine NX.one (One.eqBoolM hA tabOk rfl rfl rfl rfl rfl) ?_) | (refine NX.k 10 ?_; first | refine NX.one (One.lenOwnM hA tabOk rfl rfl rfl rfl) ?_) | (refine NX.k 14 ?_; first | refine NX.one (One.loadRatM hA tabOk rfl rfl rfl rfl rfl rfl ?_) ?_) | (refine NX.k 15 ?_; first | refine NX.one (One.storeRatM hA tabOk _ rfl rfl rfl rfl rfl rfl rfl rfl (fun _ => rfl) ?_) ?_) | (refine NX.k 18 ?_; first | refine NX.one (One.fieldRat tabOk rfl rfl rfl rfl (by decide) rfl rfl) ?_)) <;> (first | refine AOLg.pass ?_ | (((try simp only [zn]) <;> (try simp (disch := omega) only [zz hA, zb, zy, reduceCtorEq, Bool.false_eq_true, Int.reduceLT, Int.reduceLE, Int.reduceNeg]) <;> (try simp only [zw])) <;> omega)))
        | refine NX.raw ?_)
    | refine Thn.exit ?_
    | refine Blk.here ?_
    | refine Blk.other (by decide) ?_
    | refine ⟨.inl rfl, _, RetOk.ev tabOk (by conv => lhs; cbv), ?_⟩
    | fail)
  first | (exfalso; omega) | (refine rPV_then (by conv => lhs; cbv) ?_; rfl) | (refine rPV_then (by conv => lhs; cbv) ?_; refine congrArg (fun b => PV.c (IC.lit (Value.bool b))) ?_; ((try simp only [zn]) <;> (try simp (disch := omega) only [zz hA, zb, zy, reduceCtorEq, Bool.false_eq_true, Int.reduceLT, Int.reduceLE, Int.reduceNeg]) <;> (try simp only [zw])); done) | (refine rPV_then (by conv => lhs; cbv) ?_; refine congrArg (fun b => PV.c (IC.lit (Value.bool b))) ?_; ((try simp only [zn]) <;> (try simp (disch := omega) only [zz hA, zb, zy, reduceCtorEq, Bool.false_eq_true, Int.reduceLT, Int.reduceLE, Int.reduceNeg]) <;> (try simp only [zw])); omega) | fail
end Go.Proofs.Ytpphdaphbkepfaa.Aw

/- Law TermKeys. -/
set_option linter.unusedVariables false
set_option linter.unusedSimpArgs false
set_option linter.unusedSectionVars false
namespace Go.Proofs.Ytpphdaphbkepfaa.Aw
open Go Go.RowKit
set_option maxRecDepth 10000
attribute [local irreducible] AWp AOL QS One AOLg QSg NX QX TRg TX AllO Fin3
variable {A : Ar} (hA : A = real)
include hA
end Go.Proofs.Ytpphdaphbkepfaa.Aw

/- The arguments of the statements of term out of the row's data; the laws over them. -/
set_option linter.unusedVariables false
set_option linter.unusedSectionVars false
namespace Go.Proofs.Ytpphdaphbkepfaa.Aw
open Go Go.RowKit
def shTerm : List Sh := [.int .i64, .int .i64, .int .i64, .sl 8 (.int .i64)]
variable {A : Ar} (hA : A = real)
include hA
end Go.Proofs.Ytpphdaphbkepfaa.Aw

/- Plain law of Below: what it holds is what can be reached. -/
set_option linter.unusedVariables false
namespace Go.Proofs.Ytpphdaphbkepfaa.Aw
open Go Go.RowKit
inductive Rc (K : List (List Int)) (id : Nat) : Nat → Prop
  | refl : Rc K id id
  | step {m : Nat} {x : Int} : Rc K id m → x ∈ argsK K m → Rc K id x.toNat
theorem Rc_le {K : List (List Int)} {id n : Nat} (hd : Down K) (hi : id < K.length) (h : Rc K id n) : n ≤ id := by
  induction h with
  | refl => exact Nat.le_refl _
  | step h1 h2 ih =>
    have := (hd _ (by omega)).2 _ h2
    omega
theorem Rc_step {K : List (List Int)} {id m n : Nat} {x : Int} (h : Rc K id m) (hx : x ∈ argsK K m) (e : x.toNat = n) : Rc K id n := e ▸ h.step hx
theorem Rc_trans {K : List (List Int)} {a b c : Nat} (h : Rc K a b) (h2 : Rc K b c) : Rc K a c := by
  induction h2 with
  | refl => exact h
  | step _ hx ih => exact ih.step hx
/-- The first step. -/
theorem Rc_first {K : List (List Int)} {id n : Nat} (h : Rc K id n) : n = id ∨ ∃ x ∈ argsK K id, Rc K x.toNat n := by
  induction h with
  | refl => exact .inl rfl
  | @step m x h1 hx ih =>
    rcases ih with rfl | ⟨y, hy, h3⟩
    · exact .inr ⟨x, hx, .refl⟩
    · exact .inr ⟨y, hy, h3.step hx⟩
theorem markA_get (r : List Bool) (a : List Int) (p : Nat) (hp : p < r.length) : (markA r a).getD p default = true ↔ r.getD p default = true ∨ ∃ x ∈ a, x.toNat = p := by
  induction a generalizing r with
  | nil => simp [markA]
  | cons y a ih =>
    show (markA (r.set y.toNat true) a).getD p default = true ↔ _
    rw [ih _ (by rw [List.length_set]; exact hp)]
    have e : (r.set y.toNat true).getD p default = true ↔ r.getD p default = true ∨ y.toNat = p := by
      simp only [List.getD_eq_getElem?_getD, List.getElem?_set]
      by_cases h : y.toNat = p
      · simp [h, hp]
      · simp [h]
    rw [e]
    simp only [List.mem_cons, exists_eq_or_imp, or_assoc]
theorem belB_get {K : List (List Int)} {id : Nat} (hd : Down K) (hi : id < K.length) : ∀ k, k ≤ id + 1 → ∀ p, p ≤ id → ((belB K id k).getD p default = true ↔ (p = id ∨ ∃ m, id < m + k ∧ Rc K id m ∧ ∃ x ∈ argsK K m, x.toNat = p)) := by
  intro k
  induction k with
  | zero =>
    intro _ p hp
    have e : (belB K id 0).getD p default = true ↔ p = id := by
      show ((List.replicate (id + 1) false).set id true).getD p default = true ↔ _
      simp only [List.getD_eq_getElem?_getD, List.getElem?_set, List.getElem?_replicate, List.length_replicate]
      by_cases h : id = p
      · simp [h]
      · have h' : ¬ p = id := fun e => h e.symm
        simp only [if_neg h, h', iff_false]
        split <;> simp
    rw [e]
    constructor
    · exact .inl
    · rintro (h | ⟨m, h1, h2, _⟩)
      · exact h
      · have := Rc_le hd hi h2; omega
  | succ k ih =>
    intro hk p hp
    have ih := ih (by omega)
    have hc : (belB K id k).getD (id - k) default = true ↔ Rc K id (id - k) := by
      rw [ih _ (by omega)]
      constructor
      · rintro (h | ⟨m, h1, h2, x, hx, e⟩)
        · rw [h]; exact .refl
        · exact Rc_step h2 hx e
      · intro h
        generalize hn : id - k = n at h
        cases h with
        | refl => exact .inl rfl
        | @step m x h1 hx =>
          have h3 := Rc_le hd hi h1
          have h4 := (hd m (by omega)).2 x hx
          exact .inr ⟨m, by omega, h1, x, hx, rfl⟩
    unfold belB
    by_cases hb : (belB K id k).getD (id - k) default = true
    · rw [if_pos hb, markA_get _ _ _ (by rw [belB_len]; omega), ih p hp]
      have hr := hc.1 hb
      constructor
      · rintro ((h | ⟨m, h1, h2, h3⟩) | ⟨x, hx, e⟩)
        · exact .inl h
        · exact .inr ⟨m, by omega, h2, h3⟩
        · exact .inr ⟨id - k, by omega, hr, x, hx, e⟩
      · rintro (h | ⟨m, h1, h2, x, hx, e⟩)
        · exact .inl (.inl h)
        · by_cases hm : m = id - k
          · subst hm; exact .inr ⟨x, hx, e⟩
          · exact .inl (.inr ⟨m, by omega, h2, x, hx, e⟩)
    · rw [if_neg hb, ih p hp]
      have hr : ¬ Rc K id (id - k) := fun h => hb (hc.2 h)
      constructor
      · rintro (h | ⟨m, h1, h2, h3⟩)
        · exact .inl h
        · exact .inr ⟨m, by omega, h2, h3⟩
      · rintro (h | ⟨m, h1, h2, x, hx, e⟩)
        · exact .inl h
        · by_cases hm : m = id - k
          · subst hm; exact absurd h2 hr
          · exact .inr ⟨m, by omega, h2, x, hx, e⟩
theorem belB_rc {K : List (List Int)} {id : Nat} (hd : Down K) (hi : id < K.length) (k : Nat) (hk : k ≤ id) : (belB K id k).getD (id - k) default = true ↔ Rc K id (id - k) := by
  rw [belB_get hd hi k (by omega) _ (by omega)]
  constructor
  · rintro (h | ⟨m, h1, h2, x, hx, e⟩)
    · rw [h]; exact .refl
    · exact Rc_step h2 hx e
  · intro h
    generalize hn : id - k = n at h
    cases h with
    | refl => exact .inl rfl
    | @step m x h1 hx =>
      have h3 := Rc_le hd hi h1
      have h4 := (hd m (by omega)).2 x hx
      exact .inr ⟨m, by omega, h1, x, hx, rfl⟩
noncomputable def rcB (K : List (List Int)) (id n : Nat) : Bool := @decide (Rc K id n) (Classical.propDecidable _)
theorem rcB_iff (K : List (List Int)) (id n : Nat) : rcB K id n = true ↔ Rc K id n := by unfold rcB; simp
theorem belO_eq {K : List (List Int)} {id : Nat} (hd : Down K) (hi : id < K.length) : ∀ k, k ≤ id + 1 → (belO K id k).reverse = ((List.range' (id + 1 - k) k).filter (rcB K id)).map fun n : Nat => (n : Int) := by
  intro k
  induction k with
  | zero => intro _; rfl
  | succ k ih =>
    intro hk
    have e1 : id + 1 - (k + 1) = id - k := by omega
    have e2 : List.range' (id - k) (k + 1) = (id - k) :: List.range' (id + 1 - k) k := by
      rw [List.range'_succ]; congr 2; omega
    rw [e1, e2, List.filter_cons]
    unfold belO
    have hb := belB_rc hd hi k (by omega)
    by_cases h : (belB K id k).getD (id - k) default = true
    · rw [if_pos h, if_pos ((rcB_iff _ _ _).2 (hb.1 h)), List.reverse_append, ih (by omega)]
      rfl
    · rw [if_neg h, if_neg (fun e => h (hb.2 ((rcB_iff _ _ _).1 e))), ih (by omega)]
theorem below_eq {K : List (List Int)} {id : Nat} (hd : Down K) (hi : id < K.length) : belowM K id = ((List.range (id + 1)).filter (rcB K id)).map fun n : Nat => (n : Int) := by
  unfold belowM
  rw [belO_eq hd hi (id + 1) (Nat.le_refl _), Nat.sub_self, List.range_eq_range']
theorem mem_below {K : List (List Int)} {id : Nat} (hd : Down K) (hi : id < K.length) (z : Int) : z ∈ belowM K id ↔ 0 ≤ z ∧ Rc K id z.toNat := by
  rw [below_eq hd hi, List.mem_map]
  constructor
  · rintro ⟨n, hn, rfl⟩
    rw [List.mem_filter, rcB_iff] at hn
    refine ⟨?_, ?_⟩
    · show (0 : Int) ≤ (n : Int)
      omega
    · show Rc K id ((n : Int).toNat)
      rw [Int.toNat_natCast]
      exact hn.2
  · rintro ⟨h0, h1⟩
    have := Rc_le hd hi h1
    exact ⟨z.toNat, List.mem_filter.2 ⟨List.mem_range.2 (by omega), (rcB_iff _ _ _).2 h1⟩, by omega⟩
end Go.Proofs.Ytpphdaphbkepfaa.Aw

/- Guard of the statements of term: which inputs they ask; small facts. -/
set_option linter.unusedVariables false
set_option linter.unusedSimpArgs false
set_option linter.unusedSectionVars false
namespace Go.Proofs.Ytpphdaphbkepfaa.Aw
open Go Go.RowKit
set_option maxRecDepth 10000
attribute [local irreducible] AWp AOL QS One AOLg QSg NX QX TRg TX AllO Fin3
theorem oddI_iff (many : Int) (a : List Int) : oddI many a < 0 ↔ ∀ x ∈ a, 0 ≤ x ∧ x < many := by
  unfold oddI
  rcases idxB_cases a.length (fun i => oddM many (a.getD i default)) with ⟨h1, h2⟩ | ⟨i, hi, h1, h2, h3⟩
  · rw [h1]
    refine ⟨fun _ x hx => ?_, fun _ => by omega⟩
    obtain ⟨i, hi, rfl⟩ := List.getElem_of_mem hx
    have := h2 i hi
    simp only [oddM, List.getD_eq_getElem?_getD, List.getElem?_eq_getElem hi, Option.getD_some, Bool.or_eq_false_iff, decide_eq_false_iff_not] at this
    omega
  · rw [h1]
    refine ⟨fun h => by omega, fun h => ?_⟩
    have := h (a.getD i default) (by rw [List.getD_eq_getElem?_getD, List.getElem?_eq_getElem hi]; exact List.getElem_mem _)
    simp only [oddM, Bool.or_eq_true, decide_eq_true_eq] at h2
    omega
theorem mayM_args {l : List Sg} {many k s p : Int} {a : List Int} (h : mayM l many k s p a = true) : ∀ x ∈ a, 0 ≤ x ∧ x < many := by
  rw [mayM_iff] at h
  exact (oddI_iff _ _).1 h.2
noncomputable def ofM (l : List Sg) (K : List (List Int)) (S : List Int) : Bool := (decide (l.length ≤ 64) && rightG l) && (fewM K S && rightT l K S)
/-- What a right store holds. -/
structure St3 (l : List Sg) (K : List (List Int)) (S : List Int) : Prop where
  ll : l.length ≤ 64
  sl : S.length ≤ 2000
  kl : K.length ≤ 2000
  rl : ∀ x ∈ K, x.length ≤ 2000
  nd : K.Nodup
  se : S = layM K
  k2 : 2 ≤ K.length
  ok : ∀ i, i < K.length → keyOk l i (K.getD i default) = true
theorem rightT_st {l : List Sg} {K : List (List Int)} {S : List Int} (h : rightT l K S = true) : (K.Nodup ∧ S = layM K) ∧ 2 ≤ K.length ∧ ∀ i, i < K.length → keyOk l i (K.getD i default) = true := by
  unfold rightT at h
  rw [Bool.and_eq_true, Bool.and_eq_true, decide_eq_true_eq, decide_eq_true_eq] at h
  obtain ⟨⟨h1, h2⟩, h3⟩ := h
  refine ⟨h1, h2, fun i hi => ?_⟩
  cases hb : keyOk l i (K.getD i default) with
  | true => rfl
  | false => rw [allB_f hi hb] at h3; cases h3
theorem ofM_st {l : List Sg} {K : List (List Int)} {S : List Int} (h : ofM l K S = true) : St3 l K S := by
  unfold ofM at h
  rw [Bool.and_eq_true, Bool.and_eq_true, Bool.and_eq_true, decide_eq_true_eq] at h
  obtain ⟨⟨h1, _⟩, h3, h4⟩ := h
  obtain ⟨b1, b2, b3⟩ := few_bounds h3
  obtain ⟨⟨c1, c2⟩, c3, c4⟩ := rightT_st h4
  exact ⟨h1, b1, b2, b3, c1, c2, c3, c4⟩
theorem keyOk_ex {l : List Sg} {i : Nat} {q : List Int} (h : keyOk l i q = true) : ∃ k s p a, q = keyT k s p a ∧ mayM l i k s p a = true ∧ (2 ≤ i ∨ k = i) := by
  have h3 : 3 ≤ q.length := by
    unfold keyOk at h
    rw [Bool.and_eq_true, Bool.and_eq_true, decide_eq_true_eq] at h
    exact h.1.1
  obtain ⟨k, s, p, a, rfl⟩ := key_ex h3
  rw [keyOk_T, Bool.and_eq_true, Bool.or_eq_true, decide_eq_true_eq, decide_eq_true_eq] at h
  exact ⟨k, s, p, a, rfl, h.1, h.2⟩
theorem St3.down {l : List Sg} {K : List (List Int)} {S : List Int} (h : St3 l K S) : Down K := fun n hn => by
  obtain ⟨k, s, p, a, hq, hm, _⟩ := keyOk_ex (h.ok n hn)
  refine ⟨by rw [hq]; simp [keyT], fun x hx => ?_⟩
  have : x ∈ a := by
    unfold argsK at hx
    rw [hq] at hx
    exact hx
  exact mayM_args hm x this
variable {A : Ar} (hA : A = real)
include hA
set_option maxHeartbeats 4000000 in
theorem of3_c (l : List Sg) (K : List (List Int)) (S : List Int) (hsz : FitG l) (hf : FitsK K S) : PureCalls Try.prog 27 [slP A 2 (encG A) l, keyedPV A K S] (BP (hid A (ofM l K S))) := by
  have hg := sigRight_c hA l hsz
  have hfew := refFew_c hA K S hf.1 hf.2.1 hf.2.2
  by_cases h1 : l.length ≤ 64
  · cases h2 : rightG l with
    | false =>
      have he : ofM l K S = false := by unfold ofM; rw [h2]; simp
      rw [h2, hid_eq hA (α := Bool)] at hg
      refine PureCalls.of Try.func27 rfl (by kernel_rfl) rfl ?_
      try first | refine AOLg.of [] ?_ | refine QSg.of [] ?_
      repeat' (first
        | (refine AWp.pass ?_; first
            | refine AWp.seq ?_
            | refine AWp.block ?_
            | refine AWp.skip ?_
            | refine AWp.regG [] (by conv => lhs; cbv) ?_
            | refine AWp.cond_t rfl ?_
            | refine AWp.cond_f rfl ?_
            | (refine AWp.cond rfl ?_ ?_ <;> intro hc <;> (try rw [hc]) <;> ((try simp only [zn] at hc) <;> (try simp (disch := omega) only [zz hA, zb, zy, reduceCtorEq, Bool.false_eq_true, Int.reduceLT, Int.reduceLE, Int.reduceNeg] at hc) <;> (try simp only [zw] at hc)) <;> (try (exfalso; omega)))
            | refine AWp.exit ?_
            | refine AWp.ret ⟨.inr rfl, _, RetOk.ev tabOk (by conv => lhs; cbv), ?_⟩)
        | (refine AOLg.pass ?_; refine AOLg.nx hA tabOk (by conv => lhs; cbv) ?_; first
            | refine NX.done ?_
            | refine NX.gt ?_
            | refine NX.gf ?_
            | (refine NX.gs ?_ ?_ <;> intro hc <;> rw [hc] <;> ((try simp only [zn] at hc) <;> (try simp (disch := omega) only [zz hA, zb, zy, reduceCtorEq, Bool.false_eq_true, Int.reduceLT, Int.reduceLE, Int.reduceNeg] at hc) <;> (try simp only [zw] at hc)) <;> (try (exfalso; omega)))
            | (refine NX.kC ?_; first | (with_reducible refine NX.call (hg) ?_) | ((first | refine NX.call (hg) ?_)) | fail)
            | (refine NX.kO ?_; (first | refine NX.callO (hg) (by simp [allEq]) rfl ?_))
            | ((first | (refine NX.k 10 ?_; first | refine NX.one (One.lenOwnM hA tabOk rfl rfl rfl rfl) ?_) | (refine NX.k 14 ?_; first | refine NX.one (One.loadRatM hA tabOk rfl rfl rfl rfl rfl rfl ?_) ?_)) <;> (first | refine AOLg.pass ?_ | (((try simp only [zn]) <;> (try simp (disch := omega) only [zz hA, zb, zy, reduceCtorEq, Bool.false_eq_true, Int.reduceLT, Int.reduceLE, Int.reduceNeg]) <;> (try simp only [zw])) <;> omega)))
            | refine NX.raw ?_)
        | refine Thn.exit ?_
        | refine Blk.here ?_
        | refine Blk.other (by decide) ?_
        | refine ⟨.inl rfl, _, RetOk.ev tabOk (by conv => lhs; cbv), ?_⟩
        | fail)
      refine rPV_then (by conv => lhs; cbv) ?_
      rw [he, hid_eq hA]
    | true =>
      rw [h2, hid_eq hA (α := Bool)] at hg
      cases h3 : fewM K S with
      | false =>
        have he : ofM l K S = false := by unfold ofM; rw [h3]; simp
        rw [h3, hid_eq hA (α := Bool)] at hfew
        refine PureCalls.of Try.func27 rfl (by kernel_rfl) rfl ?_
        try first | refine AOLg.of [] ?_ | refine QSg.of [] ?_
        repeat' (first
          | (refine AWp.pass ?_; first
              | refine AWp.seq ?_
              | refine AWp.block ?_
              | refine AWp.skip ?_
              | refine AWp.regG [] (by conv => lhs; cbv) ?_
              | refine AWp.cond_t rfl ?_
              | refine AWp.cond_f rfl ?_
              | (refine AWp.cond rfl ?_ ?_ <;> intro hc <;> (try rw [hc]) <;> ((try simp only [zn] at hc) <;> (try simp (disch := omega) only [zz hA, zb, zy, reduceCtorEq, Bool.false_eq_true, Int.reduceLT, Int.reduceLE, Int.reduceNeg] at hc) <;> (try simp only [zw] at hc)) <;> (try (exfalso; omega)))
              | refine AWp.exit ?_
              | refine AWp.ret ⟨.inr rfl, _, RetOk.ev tabOk (by conv => lhs; cbv), ?_⟩)
          | (refine AOLg.pass ?_; refine AOLg.nx hA tabOk (by conv => lhs; cbv) ?_; first
              | refine NX.done ?_
              | refine NX.gt ?_
              | refine NX.gf ?_
              | (refine NX.gs ?_ ?_ <;> intro hc <;> rw [hc] <;> ((try simp only [zn] at hc) <;> (try simp (disch := omega) only [zz hA, zb, zy, reduceCtorEq, Bool.false_eq_true, Int.reduceLT, Int.reduceLE, Int.reduceNeg] at hc) <;> (try simp only [zw] at hc)) <;> (try (exfalso; omega)))
              | (refine NX.kC ?_; first | (with_reducible refine NX.call (hg) ?_) | (with_reducible refine NX.call (hfew) ?_) | ((first | refine NX.call (hg) ?_ | refine NX.call (hfew) ?_)) | fail)
              | (refine NX.kO ?_; (first | refine NX.callO (hg) (by simp [allEq]) rfl ?_ | refine NX.callO (hfew) (by simp [allEq]) rfl ?_))
              | ((first | (refine NX.k 10 ?_; first | refine NX.one (One.lenOwnM hA tabOk rfl rfl rfl rfl) ?_) | (refine NX.k 14 ?_; first | refine NX.one (One.loadRatM hA tabOk rfl rfl rfl rfl rfl rfl ?_) ?_)) <;> (first | refine AOLg.pass ?_ | (((try simp only [zn]) <;> (try simp (disch := omega) only [zz hA, zb, zy, reduceCtorEq, Bool.false_eq_true, Int.reduceLT, Int.reduceLE, Int.reduceNeg]) <;> (try simp only [zw])) <;> omega)))
              | refine NX.raw ?_)
          | refine Thn.exit ?_
          | refine Blk.here ?_
          | refine Blk.other (by decide) ?_
          | refine ⟨.inl rfl, _, RetOk.ev tabOk (by conv => lhs; cbv), ?_⟩
          | fail)
        refine rPV_then (by conv => lhs; cbv) ?_
        rw [he, hid_eq hA]
      | true =>
        rw [h3, hid_eq hA (α := Bool)] at hfew
        obtain ⟨b1, b2, b3⟩ := few_bounds h3
        have hr := refTRight_c hA l K S (by omega) hsz (by omega) fun x hx => by have := b3 x hx; omega
        have he : ofM l K S = rightT l K S := by unfold ofM; rw [h2, h3, decide_eq_true h1]; simp
        refine PureCalls.of Try.func27 rfl (by kernel_rfl) rfl ?_
        try first | refine AOLg.of [] ?_ | refine QSg.of [] ?_
        repeat' (first
          | (refine AWp.pass ?_; first
              | refine AWp.seq ?_
              | refine AWp.block ?_
              | refine AWp.skip ?_
              | refine AWp.regG [] (by conv => lhs; cbv) ?_
              | refine AWp.cond_t rfl ?_
              | refine AWp.cond_f rfl ?_
              | (refine AWp.cond rfl ?_ ?_ <;> intro hc <;> (try rw [hc]) <;> ((try simp only [zn] at hc) <;> (try simp (disch := omega) only [zz hA, zb, zy, reduceCtorEq, Bool.false_eq_true, Int.reduceLT, Int.reduceLE, Int.reduceNeg] at hc) <;> (try simp only [zw] at hc)) <;> (try (exfalso; omega)))
              | refine AWp.exit ?_
              | refine AWp.ret ⟨.inr rfl, _, RetOk.ev tabOk (by conv => lhs; cbv), ?_⟩)
          | (refine AOLg.pass ?_; refine AOLg.nx hA tabOk (by conv => lhs; cbv) ?_; first
              | refine NX.done ?_
              | refine NX.gt ?_
              | refine NX.gf ?_
              | (refine NX.gs ?_ ?_ <;> intro hc <;> rw [hc] <;> ((try simp only [zn] at hc) <;> (try simp (disch := omega) only [zz hA, zb, zy, reduceCtorEq, Bool.false_eq_true, Int.reduceLT, Int.reduceLE, Int.reduceNeg] at hc) <;> (try simp only [zw] at hc)) <;> (try (exfalso; omega)))
              | (refine NX.kC ?_; first | (with_reducible refine NX.call (hg) ?_) | (with_reducible refine NX.call (hfew) ?_) | (with_reducible refine NX.call (hr) ?_) | ((first | refine NX.call (hg) ?_ | refine NX.call (hfew) ?_ | refine NX.call (hr) ?_)) | fail)
              | (refine NX.kO ?_; (first | refine NX.callO (hg) (by simp [allEq]) rfl ?_ | refine NX.callO (hfew) (by simp [allEq]) rfl ?_ | refine NX.callO (hr) (by simp [allEq]) rfl ?_))
              | ((first | (refine NX.k 10 ?_; first | refine NX.one (One.lenOwnM hA tabOk rfl rfl rfl rfl) ?_) | (refine NX.k 14 ?_; first | refine NX.one (One.loadRatM hA tabOk rfl rfl rfl rfl rfl rfl ?_) ?_)) <;> (first | refine AOLg.pass ?_ | (((try simp only [zn]) <;> (try simp (disch := omega) only [zz hA, zb, zy, reduceCtorEq, Bool.false_eq_true, Int.reduceLT, Int.reduceLE, Int.reduceNeg]) <;> (try simp only [zw])) <;> omega)))
              | refine NX.raw ?_)
          | refine Thn.exit ?_
          | refine Blk.here ?_
          | refine Blk.other (by decide) ?_
          | refine ⟨.inl rfl, _, RetOk.ev tabOk (by conv => lhs; cbv), ?_⟩
          | fail)
        refine rPV_then (by conv => lhs; cbv) ?_
        rw [he]
  · have he : ofM l K S = false := by unfold ofM; rw [decide_eq_false h1]; simp
    refine PureCalls.of Try.func27 rfl (by kernel_rfl) rfl ?_
    try first | refine AOLg.of [] ?_ | refine QSg.of [] ?_
    repeat' (first
      | (refine AWp.pass ?_; first
          | refine AWp.seq ?_
          | refine AWp.block ?_
          | refine AWp.skip ?_
          | refine AWp.regG [] (by conv => lhs; cbv) ?_
          | refine AWp.cond_t rfl ?_
          | refine AWp.cond_f rfl ?_
          | (refine AWp.cond rfl ?_ ?_ <;> intro hc <;> (try rw [hc]) <;> ((try simp only [zn] at hc) <;> (try simp (disch := omega) only [zz hA, zb, zy, reduceCtorEq, Bool.false_eq_true, Int.reduceLT, Int.reduceLE, Int.reduceNeg] at hc) <;> (try simp only [zw] at hc)) <;> (try (exfalso; omega)))
          | refine AWp.exit ?_
          | refine AWp.ret ⟨.inr rfl, _, RetOk.ev tabOk (by conv => lhs; cbv), ?_⟩)
      | (refine AOLg.pass ?_; refine AOLg.nx hA tabOk (by conv => lhs; cbv) ?_; first
          | refine NX.done ?_
          | refine NX.gt ?_
          | refine NX.gf ?_
          | (refine NX.gs ?_ ?_ <;> intro hc <;> rw [hc] <;> ((try simp only [zn] at hc) <;> (try simp (disch := omega) only [zz hA, zb, zy, reduceCtorEq, Bool.false_eq_true, Int.reduceLT, Int.reduceLE, Int.reduceNeg] at hc) <;> (try simp only [zw] at hc)) <;> (try (exfalso; omega)))
          | ((first | (refine NX.k 10 ?_; first | refine NX.one (One.lenOwnM hA tabOk rfl rfl rfl rfl) ?_) | (refine NX.k 14 ?_; first | refine NX.one (One.loadRatM hA tabOk rfl rfl rfl rfl rfl rfl ?_) ?_)) <;> (first | refine AOLg.pass ?_ | (((try simp only [zn]) <;> (try simp (disch := omega) only [zz hA, zb, zy, reduceCtorEq, Bool.false_eq_true, Int.reduceLT, Int.reduceLE, Int.reduceNeg]) <;> (try simp only [zw])) <;> omega)))
          | refine NX.raw ?_)
      | refine Thn.exit ?_
      | refine Blk.here ?_
      | refine Blk.other (by decide) ?_
      | refine ⟨.inl rfl, _, RetOk.ev tabOk (by conv => lhs; cbv), ?_⟩
      | fail)
    refine rPV_then (by conv => lhs; cbv) ?_
    rw [he, hid_eq hA]
end Go.Proofs.Ytpphdaphbkepfaa.Aw

/- Law TermFull. -/
set_option linter.unusedVariables false
set_option linter.unusedSimpArgs false
set_option linter.unusedSectionVars false
namespace Go.Proofs.Ytpphdaphbkepfaa.Aw
open Go Go.RowKit
set_option maxRecDepth 10000
attribute [local irreducible] AWp AOL QS One AOLg QSg NX QX TRg TX AllO Fin3
variable {A : Ar} (hA : A = real)
include hA
end Go.Proofs.Ytpphdaphbkepfaa.Aw

/- The arguments of the statements of term out of the row's data, part 2: rows of constructors. -/
set_option linter.unusedVariables false
set_option linter.unusedSectionVars false
namespace Go.Proofs.Ytpphdaphbkepfaa.Aw
open Go Go.RowKit
theorem decSg {rows : List (List IC)} (h : ∀ r ∈ rows, Dec (.st [.str, .str]) r) : ∃ l : List Sg, rows = hid real (List.map (encG real) l) ∧ FitG l := by
  induction rows with
  | nil => exact ⟨[], rfl, by simp [FitG]⟩
  | cons r rs ih =>
    obtain ⟨l, hl, hb⟩ := ih fun x hx => h x (List.mem_cons_of_mem _ hx)
    obtain ⟨a1, b1, rfl, ⟨n, rfl, hn⟩, a2, b2, rfl, ⟨g, rfl, hg⟩, rfl⟩ := h r List.mem_cons_self
    refine ⟨(n, g) :: l, by rw [hl]; rfl, fun x hx => ?_⟩
    rcases List.mem_cons.1 hx with rfl | hx
    · exact ⟨by show n.size ≤ _; omega, by show g.size ≤ _; omega⟩
    · exact hb x hx
theorem decSigs {x : IC} (h : Dec (.sl 32 (.st [.str, .str])) [x]) : ∃ l : List Sg, x = .sl 2 false (hid real (List.map (encG real) l)) ∧ FitG l := by
  obtain ⟨r, e, h1, h2⟩ := h
  obtain ⟨l, rfl, hl⟩ := decSg h1
  simp only [List.cons.injEq, and_true] at e
  exact ⟨l, e, hl⟩
variable {A : Ar} (hA : A = real)
include hA
end Go.Proofs.Ytpphdaphbkepfaa.Aw

/- The builtin min of two numbers. -/
set_option linter.unusedVariables false
namespace Go.Proofs.Ytpphdaphbkepfaa.Aw
open Go Go.RowKit
end Go.Proofs.Ytpphdaphbkepfaa.Aw

/- Law TermAll. -/
set_option linter.unusedVariables false
set_option linter.unusedSimpArgs false
set_option linter.unusedSectionVars false
namespace Go.Proofs.Ytpphdaphbkepfaa.Aw
open Go Go.RowKit
set_option maxRecDepth 10000
attribute [local irreducible] AWp AOL QS One AOLg QSg NX QX TRg TX AllO Fin3
variable {A : Ar} (hA : A = real)
include hA
end Go.Proofs.Ytpphdaphbkepfaa.Aw

/- Law TermAll over the row's data. -/
set_option linter.unusedVariables false
set_option linter.unusedSectionVars false
namespace Go.Proofs.Ytpphdaphbkepfaa.Aw
open Go Go.RowKit
variable {A : Ar} (hA : A = real)
include hA
end Go.Proofs.Ytpphdaphbkepfaa.Aw

/- Law TermStays. -/
set_option linter.unusedVariables false
set_option linter.unusedSimpArgs false
set_option linter.unusedSectionVars false
namespace Go.Proofs.Ytpphdaphbkepfaa.Aw
open Go Go.RowKit
set_option maxRecDepth 10000
attribute [local irreducible] AWp AOL QS One AOLg QSg NX QX TRg TX AllO Fin3
variable {A : Ar} (hA : A = real)
include hA
end Go.Proofs.Ytpphdaphbkepfaa.Aw

/- Law TermStays over the row's data. -/
set_option linter.unusedVariables false
set_option linter.unusedSectionVars false
namespace Go.Proofs.Ytpphdaphbkepfaa.Aw
open Go Go.RowKit
variable {A : Ar} (hA : A = real)
include hA

end Go.Proofs.Ytpphdaphbkepfaa.Aw

/- Plain law of Below, part 2: the marks of the parts; the places in the row. -/
set_option linter.unusedVariables false
namespace Go.Proofs.Ytpphdaphbkepfaa.Aw
open Go Go.RowKit
def inA (K : List (List Int)) (r : List Bool) (a : List Int) : List Bool := a.foldl (fun r x => markA r (belowM K x.toNat)) r
theorem inA_len (K : List (List Int)) (r : List Bool) (a : List Int) : (inA K r a).length = r.length := by
  induction a generalizing r with
  | nil => rfl
  | cons x a ih => show (inA K _ a).length = _; rw [ih, markA_len]
theorem inA_succ (K : List (List Int)) (r : List Bool) (a : List Int) (j : Nat) (h : j < a.length) : inA K r (a.take (j + 1)) = markA (inA K r (a.take j)) (belowM K (a.getD j default).toNat) := by
  rw [List.take_succ_eq_append_getElem h]
  simp only [inA, List.foldl_append, List.foldl_cons, List.foldl_nil, List.getD_eq_getElem?_getD, List.getElem?_eq_getElem h, Option.getD_some]
theorem inA_get (K : List (List Int)) (r : List Bool) (a : List Int) (p : Nat) (hp : p < r.length) : (inA K r a).getD p default = true ↔ r.getD p default = true ∨ ∃ x ∈ a, ∃ y ∈ belowM K x.toNat, y.toNat = p := by
  induction a generalizing r with
  | nil => simp [inA]
  | cons x a ih =>
    show (inA K (markA r (belowM K x.toNat)) a).getD p default = true ↔ _
    rw [ih _ (by rw [markA_len]; exact hp), markA_get _ _ _ hp]
    simp only [List.mem_cons, exists_eq_or_imp, or_assoc]
theorem inA_rc {K : List (List Int)} {id : Nat} (hd : Down K) (hi : id < K.length) (p : Nat) (hp : p < K.length) : (inA K ((List.replicate K.length false).set id true) (argsK K id)).getD p default = true ↔ Rc K id p := by
  rw [inA_get _ _ _ _ (by simpa using hp)]
  have e : ((List.replicate K.length false).set id true).getD p default = true ↔ p = id := by
    simp only [List.getD_eq_getElem?_getD, List.getElem?_set, List.getElem?_replicate, List.length_replicate]
    by_cases h : id = p
    · simp [h, hp]
    · have h' : ¬ p = id := fun e => h e.symm
      simp only [if_neg h, h', iff_false]
      split <;> simp
  rw [e]
  constructor
  · rintro (h | ⟨x, hx, y, hy, e⟩)
    · rw [h]; exact .refl
    · have hx2 := (hd id hi).2 x hx
      have := (mem_below hd (by omega) y).1 hy
      exact e ▸ Rc_trans (Rc.refl.step hx) this.2
  · intro h
    rcases Rc_first h with h | ⟨x, hx, h2⟩
    · exact .inl h
    · have hx2 := (hd id hi).2 x hx
      exact .inr ⟨x, hx, (p : Int), (mem_below hd (by omega) _).2 ⟨by omega, by rw [Int.toNat_natCast]; exact h2⟩, by omega⟩
noncomputable def cntR (K : List (List Int)) (id i : Nat) : Nat := ((List.range i).filter (rcB K id)).length
theorem cntR_succ (K : List (List Int)) (id i : Nat) : cntR K id (i + 1) = cntR K id i + if rcB K id i = true then 1 else 0 := by
  unfold cntR
  rw [List.range_succ, List.filter_append, List.length_append, List.filter_cons]
  split <;> rfl
theorem cntR_le (K : List (List Int)) (id i : Nat) : cntR K id i ≤ i := by
  unfold cntR
  have := List.length_filter_le (rcB K id) (List.range i)
  simpa using this
theorem below_at {K : List (List Int)} {id i : Nat} (hd : Down K) (hi : id < K.length) (h : rcB K id i = true) : cntR K id i < (belowM K id).length ∧ (belowM K id).getD (cntR K id i) default = (i : Int) := by
  have hle := Rc_le hd hi ((rcB_iff _ _ _).1 h)
  have e : List.range (id + 1) = List.range i ++ i :: List.range' (i + 1) (id - i) := by
    rw [List.range_eq_range', List.range_eq_range', show id + 1 = i + (1 + (id - i)) by omega, ← List.range'_append_1, Nat.zero_add, Nat.add_comm 1, List.range'_succ]
  have e2 : belowM K id = ((List.range i).filter (rcB K id)).map (fun n : Nat => (n : Int)) ++ (i : Int) :: ((List.range' (i + 1) (id - i)).filter (rcB K id)).map (fun n : Nat => (n : Int)) := by
    rw [below_eq hd hi, e, List.filter_append, List.filter_cons, if_pos h, List.map_append, List.map_cons]
  have e3 : cntR K id i = (((List.range i).filter (rcB K id)).map (fun n : Nat => (n : Int))).length := by rw [List.length_map]; rfl
  rw [e2, e3]
  constructor
  · simp
  · simp only [List.getD_eq_getElem?_getD, List.getElem?_append_right (Nat.le_refl _), Nat.sub_self, List.getElem?_cons_zero, Option.getD_some]
theorem cntR_all {K : List (List Int)} {id n : Nat} (hd : Down K) (hi : id < K.length) (hn : id < n) : cntR K id n = (belowM K id).length := by
  rw [below_eq hd hi, List.length_map]
  show cntR K id n = cntR K id (id + 1)
  induction n with
  | zero => omega
  | succ n ih =>
    by_cases h : n = id
    · rw [h]
    · rw [cntR_succ, ih (by omega), if_neg]
      · rfl
      · intro h2
        have := Rc_le hd hi ((rcB_iff _ _ _).1 h2)
        omega
end Go.Proofs.Ytpphdaphbkepfaa.Aw

/- Law TermBelow. -/
set_option linter.unusedVariables false
set_option linter.unusedSimpArgs false
set_option linter.unusedSectionVars false
namespace Go.Proofs.Ytpphdaphbkepfaa.Aw
open Go Go.RowKit
set_option maxRecDepth 10000
attribute [local irreducible] AWp AOL QS One AOLg QSg NX QX TRg TX AllO Fin3
variable {A : Ar} (hA : A = real)
include hA
set_option maxHeartbeats 4000000 in
theorem tbelow_law (l : List Sg) (K : List (List Int)) (S : List Int) (id : Int) (hsz : FitG l) (hf : FitsK K S) : PureCalls Try.prog 10 [slP A 2 (encG A) l, keyedPV A K S, IP id] (BP true) := by
  have hsh := shown3_c hA
  have hof := of3_c hA l K S hsz hf
  cases ho : ofM l K S with
  | false =>
    rw [ho, hid_eq hA (α := Bool)] at hof
    refine PureCalls.of Try.func10 rfl (by kernel_rfl) rfl ?_
    try first | refine AOLg.of [] ?_ | refine QSg.of [] ?_
    repeat' (first
      | (refine AWp.pass ?_; first
          | refine AWp.seq ?_
          | refine AWp.block ?_
          | refine AWp.skip ?_
          | refine AWp.regG [] (by conv => lhs; cbv) ?_
          | refine AWp.cond_t rfl ?_
          | refine AWp.cond_f rfl ?_
          | (refine AWp.cond rfl ?_ ?_ <;> intro hc <;> (try rw [hc]) <;> ((try simp only [zn] at hc) <;> (try simp (disch := omega) only [zz hA, zb, zy, reduceCtorEq, Bool.false_eq_true, Int.reduceLT, Int.reduceLE, Int.reduceNeg] at hc) <;> (try simp only [zw] at hc)) <;> (try (exfalso; omega)))
          | refine AWp.exit ?_
          | refine AWp.ret ⟨.inr rfl, _, RetOk.ev tabOk (by conv => lhs; cbv), ?_⟩
          | refine AWp.drawVG [] rfl (by decide +kernel) (by conv => lhs; cbv) ?_)
      | (refine AOLg.pass ?_; refine AOLg.nx hA tabOk (by conv => lhs; cbv) ?_; first
          | refine NX.done ?_
          | refine NX.gt ?_
          | refine NX.gf ?_
          | (refine NX.gs ?_ ?_ <;> intro hc <;> rw [hc] <;> ((try simp only [zn] at hc) <;> (try simp (disch := omega) only [zz hA, zb, zy, reduceCtorEq, Bool.false_eq_true, Int.reduceLT, Int.reduceLE, Int.reduceNeg] at hc) <;> (try simp only [zw] at hc)) <;> (try (exfalso; omega)))
          | (refine NX.kC ?_; first | (with_reducible refine NX.call (hsh) ?_) | (with_reducible refine NX.call (hof) ?_) | ((first | refine NX.call (hsh) ?_ | refine NX.call (hof) ?_)) | fail)
          | (refine NX.kO ?_; (first | refine NX.callO (hsh) (by simp [allEq]) rfl ?_ | refine NX.callO (hof) (by simp [allEq]) rfl ?_))
          | ((first | (refine NX.k 1 ?_; first | refine NX.one (One.elemM hA tabOk rfl rfl rfl rfl ?_ ?_) ?_ | refine NX.one (One.elemOwnM hA tabOk rfl rfl rfl rfl rfl ?_ ?_) ?_) | (refine NX.k 7 ?_; first | refine NX.one (One.concatM hA rfl rfl rfl ?_) ?_) | (refine NX.k 8 ?_; first | refine NX.one (One.eqBoolM hA tabOk rfl rfl rfl rfl rfl) ?_) | (refine NX.k 9 ?_; first | refine NX.one (One.neBoolM hA tabOk rfl rfl rfl rfl rfl) ?_) | (refine NX.k 10 ?_; first | refine NX.one (One.lenOwnM hA tabOk rfl rfl rfl rfl) ?_) | (refine NX.k 14 ?_; first | refine NX.one (One.loadRatM hA tabOk rfl rfl rfl rfl rfl rfl ?_) ?_) | (refine NX.k 15 ?_; first | refine NX.one (One.storeRatM hA tabOk _ rfl rfl rfl rfl rfl rfl rfl rfl (fun _ => rfl) ?_) ?_) | (refine NX.k 16 ?_; first | refine NX.one (One.makeM hA tabOk encI 0 rfl rfl rfl rfl rfl rfl rfl ?_ ?_ ?_) ?_) | (refine NX.k 18 ?_; first | refine NX.one (One.fieldRat tabOk rfl rfl rfl rfl (by decide) rfl rfl) ?_)) <;> (first | refine AOLg.pass ?_ | (((try simp only [zn]) <;> (try simp (disch := omega) only [zz hA, zb, zy, reduceCtorEq, Bool.false_eq_true, Int.reduceLT, Int.reduceLE, Int.reduceNeg]) <;> (try simp only [zw])) <;> omega)))
          | refine NX.raw ?_)
      | (refine TRg.pass ?_; refine TRg.nx hA tabOk (by conv => lhs; cbv) ?_; first
          | refine TX.done ?_
          | refine TX.gt ?_
          | refine TX.gf ?_
          | (refine TX.gs ?_ ?_ <;> intro hc <;> rw [hc] <;> ((try simp only [zn] at hc) <;> (try simp (disch := omega) only [zz hA, zb, zy, reduceCtorEq, Bool.false_eq_true, Int.reduceLT, Int.reduceLE, Int.reduceNeg] at hc) <;> (try simp only [zw] at hc)) <;> (try (exfalso; omega)))
          | (refine TX.kC ?_; first | (with_reducible refine TX.call (hsh) ?_) | (with_reducible refine TX.call (hof) ?_) | ((first | refine TX.call (hsh) ?_ | refine TX.call (hof) ?_)) | fail)
          | (refine TX.kO ?_; (first | refine TX.callO (hsh) (by simp [allEq]) rfl ?_ | refine TX.callO (hof) (by simp [allEq]) rfl ?_))
          | ((first | (refine TX.k 1 ?_; first | refine TX.one (One.elemM hA tabOk rfl rfl rfl rfl ?_ ?_) ?_ | refine TX.one (One.elemOwnM hA tabOk rfl rfl rfl rfl rfl ?_ ?_) ?_) | (refine TX.k 7 ?_; first | refine TX.one (One.concatM hA rfl rfl rfl ?_) ?_) | (refine TX.k 8 ?_; first | refine TX.one (One.eqBoolM hA tabOk rfl rfl rfl rfl rfl) ?_) | (refine TX.k 9 ?_; first | refine TX.one (One.neBoolM hA tabOk rfl rfl rfl rfl rfl) ?_) | (refine TX.k 10 ?_; first | refine TX.one (One.lenOwnM hA tabOk rfl rfl rfl rfl) ?_) | (refine TX.k 14 ?_; first | refine TX.one (One.loadRatM hA tabOk rfl rfl rfl rfl rfl rfl ?_) ?_) | (refine TX.k 15 ?_; first | refine TX.one (One.storeRatM hA tabOk _ rfl rfl rfl rfl rfl rfl rfl rfl (fun _ => rfl) ?_) ?_) | (refine TX.k 16 ?_; first | refine TX.one (One.makeM hA tabOk encI 0 rfl rfl rfl rfl rfl rfl rfl ?_ ?_ ?_) ?_) | (refine TX.k 18 ?_; first | refine TX.one (One.fieldRat tabOk rfl rfl rfl rfl (by decide) rfl rfl) ?_)) <;> (first | refine TRg.pass ?_ | (((try simp only [zn]) <;> (try simp (disch := omega) only [zz hA, zb, zy, reduceCtorEq, Bool.false_eq_true, Int.reduceLT, Int.reduceLE, Int.reduceNeg]) <;> (try simp only [zw])) <;> omega)))
          | refine TX.raw ?_)
      | refine Fin3.of (by conv => lhs; cbv) (by repeat' (first | exact True.intro | exact rfl | refine And.intro ?_ ?_)) ?_ ?_
      | (refine AllO.pass ?_; first
          | exact AllO.nil
          | (refine AllO.cons (One.ev hA tabOk ?_) ?_ <;> (first | refine AllO.pass ?_ | ((conv => lhs; cbv); done)))
          | (refine AllO.cons (One.skipB ?_) ?_ <;> (first | refine AllO.pass ?_ | ((conv => lhs; cbv); done)))
          | ((with_reducible refine AllO.call (by conv => lhs; cbv) (hsh) ?_ ?_) <;> (first | refine AllO.pass ?_ | exact rfl | (((try simp only [zn]) <;> (try simp (disch := omega) only [zz hA, zb, zy, reduceCtorEq, Bool.false_eq_true, Int.reduceLT, Int.reduceLE, Int.reduceNeg]) <;> (try simp only [zw])) <;> omega)))
          | ((with_reducible refine AllO.call (by conv => lhs; cbv) (hof) ?_ ?_) <;> (first | refine AllO.pass ?_ | exact rfl | (((try simp only [zn]) <;> (try simp (disch := omega) only [zz hA, zb, zy, reduceCtorEq, Bool.false_eq_true, Int.reduceLT, Int.reduceLE, Int.reduceNeg]) <;> (try simp only [zw])) <;> omega)))
          | ((first | refine AllO.consX (One.elemM hA tabOk rfl rfl rfl rfl ?_ ?_) rfl rfl ?_ | refine AllO.consX (One.concatM hA rfl rfl rfl ?_) rfl rfl ?_ | refine AllO.consX (One.lenOwnM hA tabOk rfl rfl rfl rfl) rfl rfl ?_ | refine AllO.consX (One.elemOwnM hA tabOk rfl rfl rfl rfl rfl ?_ ?_) rfl rfl ?_ | refine AllO.consX (One.loadRatM hA tabOk rfl rfl rfl rfl rfl rfl ?_) rfl rfl ?_) <;> (first | refine AllO.pass ?_ | (((try simp only [zn]) <;> (try simp (disch := omega) only [zz hA, zb, zy, reduceCtorEq, Bool.false_eq_true, Int.reduceLT, Int.reduceLE, Int.reduceNeg]) <;> (try simp only [zw])) <;> omega))))
      | refine Thn.exit ?_
      | refine Blk.here ?_
      | refine Blk.other (by decide) ?_
      | refine ⟨.inl rfl, _, RetOk.ev tabOk (by conv => lhs; cbv), ?_⟩
      | fail)
    first | (exfalso; omega) | (refine rPV_then (by conv => lhs; cbv) ?_; rfl) | (refine rPV_then (by conv => lhs; cbv) ?_; refine congrArg (fun b => PV.c (IC.lit (Value.bool b))) ?_; ((try simp only [zn]) <;> (try simp (disch := omega) only [zz hA, zb, zy, reduceCtorEq, Bool.false_eq_true, Int.reduceLT, Int.reduceLE, Int.reduceNeg]) <;> (try simp only [zw])); done) | (refine rPV_then (by conv => lhs; cbv) ?_; refine congrArg (fun b => PV.c (IC.lit (Value.bool b))) ?_; ((try simp only [zn]) <;> (try simp (disch := omega) only [zz hA, zb, zy, reduceCtorEq, Bool.false_eq_true, Int.reduceLT, Int.reduceLE, Int.reduceNeg]) <;> (try simp only [zw])); omega) | fail
  | true =>
    rw [ho, hid_eq hA (α := Bool)] at hof
    obtain ⟨hll, hsl, hkl, hrl, hnd, rfl, hk2, hok⟩ := ofM_st ho
    have hdn := (ofM_st ho).down
    have hk6 : ∀ x ∈ K, x.length ≤ 1000000 := fun x hx => by have := hrl x hx; omega
    by_cases hr : 0 ≤ id ∧ id < K.length
    · obtain ⟨n, hnz⟩ : ∃ n : Nat, id = n := ⟨id.toNat, by omega⟩
      have hn : n < K.length := by omega
      obtain ⟨k, s, p, a, hq, hm, _⟩ := keyOk_ex (hok n hn)
      have hmem : K.getD n default ∈ K := by rw [List.getD_eq_getElem?_getD, List.getElem?_eq_getElem hn]; exact List.getElem_mem _
      have hal : a.length + 3 = (K.getD n default).length := by rw [hq]; rfl
      have hrow := hrl _ hmem
      have hget := tOf_c1 hA K (layM K) n k s p a hn hq (by omega)
      have hbel := fun m (h : m < K.length) => below_c hA K (layM K) m hdn (by omega) hk6 h
      have ha : argsK K n = a := by unfold argsK; rw [hq]; rfl
      have hb0 := hbel n hn
      refine PureCalls.of Try.func10 rfl (by kernel_rfl) rfl ?_
      try first | refine AOLg.of [] ?_ | refine QSg.of [] ?_
      repeat' (first
        | (refine AWp.pass ?_; first
            | refine AWp.seq ?_
            | refine AWp.block ?_
            | refine AWp.skip ?_
            | refine AWp.regG [] (by conv => lhs; cbv) ?_
            | refine AWp.cond_t rfl ?_
            | refine AWp.cond_f rfl ?_
            | (refine AWp.cond rfl ?_ ?_ <;> intro hc <;> (try rw [hc]) <;> ((try simp only [zn] at hc) <;> (try simp (disch := omega) only [zz hA, zb, zy, reduceCtorEq, Bool.false_eq_true, Int.reduceLT, Int.reduceLE, Int.reduceNeg] at hc) <;> (try simp only [zw] at hc)) <;> (try (exfalso; omega)))
            | refine AWp.exit ?_
            | refine AWp.ret ⟨.inr rfl, _, RetOk.ev tabOk (by conv => lhs; cbv), ?_⟩
            | refine AWp.drawVG [] rfl (by decide +kernel) (by conv => lhs; cbv) ?_)
        | (refine AOLg.pass ?_; refine AOLg.nx hA tabOk (by conv => lhs; cbv) ?_; first
            | refine NX.done ?_
            | refine NX.gt ?_
            | refine NX.gf ?_
            | (refine NX.gs ?_ ?_ <;> intro hc <;> rw [hc] <;> ((try simp only [zn] at hc) <;> (try simp (disch := omega) only [zz hA, zb, zy, reduceCtorEq, Bool.false_eq_true, Int.reduceLT, Int.reduceLE, Int.reduceNeg] at hc) <;> (try simp only [zw] at hc)) <;> (try (exfalso; omega)))
            | (refine NX.kC ?_; first | (with_reducible refine NX.call (hsh) ?_) | (with_reducible refine NX.call (hof) ?_) | ((with_reducible refine NX.call (hget _ ?_) ?_) <;> (first | refine AOLg.pass ?_ | (((try simp only [zn]) <;> (try simp (disch := omega) only [zz hA, zb, zy, reduceCtorEq, Bool.false_eq_true, Int.reduceLT, Int.reduceLE, Int.reduceNeg]) <;> (try simp only [zw])) <;> omega))) | ((with_reducible refine NX.call (hb0 _ ?_) ?_) <;> (first | refine AOLg.pass ?_ | (((try simp only [zn]) <;> (try simp (disch := omega) only [zz hA, zb, zy, reduceCtorEq, Bool.false_eq_true, Int.reduceLT, Int.reduceLE, Int.reduceNeg]) <;> (try simp only [zw])) <;> omega))) | ((first | refine NX.call (hsh) ?_ | refine NX.call (hof) ?_ | refine NX.call (hget _ ?_) ?_ | refine NX.call (hb0 _ ?_) ?_) <;> (first | refine AOLg.pass ?_ | (((try simp only [zn]) <;> (try simp (disch := omega) only [zz hA, zb, zy, reduceCtorEq, Bool.false_eq_true, Int.reduceLT, Int.reduceLE, Int.reduceNeg]) <;> (try simp only [zw])) <;> omega))) | fail)
            | (refine NX.kO ?_; (first | refine NX.callO (hsh) (by simp [allEq]) rfl ?_ | refine NX.callO (hof) (by simp [allEq]) rfl ?_ | refine NX.callO (hget _ ?_) (by simp [allEq]) rfl ?_ | refine NX.callO (hb0 _ ?_) (by simp [allEq]) rfl ?_) <;> (first | refine AOLg.pass ?_ | (((try simp only [zn]) <;> (try simp (disch := omega) only [zz hA, zb, zy, reduceCtorEq, Bool.false_eq_true, Int.reduceLT, Int.reduceLE, Int.reduceNeg]) <;> (try simp only [zw])) <;> omega)))
            | ((first | (refine NX.k 1 ?_; first | refine NX.one (One.elemM hA tabOk rfl rfl rfl rfl ?_ ?_) ?_ | refine NX.one (One.elemOwnM hA tabOk rfl rfl rfl rfl rfl ?_ ?_) ?_) | (refine NX.k 7 ?_; first | refine NX.one (One.concatM hA rfl rfl rfl ?_) ?_) | (refine NX.k 8 ?_; first | refine NX.one (One.eqBoolM hA tabOk rfl rfl rfl rfl rfl) ?_) | (refine NX.k 9 ?_; first | refine NX.one (One.neBoolM hA tabOk rfl rfl rfl rfl rfl) ?_) | (refine NX.k 10 ?_; first | refine NX.one (One.lenOwnM hA tabOk rfl rfl rfl rfl) ?_) | (refine NX.k 14 ?_; first | refine NX.one (One.loadRatM hA tabOk rfl rfl rfl rfl rfl rfl ?_) ?_) | (refine NX.k 15 ?_; first | refine NX.one (One.storeRatM hA tabOk _ rfl rfl rfl rfl rfl rfl rfl rfl (fun _ => rfl) ?_) ?_) | (refine NX.k 16 ?_; first | refine NX.one (One.makeM hA tabOk encI 0 rfl rfl rfl rfl rfl rfl rfl ?_ ?_ ?_) ?_) | (refine NX.k 18 ?_; first | refine NX.one (One.fieldRat tabOk rfl rfl rfl rfl (by decide) rfl rfl) ?_)) <;> (first | refine AOLg.pass ?_ | (((try simp only [zn]) <;> (try simp (disch := omega) only [zz hA, zb, zy, reduceCtorEq, Bool.false_eq_true, Int.reduceLT, Int.reduceLE, Int.reduceNeg]) <;> (try simp only [zw])) <;> omega)))
            | (refine NX.one (One.makeM hA tabOk encT false rfl rfl rfl rfl rfl rfl rfl (by (((try simp only [zn]) <;> (try simp (disch := omega) only [zz hA, zb, zy, reduceCtorEq, Bool.false_eq_true, Int.reduceLT, Int.reduceLE, Int.reduceNeg]) <;> (try simp only [zw])) <;> omega)) (by (((try simp only [zn]) <;> (try simp (disch := omega) only [zz hA, zb, zy, reduceCtorEq, Bool.false_eq_true, Int.reduceLT, Int.reduceLE, Int.reduceNeg]) <;> (try simp only [zw])) <;> omega)) (by (((try simp only [zn]) <;> (try simp (disch := omega) only [zz hA, zb, zy, reduceCtorEq, Bool.false_eq_true, Int.reduceLT, Int.reduceLE, Int.reduceNeg]) <;> (try simp only [zw])) <;> omega))) ?_)
            | refine NX.raw ?_)
        | (refine TRg.pass ?_; refine TRg.nx hA tabOk (by conv => lhs; cbv) ?_; first
            | refine TX.done ?_
            | refine TX.gt ?_
            | refine TX.gf ?_
            | (refine TX.gs ?_ ?_ <;> intro hc <;> rw [hc] <;> ((try simp only [zn] at hc) <;> (try simp (disch := omega) only [zz hA, zb, zy, reduceCtorEq, Bool.false_eq_true, Int.reduceLT, Int.reduceLE, Int.reduceNeg] at hc) <;> (try simp only [zw] at hc)) <;> (try (exfalso; omega)))
            | (refine TX.kC ?_; first | (with_reducible refine TX.call (hsh) ?_) | (with_reducible refine TX.call (hof) ?_) | ((with_reducible refine TX.call (hget _ ?_) ?_) <;> (first | refine TRg.pass ?_ | (((try simp only [zn]) <;> (try simp (disch := omega) only [zz hA, zb, zy, reduceCtorEq, Bool.false_eq_true, Int.reduceLT, Int.reduceLE, Int.reduceNeg]) <;> (try simp only [zw])) <;> omega))) | ((with_reducible refine TX.call (hb0 _ ?_) ?_) <;> (first | refine TRg.pass ?_ | (((try simp only [zn]) <;> (try simp (disch := omega) only [zz hA, zb, zy, reduceCtorEq, Bool.false_eq_true, Int.reduceLT, Int.reduceLE, Int.reduceNeg]) <;> (try simp only [zw])) <;> omega))) | ((first | refine TX.call (hsh) ?_ | refine TX.call (hof) ?_ | refine TX.call (hget _ ?_) ?_ | refine TX.call (hb0 _ ?_) ?_) <;> (first | refine TRg.pass ?_ | (((try simp only [zn]) <;> (try simp (disch := omega) only [zz hA, zb, zy, reduceCtorEq, Bool.false_eq_true, Int.reduceLT, Int.reduceLE, Int.reduceNeg]) <;> (try simp only [zw])) <;> omega))) | fail)
            | (refine TX.kO ?_; (first | refine TX.callO (hsh) (by simp [allEq]) rfl ?_ | refine TX.callO (hof) (by simp [allEq]) rfl ?_ | refine TX.callO (hget _ ?_) (by simp [allEq]) rfl ?_ | refine TX.callO (hb0 _ ?_) (by simp [allEq]) rfl ?_) <;> (first | refine TRg.pass ?_ | (((try simp only [zn]) <;> (try simp (disch := omega) only [zz hA, zb, zy, reduceCtorEq, Bool.false_eq_true, Int.reduceLT, Int.reduceLE, Int.reduceNeg]) <;> (try simp only [zw])) <;> omega)))
            | ((first | (refine TX.k 1 ?_; first | refine TX.one (One.elemM hA tabOk rfl rfl rfl rfl ?_ ?_) ?_ | refine TX.one (One.elemOwnM hA tabOk rfl rfl rfl rfl rfl ?_ ?_) ?_) | (refine TX.k 7 ?_; first | refine TX.one (One.concatM hA rfl rfl rfl ?_) ?_) | (refine TX.k 8 ?_; first | refine TX.one (One.eqBoolM hA tabOk rfl rfl rfl rfl rfl) ?_) | (refine TX.k 9 ?_; first | refine TX.one (One.neBoolM hA tabOk rfl rfl rfl rfl rfl) ?_) | (refine TX.k 10 ?_; first | refine TX.one (One.lenOwnM hA tabOk rfl rfl rfl rfl) ?_) | (refine TX.k 14 ?_; first | refine TX.one (One.loadRatM hA tabOk rfl rfl rfl rfl rfl rfl ?_) ?_) | (refine TX.k 15 ?_; first | refine TX.one (One.storeRatM hA tabOk _ rfl rfl rfl rfl rfl rfl rfl rfl (fun _ => rfl) ?_) ?_) | (refine TX.k 16 ?_; first | refine TX.one (One.makeM hA tabOk encI 0 rfl rfl rfl rfl rfl rfl rfl ?_ ?_ ?_) ?_) | (refine TX.k 18 ?_; first | refine TX.one (One.fieldRat tabOk rfl rfl rfl rfl (by decide) rfl rfl) ?_)) <;> (first | refine TRg.pass ?_ | (((try simp only [zn]) <;> (try simp (disch := omega) only [zz hA, zb, zy, reduceCtorEq, Bool.false_eq_true, Int.reduceLT, Int.reduceLE, Int.reduceNeg]) <;> (try simp only [zw])) <;> omega)))
            | (refine TX.one (One.makeM hA tabOk encT false rfl rfl rfl rfl rfl rfl rfl (by (((try simp only [zn]) <;> (try simp (disch := omega) only [zz hA, zb, zy, reduceCtorEq, Bool.false_eq_true, Int.reduceLT, Int.reduceLE, Int.reduceNeg]) <;> (try simp only [zw])) <;> omega)) (by (((try simp only [zn]) <;> (try simp (disch := omega) only [zz hA, zb, zy, reduceCtorEq, Bool.false_eq_true, Int.reduceLT, Int.reduceLE, Int.reduceNeg]) <;> (try simp only [zw])) <;> omega)) (by (((try simp only [zn]) <;> (try simp (disch := omega) only [zz hA, zb, zy, reduceCtorEq, Bool.false_eq_true, Int.reduceLT, Int.reduceLE, Int.reduceNeg]) <;> (try simp only [zw])) <;> omega))) ?_)
            | refine TX.raw ?_)
        | refine Fin3.of (by conv => lhs; cbv) (by repeat' (first | exact True.intro | exact rfl | refine And.intro ?_ ?_)) ?_ ?_
        | (refine AllO.pass ?_; first
            | exact AllO.nil
            | (refine AllO.cons (One.ev hA tabOk ?_) ?_ <;> (first | refine AllO.pass ?_ | ((conv => lhs; cbv); done)))
            | (refine AllO.cons (One.skipB ?_) ?_ <;> (first | refine AllO.pass ?_ | ((conv => lhs; cbv); done)))
            | ((with_reducible refine AllO.call (by conv => lhs; cbv) (hsh) ?_ ?_) <;> (first | refine AllO.pass ?_ | exact rfl | (((try simp only [zn]) <;> (try simp (disch := omega) only [zz hA, zb, zy, reduceCtorEq, Bool.false_eq_true, Int.reduceLT, Int.reduceLE, Int.reduceNeg]) <;> (try simp only [zw])) <;> omega)))
            | ((with_reducible refine AllO.call (by conv => lhs; cbv) (hof) ?_ ?_) <;> (first | refine AllO.pass ?_ | exact rfl | (((try simp only [zn]) <;> (try simp (disch := omega) only [zz hA, zb, zy, reduceCtorEq, Bool.false_eq_true, Int.reduceLT, Int.reduceLE, Int.reduceNeg]) <;> (try simp only [zw])) <;> omega)))
            | ((with_reducible refine AllO.call (by conv => lhs; cbv) (hget _ ?_) ?_ ?_) <;> (first | refine AllO.pass ?_ | exact rfl | (((try simp only [zn]) <;> (try simp (disch := omega) only [zz hA, zb, zy, reduceCtorEq, Bool.false_eq_true, Int.reduceLT, Int.reduceLE, Int.reduceNeg]) <;> (try simp only [zw])) <;> omega)))
            | ((with_reducible refine AllO.call (by conv => lhs; cbv) (hb0 _ ?_) ?_ ?_) <;> (first | refine AllO.pass ?_ | exact rfl | (((try simp only [zn]) <;> (try simp (disch := omega) only [zz hA, zb, zy, reduceCtorEq, Bool.false_eq_true, Int.reduceLT, Int.reduceLE, Int.reduceNeg]) <;> (try simp only [zw])) <;> omega)))
            | ((first | refine AllO.consX (One.elemM hA tabOk rfl rfl rfl rfl ?_ ?_) rfl rfl ?_ | refine AllO.consX (One.concatM hA rfl rfl rfl ?_) rfl rfl ?_ | refine AllO.consX (One.lenOwnM hA tabOk rfl rfl rfl rfl) rfl rfl ?_ | refine AllO.consX (One.elemOwnM hA tabOk rfl rfl rfl rfl rfl ?_ ?_) rfl rfl ?_ | refine AllO.consX (One.loadRatM hA tabOk rfl rfl rfl rfl rfl rfl ?_) rfl rfl ?_) <;> (first | refine AllO.pass ?_ | (((try simp only [zn]) <;> (try simp (disch := omega) only [zz hA, zb, zy, reduceCtorEq, Bool.false_eq_true, Int.reduceLT, Int.reduceLE, Int.reduceNeg]) <;> (try simp only [zw])) <;> omega))))
        | refine Thn.exit ?_
        | refine Blk.here ?_
        | refine Blk.other (by decide) ?_
        | refine ⟨.inl rfl, _, RetOk.ev tabOk (by conv => lhs; cbv), ?_⟩
        | fail)
      have hrc := inA_rc hdn hn
      rw [ha] at hrc
      have hdw := (hdn n hn).2
      rw [ha] at hdw
      generalize hR0 : (List.replicate K.length false).set n true = R0 at *
      have hR0l : R0.length = K.length := by rw [← hR0]; simp
      have hz1 : id.toNat = n := by omega
      refine AWp.loopU (fun i : Nat => [(12, .ic (.lit (.int .i64 (hid A (cN i)))))]) (fun i => [.var true 25 [.ic (.sl 1 false (hid A (List.map (encK A) K))), .ic (.sl 1 false (hid A (List.map encI (layM K))))], .var true 44 [.ic (.lit (.int .i64 k)), .ic (.lit (.int .i64 s)), .ic (.lit (.int .i64 p)), .ic (.sl 1 false (hid A (List.map encI a)))], .row true 0 4 1 (hid A (List.map encT (inA K R0 (a.take i))))]) (fun i => a.length - i) (fun i => i ≤ a.length) 0 (by conv => lhs; cbv) (Nat.zero_le _) (by (repeat' (first | exact subE.nil | refine subE.cons rfl ?_ | refine subE.int rfl ?_ ?_ | refine subE.bool rfl ?_ ?_ | refine subE.str rfl ?_ ?_ | refine subE.sl rfl ?_ ?_)) <;> simp [hA, real, hid, cN]) (by
        ((try simp only [zn]) <;> (try simp (disch := omega) only [zz hA, zb, zy, reduceCtorEq, Bool.false_eq_true, Int.reduceLT, Int.reduceLE, Int.reduceNeg, hz1, hR0, List.take_zero, inA, List.foldl_nil]) <;> (try simp only [zw]))) ?_
      intro i hi0
      have hil : (inA K R0 (a.take i)).length = K.length := by rw [inA_len, hR0l]
      by_cases hi : i < a.length
      · have hx := hdw (a.getD i default) (by rw [List.getD_eq_getElem?_getD, List.getElem?_eq_getElem hi]; exact List.getElem_mem _)
        have hsu := inA_succ K R0 a i hi
        have hb1 := hbel (a.getD i default).toNat (by omega)
        have hbm : ∀ y ∈ belowM K (a.getD i default).toNat, 0 ≤ y ∧ y < n := fun y hy => by
          have h1 := (mem_below hdn (by omega) y).1 hy
          have h2 := Rc_le hdn (by omega) h1.2
          omega
        have hbl2 : (belowM K (a.getD i default).toNat).length ≤ 1000000 := by
          rw [below_eq hdn (by omega), List.length_map]
          have := List.length_filter_le (rcB K (a.getD i default).toNat) (List.range ((a.getD i default).toNat + 1))
          rw [List.length_range] at this
          omega
        generalize inA K R0 (a.take i) = R at *
        generalize hR2 : inA K R0 (a.take (i + 1)) = R2 at *
        generalize hxx : a.getD i default = x at *
        generalize belowM K x.toNat = b at *
        try first | refine AOLg.of [] ?_ | refine QSg.of [] ?_
        repeat' (first
          | (refine AWp.pass ?_; first
              | refine AWp.seq ?_
              | refine AWp.block ?_
              | refine AWp.skip ?_
              | refine AWp.regG [] (by conv => lhs; cbv) ?_
              | refine AWp.cond_t rfl ?_
              | refine AWp.cond_f rfl ?_
              | (refine AWp.cond rfl ?_ ?_ <;> intro hc <;> (try rw [hc]) <;> ((try simp only [zn] at hc) <;> (try simp (disch := omega) only [zz hA, zb, zy, reduceCtorEq, Bool.false_eq_true, Int.reduceLT, Int.reduceLE, Int.reduceNeg] at hc) <;> (try simp only [zw] at hc)) <;> (try (exfalso; omega)))
              | refine AWp.exit ?_
              | refine AWp.ret ⟨.inr rfl, _, RetOk.ev tabOk (by conv => lhs; cbv), ?_⟩
              | refine AWp.drawVG [] rfl (by decide +kernel) (by conv => lhs; cbv) ?_)
          | (refine AOLg.pass ?_; refine AOLg.nx hA tabOk (by conv => lhs; cbv) ?_; first
              | refine NX.done ?_
              | refine NX.gt ?_
              | refine NX.gf ?_
              | (refine NX.gs ?_ ?_ <;> intro hc <;> rw [hc] <;> ((try simp only [zn] at hc) <;> (try simp (disch := omega) only [zz hA, zb, zy, reduceCtorEq, Bool.false_eq_true, Int.reduceLT, Int.reduceLE, Int.reduceNeg] at hc) <;> (try simp only [zw] at hc)) <;> (try (exfalso; omega)))
              | (refine NX.kC ?_; first | ((with_reducible refine NX.call (hb1 _ ?_) ?_) <;> (first | refine AOLg.pass ?_ | (((try simp only [zn]) <;> (try simp (disch := omega) only [zz hA, zb, zy, reduceCtorEq, Bool.false_eq_true, Int.reduceLT, Int.reduceLE, Int.reduceNeg]) <;> (try simp only [zw])) <;> omega))) | ((first | refine NX.call (hb1 _ ?_) ?_) <;> (first | refine AOLg.pass ?_ | (((try simp only [zn]) <;> (try simp (disch := omega) only [zz hA, zb, zy, reduceCtorEq, Bool.false_eq_true, Int.reduceLT, Int.reduceLE, Int.reduceNeg]) <;> (try simp only [zw])) <;> omega))) | fail)
              | (refine NX.kO ?_; (first | refine NX.callO (hb1 _ ?_) (by simp [allEq]) rfl ?_) <;> (first | refine AOLg.pass ?_ | (((try simp only [zn]) <;> (try simp (disch := omega) only [zz hA, zb, zy, reduceCtorEq, Bool.false_eq_true, Int.reduceLT, Int.reduceLE, Int.reduceNeg]) <;> (try simp only [zw])) <;> omega)))
              | ((first | (refine NX.k 1 ?_; first | refine NX.one (One.elemM hA tabOk rfl rfl rfl rfl ?_ ?_) ?_ | refine NX.one (One.elemOwnM hA tabOk rfl rfl rfl rfl rfl ?_ ?_) ?_) | (refine NX.k 7 ?_; first | refine NX.one (One.concatM hA rfl rfl rfl ?_) ?_) | (refine NX.k 8 ?_; first | refine NX.one (One.eqBoolM hA tabOk rfl rfl rfl rfl rfl) ?_) | (refine NX.k 9 ?_; first | refine NX.one (One.neBoolM hA tabOk rfl rfl rfl rfl rfl) ?_) | (refine NX.k 10 ?_; first | refine NX.one (One.lenOwnM hA tabOk rfl rfl rfl rfl) ?_) | (refine NX.k 14 ?_; first | refine NX.one (One.loadRatM hA tabOk rfl rfl rfl rfl rfl rfl ?_) ?_) | (refine NX.k 15 ?_; first | refine NX.one (One.storeRatM hA tabOk _ rfl rfl rfl rfl rfl rfl rfl rfl (fun _ => rfl) ?_) ?_) | (refine NX.k 16 ?_; first | refine NX.one (One.makeM hA tabOk encI 0 rfl rfl rfl rfl rfl rfl rfl ?_ ?_ ?_) ?_) | (refine NX.k 18 ?_; first | refine NX.one (One.fieldRat tabOk rfl rfl rfl rfl (by decide) rfl rfl) ?_)) <;> (first | refine AOLg.pass ?_ | (((try simp only [zn]) <;> (try simp (disch := omega) only [zz hA, zb, zy, reduceCtorEq, Bool.false_eq_true, Int.reduceLT, Int.reduceLE, Int.reduceNeg]) <;> (try simp only [zw])) <;> omega)))
              | refine NX.raw ?_)
          | (refine TRg.pass ?_; refine TRg.nx hA tabOk (by conv => lhs; cbv) ?_; first
              | refine TX.done ?_
              | refine TX.gt ?_
              | refine TX.gf ?_
              | (refine TX.gs ?_ ?_ <;> intro hc <;> rw [hc] <;> ((try simp only [zn] at hc) <;> (try simp (disch := omega) only [zz hA, zb, zy, reduceCtorEq, Bool.false_eq_true, Int.reduceLT, Int.reduceLE, Int.reduceNeg] at hc) <;> (try simp only [zw] at hc)) <;> (try (exfalso; omega)))
              | (refine TX.kC ?_; first | ((with_reducible refine TX.call (hb1 _ ?_) ?_) <;> (first | refine TRg.pass ?_ | (((try simp only [zn]) <;> (try simp (disch := omega) only [zz hA, zb, zy, reduceCtorEq, Bool.false_eq_true, Int.reduceLT, Int.reduceLE, Int.reduceNeg]) <;> (try simp only [zw])) <;> omega))) | ((first | refine TX.call (hb1 _ ?_) ?_) <;> (first | refine TRg.pass ?_ | (((try simp only [zn]) <;> (try simp (disch := omega) only [zz hA, zb, zy, reduceCtorEq, Bool.false_eq_true, Int.reduceLT, Int.reduceLE, Int.reduceNeg]) <;> (try simp only [zw])) <;> omega))) | fail)
              | (refine TX.kO ?_; (first | refine TX.callO (hb1 _ ?_) (by simp [allEq]) rfl ?_) <;> (first | refine TRg.pass ?_ | (((try simp only [zn]) <;> (try simp (disch := omega) only [zz hA, zb, zy, reduceCtorEq, Bool.false_eq_true, Int.reduceLT, Int.reduceLE, Int.reduceNeg]) <;> (try simp only [zw])) <;> omega)))
              | ((first | (refine TX.k 1 ?_; first | refine TX.one (One.elemM hA tabOk rfl rfl rfl rfl ?_ ?_) ?_ | refine TX.one (One.elemOwnM hA tabOk rfl rfl rfl rfl rfl ?_ ?_) ?_) | (refine TX.k 7 ?_; first | refine TX.one (One.concatM hA rfl rfl rfl ?_) ?_) | (refine TX.k 8 ?_; first | refine TX.one (One.eqBoolM hA tabOk rfl rfl rfl rfl rfl) ?_) | (refine TX.k 9 ?_; first | refine TX.one (One.neBoolM hA tabOk rfl rfl rfl rfl rfl) ?_) | (refine TX.k 10 ?_; first | refine TX.one (One.lenOwnM hA tabOk rfl rfl rfl rfl) ?_) | (refine TX.k 14 ?_; first | refine TX.one (One.loadRatM hA tabOk rfl rfl rfl rfl rfl rfl ?_) ?_) | (refine TX.k 15 ?_; first | refine TX.one (One.storeRatM hA tabOk _ rfl rfl rfl rfl rfl rfl rfl rfl (fun _ => rfl) ?_) ?_) | (refine TX.k 16 ?_; first | refine TX.one (One.makeM hA tabOk encI 0 rfl rfl rfl rfl rfl rfl rfl ?_ ?_ ?_) ?_) | (refine TX.k 18 ?_; first | refine TX.one (One.fieldRat tabOk rfl rfl rfl rfl (by decide) rfl rfl) ?_)) <;> (first | refine TRg.pass ?_ | (((try simp only [zn]) <;> (try simp (disch := omega) only [zz hA, zb, zy, reduceCtorEq, Bool.false_eq_true, Int.reduceLT, Int.reduceLE, Int.reduceNeg]) <;> (try simp only [zw])) <;> omega)))
              | refine TX.raw ?_)
          | refine Fin3.of (by conv => lhs; cbv) (by repeat' (first | exact True.intro | exact rfl | refine And.intro ?_ ?_)) ?_ ?_
          | (refine AllO.pass ?_; first
              | exact AllO.nil
              | (refine AllO.cons (One.ev hA tabOk ?_) ?_ <;> (first | refine AllO.pass ?_ | ((conv => lhs; cbv); done)))
              | (refine AllO.cons (One.skipB ?_) ?_ <;> (first | refine AllO.pass ?_ | ((conv => lhs; cbv); done)))
              | ((with_reducible refine AllO.call (by conv => lhs; cbv) (hb1 _ ?_) ?_ ?_) <;> (first | refine AllO.pass ?_ | exact rfl | (((try simp only [zn]) <;> (try simp (disch := omega) only [zz hA, zb, zy, reduceCtorEq, Bool.false_eq_true, Int.reduceLT, Int.reduceLE, Int.reduceNeg]) <;> (try simp only [zw])) <;> omega)))
              | ((first | refine AllO.consX (One.elemM hA tabOk rfl rfl rfl rfl ?_ ?_) rfl rfl ?_ | refine AllO.consX (One.concatM hA rfl rfl rfl ?_) rfl rfl ?_ | refine AllO.consX (One.lenOwnM hA tabOk rfl rfl rfl rfl) rfl rfl ?_ | refine AllO.consX (One.elemOwnM hA tabOk rfl rfl rfl rfl rfl ?_ ?_) rfl rfl ?_ | refine AllO.consX (One.loadRatM hA tabOk rfl rfl rfl rfl rfl rfl ?_) rfl rfl ?_) <;> (first | refine AllO.pass ?_ | (((try simp only [zn]) <;> (try simp (disch := omega) only [zz hA, zb, zy, reduceCtorEq, Bool.false_eq_true, Int.reduceLT, Int.reduceLE, Int.reduceNeg]) <;> (try simp only [zw])) <;> omega))))
          | refine Thn.exit ?_
          | refine Blk.here ?_
          | refine Blk.other (by decide) ?_
          | refine ⟨.inl rfl, _, RetOk.ev tabOk (by conv => lhs; cbv), ?_⟩
          | fail)
        refine AWp.loopU (fun j : Nat => [(14, .ic (.lit (.int .i64 (hid A (cN j)))))]) (fun j => [.var true 25 [.ic (.sl 1 false (hid A (List.map (encK A) K))), .ic (.sl 1 false (hid A (List.map encI (layM K))))], .var true 44 [.ic (.lit (.int .i64 k)), .ic (.lit (.int .i64 s)), .ic (.lit (.int .i64 p)), .ic (.sl 1 false (hid A (List.map encI a)))], .row true 0 4 1 (hid A (List.map encT (markA R (b.take j))))]) (fun j => b.length - j) (fun j => j ≤ b.length) 0 (by conv => lhs; cbv) (Nat.zero_le _) (by (repeat' (first | exact subE.nil | refine subE.cons rfl ?_ | refine subE.int rfl ?_ ?_ | refine subE.bool rfl ?_ ?_ | refine subE.str rfl ?_ ?_ | refine subE.sl rfl ?_ ?_)) <;> simp [hA, real, hid, cN]) (by
          ((try simp only [zn]) <;> (try simp (disch := omega) only [zz hA, zb, zy, reduceCtorEq, Bool.false_eq_true, Int.reduceLT, Int.reduceLE, Int.reduceNeg, List.take_zero, markA, List.foldl_nil]) <;> (try simp only [zw]))) ?_
        intro j hj0
        have hjl : (markA R (b.take j)).length = K.length := by rw [markA_len, hil]
        by_cases hj : j < b.length
        · have hy := hbm (b.getD j default) (by rw [List.getD_eq_getElem?_getD, List.getElem?_eq_getElem hj]; exact List.getElem_mem _)
          have hms := markA_succ R b j hj
          generalize markA R (b.take j) = Q at *
          try first | refine AOLg.of [] ?_ | refine QSg.of [] ?_
          repeat' (first
            | (refine AWp.pass ?_; first
                | refine AWp.seq ?_
                | refine AWp.block ?_
                | refine AWp.skip ?_
                | refine AWp.regG [] (by conv => lhs; cbv) ?_
                | refine AWp.cond_t rfl ?_
                | refine AWp.cond_f rfl ?_
                | (refine AWp.cond rfl ?_ ?_ <;> intro hc <;> (try rw [hc]) <;> ((try simp only [zn] at hc) <;> (try simp (disch := omega) only [zz hA, zb, zy, reduceCtorEq, Bool.false_eq_true, Int.reduceLT, Int.reduceLE, Int.reduceNeg] at hc) <;> (try simp only [zw] at hc)) <;> (try (exfalso; omega)))
                | refine AWp.exit ?_
                | refine AWp.ret ⟨.inr rfl, _, RetOk.ev tabOk (by conv => lhs; cbv), ?_⟩
                | refine AWp.drawVG [] rfl (by decide +kernel) (by conv => lhs; cbv) ?_)
            | (refine AOLg.pass ?_; refine AOLg.nx hA tabOk (by conv => lhs; cbv) ?_; first
                | refine NX.done ?_
                | refine NX.gt ?_
                | refine NX.gf ?_
                | (refine NX.gs ?_ ?_ <;> intro hc <;> rw [hc] <;> ((try simp only [zn] at hc) <;> (try simp (disch := omega) only [zz hA, zb, zy, reduceCtorEq, Bool.false_eq_true, Int.reduceLT, Int.reduceLE, Int.reduceNeg] at hc) <;> (try simp only [zw] at hc)) <;> (try (exfalso; omega)))
                | ((first | (refine NX.k 1 ?_; first | refine NX.one (One.elemM hA tabOk rfl rfl rfl rfl ?_ ?_) ?_ | refine NX.one (One.elemOwnM hA tabOk rfl rfl rfl rfl rfl ?_ ?_) ?_) | (refine NX.k 7 ?_; first | refine NX.one (One.concatM hA rfl rfl rfl ?_) ?_) | (refine NX.k 8 ?_; first | refine NX.one (One.eqBoolM hA tabOk rfl rfl rfl rfl rfl) ?_) | (refine NX.k 9 ?_; first | refine NX.one (One.neBoolM hA tabOk rfl rfl rfl rfl rfl) ?_) | (refine NX.k 10 ?_; first | refine NX.one (One.lenOwnM hA tabOk rfl rfl rfl rfl) ?_) | (refine NX.k 14 ?_; first | refine NX.one (One.loadRatM hA tabOk rfl rfl rfl rfl rfl rfl ?_) ?_) | (refine NX.k 15 ?_; first | refine NX.one (One.storeRatM hA tabOk _ rfl rfl rfl rfl rfl rfl rfl rfl (fun _ => rfl) ?_) ?_) | (refine NX.k 16 ?_; first | refine NX.one (One.makeM hA tabOk encI 0 rfl rfl rfl rfl rfl rfl rfl ?_ ?_ ?_) ?_) | (refine NX.k 18 ?_; first | refine NX.one (One.fieldRat tabOk rfl rfl rfl rfl (by decide) rfl rfl) ?_)) <;> (first | refine AOLg.pass ?_ | (((try simp only [zn]) <;> (try simp (disch := omega) only [zz hA, zb, zy, reduceCtorEq, Bool.false_eq_true, Int.reduceLT, Int.reduceLE, Int.reduceNeg]) <;> (try simp only [zw])) <;> omega)))
                | refine NX.raw ?_)
            | (refine TRg.pass ?_; refine TRg.nx hA tabOk (by conv => lhs; cbv) ?_; first
                | refine TX.done ?_
                | refine TX.gt ?_
                | refine TX.gf ?_
                | (refine TX.gs ?_ ?_ <;> intro hc <;> rw [hc] <;> ((try simp only [zn] at hc) <;> (try simp (disch := omega) only [zz hA, zb, zy, reduceCtorEq, Bool.false_eq_true, Int.reduceLT, Int.reduceLE, Int.reduceNeg] at hc) <;> (try simp only [zw] at hc)) <;> (try (exfalso; omega)))
                | ((first | (refine TX.k 1 ?_; first | refine TX.one (One.elemM hA tabOk rfl rfl rfl rfl ?_ ?_) ?_ | refine TX.one (One.elemOwnM hA tabOk rfl rfl rfl rfl rfl ?_ ?_) ?_) | (refine TX.k 7 ?_; first | refine TX.one (One.concatM hA rfl rfl rfl ?_) ?_) | (refine TX.k 8 ?_; first | refine TX.one (One.eqBoolM hA tabOk rfl rfl rfl rfl rfl) ?_) | (refine TX.k 9 ?_; first | refine TX.one (One.neBoolM hA tabOk rfl rfl rfl rfl rfl) ?_) | (refine TX.k 10 ?_; first | refine TX.one (One.lenOwnM hA tabOk rfl rfl rfl rfl) ?_) | (refine TX.k 14 ?_; first | refine TX.one (One.loadRatM hA tabOk rfl rfl rfl rfl rfl rfl ?_) ?_) | (refine TX.k 15 ?_; first | refine TX.one (One.storeRatM hA tabOk _ rfl rfl rfl rfl rfl rfl rfl rfl (fun _ => rfl) ?_) ?_) | (refine TX.k 16 ?_; first | refine TX.one (One.makeM hA tabOk encI 0 rfl rfl rfl rfl rfl rfl rfl ?_ ?_ ?_) ?_) | (refine TX.k 18 ?_; first | refine TX.one (One.fieldRat tabOk rfl rfl rfl rfl (by decide) rfl rfl) ?_)) <;> (first | refine TRg.pass ?_ | (((try simp only [zn]) <;> (try simp (disch := omega) only [zz hA, zb, zy, reduceCtorEq, Bool.false_eq_true, Int.reduceLT, Int.reduceLE, Int.reduceNeg]) <;> (try simp only [zw])) <;> omega)))
                | refine TX.raw ?_)
            | refine Fin3.of (by conv => lhs; cbv) (by repeat' (first | exact True.intro | exact rfl | refine And.intro ?_ ?_)) ?_ ?_
            | (refine AllO.pass ?_; first
                | exact AllO.nil
                | (refine AllO.cons (One.ev hA tabOk ?_) ?_ <;> (first | refine AllO.pass ?_ | ((conv => lhs; cbv); done)))
                | (refine AllO.cons (One.skipB ?_) ?_ <;> (first | refine AllO.pass ?_ | ((conv => lhs; cbv); done)))
                | ((first | refine AllO.consX (One.elemM hA tabOk rfl rfl rfl rfl ?_ ?_) rfl rfl ?_ | refine AllO.consX (One.concatM hA rfl rfl rfl ?_) rfl rfl ?_ | refine AllO.consX (One.lenOwnM hA tabOk rfl rfl rfl rfl) rfl rfl ?_ | refine AllO.consX (One.elemOwnM hA tabOk rfl rfl rfl rfl rfl ?_ ?_) rfl rfl ?_ | refine AllO.consX (One.loadRatM hA tabOk rfl rfl rfl rfl rfl rfl ?_) rfl rfl ?_) <;> (first | refine AllO.pass ?_ | (((try simp only [zn]) <;> (try simp (disch := omega) only [zz hA, zb, zy, reduceCtorEq, Bool.false_eq_true, Int.reduceLT, Int.reduceLE, Int.reduceNeg]) <;> (try simp only [zw])) <;> omega))))
            | refine Thn.exit ?_
            | refine Blk.here ?_
            | refine Blk.other (by decide) ?_
            | refine ⟨.inl rfl, _, RetOk.ev tabOk (by conv => lhs; cbv), ?_⟩
            | fail)
          refine ⟨j + 1, ?_, ?_, rfl, ?_, ?_, (by repeat' (first | exact subE.nil | refine subE.cons rfl ?_))⟩ <;> (try omega)
          · ((try simp only [zn]) <;> (try simp (disch := omega) only [zz hA, zb, zy, reduceCtorEq, Bool.false_eq_true, Int.reduceLT, Int.reduceLE, Int.reduceNeg, hms]) <;> (try simp only [zw]))
          · exact .int rfl (by (((try simp only [zn]) <;> (try simp (disch := omega) only [zz hA, zb, zy, reduceCtorEq, Bool.false_eq_true, Int.reduceLT, Int.reduceLE, Int.reduceNeg]) <;> (try simp only [zw])) <;> omega)) .nil
        · have hmt : markA R (b.take j) = R2 := by rw [hsu, List.take_of_length_le (by omega)]
          try first | refine AOLg.of [] ?_ | refine QSg.of [] ?_
          repeat' (first
            | (refine AWp.pass ?_; first
                | refine AWp.seq ?_
                | refine AWp.block ?_
                | refine AWp.skip ?_
                | refine AWp.regG [] (by conv => lhs; cbv) ?_
                | refine AWp.cond_t rfl ?_
                | refine AWp.cond_f rfl ?_
                | (refine AWp.cond rfl ?_ ?_ <;> intro hc <;> (try rw [hc]) <;> ((try simp only [zn] at hc) <;> (try simp (disch := omega) only [zz hA, zb, zy, reduceCtorEq, Bool.false_eq_true, Int.reduceLT, Int.reduceLE, Int.reduceNeg] at hc) <;> (try simp only [zw] at hc)) <;> (try (exfalso; omega)))
                | refine AWp.exit ?_
                | refine AWp.ret ⟨.inr rfl, _, RetOk.ev tabOk (by conv => lhs; cbv), ?_⟩
                | refine AWp.drawVG [] rfl (by decide +kernel) (by conv => lhs; cbv) ?_)
            | (refine AOLg.pass ?_; refine AOLg.nx hA tabOk (by conv => lhs; cbv) ?_; first
                | refine NX.done ?_
                | refine NX.gt ?_
                | refine NX.gf ?_
                | (refine NX.gs ?_ ?_ <;> intro hc <;> rw [hc] <;> ((try simp only [zn] at hc) <;> (try simp (disch := omega) only [zz hA, zb, zy, reduceCtorEq, Bool.false_eq_true, Int.reduceLT, Int.reduceLE, Int.reduceNeg] at hc) <;> (try simp only [zw] at hc)) <;> (try (exfalso; omega)))
                | ((first | (refine NX.k 1 ?_; first | refine NX.one (One.elemM hA tabOk rfl rfl rfl rfl ?_ ?_) ?_ | refine NX.one (One.elemOwnM hA tabOk rfl rfl rfl rfl rfl ?_ ?_) ?_) | (refine NX.k 7 ?_; first | refine NX.one (One.concatM hA rfl rfl rfl ?_) ?_) | (refine NX.k 8 ?_; first | refine NX.one (One.eqBoolM hA tabOk rfl rfl rfl rfl rfl) ?_) | (refine NX.k 9 ?_; first | refine NX.one (One.neBoolM hA tabOk rfl rfl rfl rfl rfl) ?_) | (refine NX.k 10 ?_; first | refine NX.one (One.lenOwnM hA tabOk rfl rfl rfl rfl) ?_) | (refine NX.k 14 ?_; first | refine NX.one (One.loadRatM hA tabOk rfl rfl rfl rfl rfl rfl ?_) ?_) | (refine NX.k 15 ?_; first | refine NX.one (One.storeRatM hA tabOk _ rfl rfl rfl rfl rfl rfl rfl rfl (fun _ => rfl) ?_) ?_) | (refine NX.k 16 ?_; first | refine NX.one (One.makeM hA tabOk encI 0 rfl rfl rfl rfl rfl rfl rfl ?_ ?_ ?_) ?_) | (refine NX.k 18 ?_; first | refine NX.one (One.fieldRat tabOk rfl rfl rfl rfl (by decide) rfl rfl) ?_)) <;> (first | refine AOLg.pass ?_ | (((try simp only [zn]) <;> (try simp (disch := omega) only [zz hA, zb, zy, reduceCtorEq, Bool.false_eq_true, Int.reduceLT, Int.reduceLE, Int.reduceNeg]) <;> (try simp only [zw])) <;> omega)))
                | refine NX.raw ?_)
            | (refine TRg.pass ?_; refine TRg.nx hA tabOk (by conv => lhs; cbv) ?_; first
                | refine TX.done ?_
                | refine TX.gt ?_
                | refine TX.gf ?_
                | (refine TX.gs ?_ ?_ <;> intro hc <;> rw [hc] <;> ((try simp only [zn] at hc) <;> (try simp (disch := omega) only [zz hA, zb, zy, reduceCtorEq, Bool.false_eq_true, Int.reduceLT, Int.reduceLE, Int.reduceNeg] at hc) <;> (try simp only [zw] at hc)) <;> (try (exfalso; omega)))
                | ((first | (refine TX.k 1 ?_; first | refine TX.one (One.elemM hA tabOk rfl rfl rfl rfl ?_ ?_) ?_ | refine TX.one (One.elemOwnM hA tabOk rfl rfl rfl rfl rfl ?_ ?_) ?_) | (refine TX.k 7 ?_; first | refine TX.one (One.concatM hA rfl rfl rfl ?_) ?_) | (refine TX.k 8 ?_; first | refine TX.one (One.eqBoolM hA tabOk rfl rfl rfl rfl rfl) ?_) | (refine TX.k 9 ?_; first | refine TX.one (One.neBoolM hA tabOk rfl rfl rfl rfl rfl) ?_) | (refine TX.k 10 ?_; first | refine TX.one (One.lenOwnM hA tabOk rfl rfl rfl rfl) ?_) | (refine TX.k 14 ?_; first | refine TX.one (One.loadRatM hA tabOk rfl rfl rfl rfl rfl rfl ?_) ?_) | (refine TX.k 15 ?_; first | refine TX.one (One.storeRatM hA tabOk _ rfl rfl rfl rfl rfl rfl rfl rfl (fun _ => rfl) ?_) ?_) | (refine TX.k 16 ?_; first | refine TX.one (One.makeM hA tabOk encI 0 rfl rfl rfl rfl rfl rfl rfl ?_ ?_ ?_) ?_) | (refine TX.k 18 ?_; first | refine TX.one (One.fieldRat tabOk rfl rfl rfl rfl (by decide) rfl rfl) ?_)) <;> (first | refine TRg.pass ?_ | (((try simp only [zn]) <;> (try simp (disch := omega) only [zz hA, zb, zy, reduceCtorEq, Bool.false_eq_true, Int.reduceLT, Int.reduceLE, Int.reduceNeg]) <;> (try simp only [zw])) <;> omega)))
                | refine TX.raw ?_)
            | refine Fin3.of (by conv => lhs; cbv) (by repeat' (first | exact True.intro | exact rfl | refine And.intro ?_ ?_)) ?_ ?_
            | (refine AllO.pass ?_; first
                | exact AllO.nil
                | (refine AllO.cons (One.ev hA tabOk ?_) ?_ <;> (first | refine AllO.pass ?_ | ((conv => lhs; cbv); done)))
                | (refine AllO.cons (One.skipB ?_) ?_ <;> (first | refine AllO.pass ?_ | ((conv => lhs; cbv); done)))
                | ((first | refine AllO.consX (One.elemM hA tabOk rfl rfl rfl rfl ?_ ?_) rfl rfl ?_ | refine AllO.consX (One.concatM hA rfl rfl rfl ?_) rfl rfl ?_ | refine AllO.consX (One.lenOwnM hA tabOk rfl rfl rfl rfl) rfl rfl ?_ | refine AllO.consX (One.elemOwnM hA tabOk rfl rfl rfl rfl rfl ?_ ?_) rfl rfl ?_ | refine AllO.consX (One.loadRatM hA tabOk rfl rfl rfl rfl rfl rfl ?_) rfl rfl ?_) <;> (first | refine AllO.pass ?_ | (((try simp only [zn]) <;> (try simp (disch := omega) only [zz hA, zb, zy, reduceCtorEq, Bool.false_eq_true, Int.reduceLT, Int.reduceLE, Int.reduceNeg]) <;> (try simp only [zw])) <;> omega))))
            | refine Thn.exit ?_
            | refine Blk.here ?_
            | refine Blk.other (by decide) ?_
            | refine ⟨.inl rfl, _, RetOk.ev tabOk (by conv => lhs; cbv), ?_⟩
            | fail)
          refine ⟨i + 1, ?_, ?_, rfl, ?_, ?_, (by repeat' (first | exact subE.nil | refine subE.cons rfl ?_))⟩ <;> (try omega)
          · ((try simp only [zn]) <;> (try simp (disch := omega) only [zz hA, zb, zy, reduceCtorEq, Bool.false_eq_true, Int.reduceLT, Int.reduceLE, Int.reduceNeg, hmt, hR2]) <;> (try simp only [zw]))
          · exact .int rfl (by (((try simp only [zn]) <;> (try simp (disch := omega) only [zz hA, zb, zy, reduceCtorEq, Bool.false_eq_true, Int.reduceLT, Int.reduceLE, Int.reduceNeg]) <;> (try simp only [zw])) <;> omega)) .nil
      · have hit : inA K R0 (a.take i) = inA K R0 a := by rw [List.take_of_length_le (by omega)]
        rw [hit]
        have hil2 : (inA K R0 a).length = K.length := by rw [inA_len, hR0l]
        generalize inA K R0 a = R at *
        have hc0 : cntR K n 0 = 0 := rfl
        try first | refine AOLg.of [] ?_ | refine QSg.of [] ?_
        repeat' (first
          | (refine AWp.pass ?_; first
              | refine AWp.seq ?_
              | refine AWp.block ?_
              | refine AWp.skip ?_
              | refine AWp.regG [] (by conv => lhs; cbv) ?_
              | refine AWp.cond_t rfl ?_
              | refine AWp.cond_f rfl ?_
              | (refine AWp.cond rfl ?_ ?_ <;> intro hc <;> (try rw [hc]) <;> ((try simp only [zn] at hc) <;> (try simp (disch := omega) only [zz hA, zb, zy, reduceCtorEq, Bool.false_eq_true, Int.reduceLT, Int.reduceLE, Int.reduceNeg] at hc) <;> (try simp only [zw] at hc)) <;> (try (exfalso; omega)))
              | refine AWp.exit ?_
              | refine AWp.ret ⟨.inr rfl, _, RetOk.ev tabOk (by conv => lhs; cbv), ?_⟩
              | refine AWp.drawVG [] rfl (by decide +kernel) (by conv => lhs; cbv) ?_)
          | (refine AOLg.pass ?_; refine AOLg.nx hA tabOk (by conv => lhs; cbv) ?_; first
              | refine NX.done ?_
              | refine NX.gt ?_
              | refine NX.gf ?_
              | (refine NX.gs ?_ ?_ <;> intro hc <;> rw [hc] <;> ((try simp only [zn] at hc) <;> (try simp (disch := omega) only [zz hA, zb, zy, reduceCtorEq, Bool.false_eq_true, Int.reduceLT, Int.reduceLE, Int.reduceNeg] at hc) <;> (try simp only [zw] at hc)) <;> (try (exfalso; omega)))
              | ((first | (refine NX.k 1 ?_; first | refine NX.one (One.elemM hA tabOk rfl rfl rfl rfl ?_ ?_) ?_ | refine NX.one (One.elemOwnM hA tabOk rfl rfl rfl rfl rfl ?_ ?_) ?_) | (refine NX.k 7 ?_; first | refine NX.one (One.concatM hA rfl rfl rfl ?_) ?_) | (refine NX.k 8 ?_; first | refine NX.one (One.eqBoolM hA tabOk rfl rfl rfl rfl rfl) ?_) | (refine NX.k 9 ?_; first | refine NX.one (One.neBoolM hA tabOk rfl rfl rfl rfl rfl) ?_) | (refine NX.k 10 ?_; first | refine NX.one (One.lenOwnM hA tabOk rfl rfl rfl rfl) ?_) | (refine NX.k 14 ?_; first | refine NX.one (One.loadRatM hA tabOk rfl rfl rfl rfl rfl rfl ?_) ?_) | (refine NX.k 15 ?_; first | refine NX.one (One.storeRatM hA tabOk _ rfl rfl rfl rfl rfl rfl rfl rfl (fun _ => rfl) ?_) ?_) | (refine NX.k 16 ?_; first | refine NX.one (One.makeM hA tabOk encI 0 rfl rfl rfl rfl rfl rfl rfl ?_ ?_ ?_) ?_) | (refine NX.k 18 ?_; first | refine NX.one (One.fieldRat tabOk rfl rfl rfl rfl (by decide) rfl rfl) ?_)) <;> (first | refine AOLg.pass ?_ | (((try simp only [zn]) <;> (try simp (disch := omega) only [zz hA, zb, zy, reduceCtorEq, Bool.false_eq_true, Int.reduceLT, Int.reduceLE, Int.reduceNeg]) <;> (try simp only [zw])) <;> omega)))
              | refine NX.raw ?_)
          | (refine TRg.pass ?_; refine TRg.nx hA tabOk (by conv => lhs; cbv) ?_; first
              | refine TX.done ?_
              | refine TX.gt ?_
              | refine TX.gf ?_
              | (refine TX.gs ?_ ?_ <;> intro hc <;> rw [hc] <;> ((try simp only [zn] at hc) <;> (try simp (disch := omega) only [zz hA, zb, zy, reduceCtorEq, Bool.false_eq_true, Int.reduceLT, Int.reduceLE, Int.reduceNeg] at hc) <;> (try simp only [zw] at hc)) <;> (try (exfalso; omega)))
              | ((first | (refine TX.k 1 ?_; first | refine TX.one (One.elemM hA tabOk rfl rfl rfl rfl ?_ ?_) ?_ | refine TX.one (One.elemOwnM hA tabOk rfl rfl rfl rfl rfl ?_ ?_) ?_) | (refine TX.k 7 ?_; first | refine TX.one (One.concatM hA rfl rfl rfl ?_) ?_) | (refine TX.k 8 ?_; first | refine TX.one (One.eqBoolM hA tabOk rfl rfl rfl rfl rfl) ?_) | (refine TX.k 9 ?_; first | refine TX.one (One.neBoolM hA tabOk rfl rfl rfl rfl rfl) ?_) | (refine TX.k 10 ?_; first | refine TX.one (One.lenOwnM hA tabOk rfl rfl rfl rfl) ?_) | (refine TX.k 14 ?_; first | refine TX.one (One.loadRatM hA tabOk rfl rfl rfl rfl rfl rfl ?_) ?_) | (refine TX.k 15 ?_; first | refine TX.one (One.storeRatM hA tabOk _ rfl rfl rfl rfl rfl rfl rfl rfl (fun _ => rfl) ?_) ?_) | (refine TX.k 16 ?_; first | refine TX.one (One.makeM hA tabOk encI 0 rfl rfl rfl rfl rfl rfl rfl ?_ ?_ ?_) ?_) | (refine TX.k 18 ?_; first | refine TX.one (One.fieldRat tabOk rfl rfl rfl rfl (by decide) rfl rfl) ?_)) <;> (first | refine TRg.pass ?_ | (((try simp only [zn]) <;> (try simp (disch := omega) only [zz hA, zb, zy, reduceCtorEq, Bool.false_eq_true, Int.reduceLT, Int.reduceLE, Int.reduceNeg]) <;> (try simp only [zw])) <;> omega)))
              | refine TX.raw ?_)
          | refine Fin3.of (by conv => lhs; cbv) (by repeat' (first | exact True.intro | exact rfl | refine And.intro ?_ ?_)) ?_ ?_
          | (refine AllO.pass ?_; first
              | exact AllO.nil
              | (refine AllO.cons (One.ev hA tabOk ?_) ?_ <;> (first | refine AllO.pass ?_ | ((conv => lhs; cbv); done)))
              | (refine AllO.cons (One.skipB ?_) ?_ <;> (first | refine AllO.pass ?_ | ((conv => lhs; cbv); done)))
              | ((first | refine AllO.consX (One.elemM hA tabOk rfl rfl rfl rfl ?_ ?_) rfl rfl ?_ | refine AllO.consX (One.concatM hA rfl rfl rfl ?_) rfl rfl ?_ | refine AllO.consX (One.lenOwnM hA tabOk rfl rfl rfl rfl) rfl rfl ?_ | refine AllO.consX (One.elemOwnM hA tabOk rfl rfl rfl rfl rfl ?_ ?_) rfl rfl ?_ | refine AllO.consX (One.loadRatM hA tabOk rfl rfl rfl rfl rfl rfl ?_) rfl rfl ?_) <;> (first | refine AllO.pass ?_ | (((try simp only [zn]) <;> (try simp (disch := omega) only [zz hA, zb, zy, reduceCtorEq, Bool.false_eq_true, Int.reduceLT, Int.reduceLE, Int.reduceNeg]) <;> (try simp only [zw])) <;> omega))))
          | refine Thn.exit ?_
          | refine Blk.here ?_
          | refine Blk.other (by decide) ?_
          | refine ⟨.inl rfl, _, RetOk.ev tabOk (by conv => lhs; cbv), ?_⟩
          | fail)
        refine AWp.loopU (fun i : Nat => [(16, .ic (.lit (.int .i64 (hid A (cN i))))), (15, .ic (.lit (.int .i64 (hid A (cN (cntR K n i))))))]) (fun _ => [.var true 25 [.ic (.sl 1 false (hid A (List.map (encK A) K))), .ic (.sl 1 false (hid A (List.map encI (layM K))))], .var true 44 [.ic (.lit (.int .i64 k)), .ic (.lit (.int .i64 s)), .ic (.lit (.int .i64 p)), .ic (.sl 1 false (hid A (List.map encI a)))], .row true 0 4 1 (hid A (List.map encT (R)))]) (fun i => K.length - i) (fun i => i ≤ K.length) 0 (by conv => lhs; cbv) (Nat.zero_le _) (.int rfl (by simp [hA, real, hid, cN]) (.int rfl (by simp [hA, real, hid, cN, hc0]) .nil)) rfl ?_
        intro i2 hi2
        have hcl := cntR_le K n i2
        have hcs := cntR_succ K n i2
        by_cases hq2 : i2 < K.length
        · have hg := hrc i2 hq2
          rw [← rcB_iff] at hg
          cases hb : rcB K n i2 with
          | true =>
            have hin : R.getD i2 default = true := hg.2 hb
            obtain ⟨ha1, ha2⟩ := below_at hdn hn hb
            rw [hb, if_pos rfl] at hcs
            clear hrc hg
            generalize belowM K n = all at *
            generalize cntR K n i2 = c at *
            have hno : R.getD i2 default = false → False := by rw [hin]; simp
            try first | refine AOLg.of [] ?_ | refine QSg.of [] ?_
            repeat' (first
              | (refine AWp.pass ?_; first
                  | refine AWp.seq ?_
                  | refine AWp.block ?_
                  | refine AWp.skip ?_
                  | refine AWp.regG [] (by conv => lhs; cbv) ?_
                  | refine AWp.cond_t rfl ?_
                  | refine AWp.cond_f rfl ?_
                  | (refine AWp.cond rfl ?_ ?_ <;> intro hc <;> (try rw [hc]) <;> ((try simp only [zn] at hc) <;> (try simp (disch := omega) only [zz hA, zb, zy, reduceCtorEq, Bool.false_eq_true, Int.reduceLT, Int.reduceLE, Int.reduceNeg] at hc) <;> (try simp only [zw] at hc)) <;> (try (exfalso; omega)))
                  | refine AWp.exit ?_
                  | refine AWp.ret ⟨.inr rfl, _, RetOk.ev tabOk (by conv => lhs; cbv), ?_⟩
                  | refine AWp.drawVG [] rfl (by decide +kernel) (by conv => lhs; cbv) ?_)
              | (refine AOLg.pass ?_; refine AOLg.nx hA tabOk (by conv => lhs; cbv) ?_; first
                  | refine NX.done ?_
                  | refine NX.gt ?_
                  | refine NX.gf ?_
                  | (refine NX.gs ?_ ?_ <;> intro hc <;> rw [hc] <;> ((try simp only [zn] at hc) <;> (try simp (disch := omega) only [zz hA, zb, zy, reduceCtorEq, Bool.false_eq_true, Int.reduceLT, Int.reduceLE, Int.reduceNeg] at hc) <;> (try simp only [zw] at hc)) <;> (try (exfalso; omega)))
                  | ((first | (refine NX.k 1 ?_; first | refine NX.one (One.elemM hA tabOk rfl rfl rfl rfl ?_ ?_) ?_ | refine NX.one (One.elemOwnM hA tabOk rfl rfl rfl rfl rfl ?_ ?_) ?_) | (refine NX.k 7 ?_; first | refine NX.one (One.concatM hA rfl rfl rfl ?_) ?_) | (refine NX.k 8 ?_; first | refine NX.one (One.eqBoolM hA tabOk rfl rfl rfl rfl rfl) ?_) | (refine NX.k 9 ?_; first | refine NX.one (One.neBoolM hA tabOk rfl rfl rfl rfl rfl) ?_) | (refine NX.k 10 ?_; first | refine NX.one (One.lenOwnM hA tabOk rfl rfl rfl rfl) ?_) | (refine NX.k 14 ?_; first | refine NX.one (One.loadRatM hA tabOk rfl rfl rfl rfl rfl rfl ?_) ?_) | (refine NX.k 15 ?_; first | refine NX.one (One.storeRatM hA tabOk _ rfl rfl rfl rfl rfl rfl rfl rfl (fun _ => rfl) ?_) ?_) | (refine NX.k 16 ?_; first | refine NX.one (One.makeM hA tabOk encI 0 rfl rfl rfl rfl rfl rfl rfl ?_ ?_ ?_) ?_) | (refine NX.k 18 ?_; first | refine NX.one (One.fieldRat tabOk rfl rfl rfl rfl (by decide) rfl rfl) ?_)) <;> (first | refine AOLg.pass ?_ | (((try simp only [zn]) <;> (try simp (disch := omega) only [zz hA, zb, zy, reduceCtorEq, Bool.false_eq_true, Int.reduceLT, Int.reduceLE, Int.reduceNeg]) <;> (try simp only [zw])) <;> omega)))
                  | refine NX.raw ?_)
              | (refine TRg.pass ?_; refine TRg.nx hA tabOk (by conv => lhs; cbv) ?_; first
                  | refine TX.done ?_
                  | refine TX.gt ?_
                  | refine TX.gf ?_
                  | (refine TX.gs ?_ ?_ <;> intro hc <;> rw [hc] <;> ((try simp only [zn] at hc) <;> (try simp (disch := omega) only [zz hA, zb, zy, reduceCtorEq, Bool.false_eq_true, Int.reduceLT, Int.reduceLE, Int.reduceNeg] at hc) <;> (try simp only [zw] at hc)) <;> (try (exfalso; omega)))
                  | ((first | (refine TX.k 1 ?_; first | refine TX.one (One.elemM hA tabOk rfl rfl rfl rfl ?_ ?_) ?_ | refine TX.one (One.elemOwnM hA tabOk rfl rfl rfl rfl rfl ?_ ?_) ?_) | (refine TX.k 7 ?_; first | refine TX.one (One.concatM hA rfl rfl rfl ?_) ?_) | (refine TX.k 8 ?_; first | refine TX.one (One.eqBoolM hA tabOk rfl rfl rfl rfl rfl) ?_) | (refine TX.k 9 ?_; first | refine TX.one (One.neBoolM hA tabOk rfl rfl rfl rfl rfl) ?_) | (refine TX.k 10 ?_; first | refine TX.one (One.lenOwnM hA tabOk rfl rfl rfl rfl) ?_) | (refine TX.k 14 ?_; first | refine TX.one (One.loadRatM hA tabOk rfl rfl rfl rfl rfl rfl ?_) ?_) | (refine TX.k 15 ?_; first | refine TX.one (One.storeRatM hA tabOk _ rfl rfl rfl rfl rfl rfl rfl rfl (fun _ => rfl) ?_) ?_) | (refine TX.k 16 ?_; first | refine TX.one (One.makeM hA tabOk encI 0 rfl rfl rfl rfl rfl rfl rfl ?_ ?_ ?_) ?_) | (refine TX.k 18 ?_; first | refine TX.one (One.fieldRat tabOk rfl rfl rfl rfl (by decide) rfl rfl) ?_)) <;> (first | refine TRg.pass ?_ | (((try simp only [zn]) <;> (try simp (disch := omega) only [zz hA, zb, zy, reduceCtorEq, Bool.false_eq_true, Int.reduceLT, Int.reduceLE, Int.reduceNeg]) <;> (try simp only [zw])) <;> omega)))
                  | refine TX.raw ?_)
              | refine Fin3.of (by conv => lhs; cbv) (by repeat' (first | exact True.intro | exact rfl | refine And.intro ?_ ?_)) ?_ ?_
              | (refine AllO.pass ?_; first
                  | exact AllO.nil
                  | (refine AllO.cons (One.ev hA tabOk ?_) ?_ <;> (first | refine AllO.pass ?_ | ((conv => lhs; cbv); done)))
                  | (refine AllO.cons (One.skipB ?_) ?_ <;> (first | refine AllO.pass ?_ | ((conv => lhs; cbv); done)))
                  | ((first | refine AllO.consX (One.elemM hA tabOk rfl rfl rfl rfl ?_ ?_) rfl rfl ?_ | refine AllO.consX (One.concatM hA rfl rfl rfl ?_) rfl rfl ?_ | refine AllO.consX (One.lenOwnM hA tabOk rfl rfl rfl rfl) rfl rfl ?_ | refine AllO.consX (One.elemOwnM hA tabOk rfl rfl rfl rfl rfl ?_ ?_) rfl rfl ?_ | refine AllO.consX (One.loadRatM hA tabOk rfl rfl rfl rfl rfl rfl ?_) rfl rfl ?_) <;> (first | refine AllO.pass ?_ | (((try simp only [zn]) <;> (try simp (disch := omega) only [zz hA, zb, zy, reduceCtorEq, Bool.false_eq_true, Int.reduceLT, Int.reduceLE, Int.reduceNeg]) <;> (try simp only [zw])) <;> omega))))
              | refine Thn.exit ?_
              | refine Blk.here ?_
              | refine Blk.other (by decide) ?_
              | refine ⟨.inl rfl, _, RetOk.ev tabOk (by conv => lhs; cbv), ?_⟩
              | fail)
            all_goals first
              | exact (hno ‹R.getD i2 default = false›).elim
              | skip
            refine ⟨i2 + 1, ?_, ?_, rfl, rfl, ?_, (by repeat' (first | exact subE.nil | refine subE.cons rfl ?_))⟩ <;> (try omega)
            refine .int rfl ?_ (.int rfl ?_ .nil)
            all_goals (((try simp only [zn]) <;> (try simp (disch := omega) only [zz hA, zb, zy, reduceCtorEq, Bool.false_eq_true, Int.reduceLT, Int.reduceLE, Int.reduceNeg]) <;> (try simp only [zw])) <;> omega)
          | false =>
            have hin : R.getD i2 default = false := by
              cases h : R.getD i2 default with
              | false => rfl
              | true => rw [hg.1 h] at hb; cases hb
            rw [hb, if_neg (by simp)] at hcs
            clear hrc hg
            have hno : R.getD i2 default = true → False := by rw [hin]; simp
            try first | refine AOLg.of [] ?_ | refine QSg.of [] ?_
            repeat' (first
              | (refine AWp.pass ?_; first
                  | refine AWp.seq ?_
                  | refine AWp.block ?_
                  | refine AWp.skip ?_
                  | refine AWp.regG [] (by conv => lhs; cbv) ?_
                  | refine AWp.cond_t rfl ?_
                  | refine AWp.cond_f rfl ?_
                  | (refine AWp.cond rfl ?_ ?_ <;> intro hc <;> (try rw [hc]) <;> ((try simp only [zn] at hc) <;> (try simp (disch := omega) only [zz hA, zb, zy, reduceCtorEq, Bool.false_eq_true, Int.reduceLT, Int.reduceLE, Int.reduceNeg] at hc) <;> (try simp only [zw] at hc)) <;> (try (exfalso; omega)))
                  | refine AWp.exit ?_
                  | refine AWp.ret ⟨.inr rfl, _, RetOk.ev tabOk (by conv => lhs; cbv), ?_⟩
                  | refine AWp.drawVG [] rfl (by decide +kernel) (by conv => lhs; cbv) ?_)
              | (refine AOLg.pass ?_; refine AOLg.nx hA tabOk (by conv => lhs; cbv) ?_; first
                  | refine NX.done ?_
                  | refine NX.gt ?_
                  | refine NX.gf ?_
                  | (refine NX.gs ?_ ?_ <;> intro hc <;> rw [hc] <;> ((try simp only [zn] at hc) <;> (try simp (disch := omega) only [zz hA, zb, zy, reduceCtorEq, Bool.false_eq_true, Int.reduceLT, Int.reduceLE, Int.reduceNeg] at hc) <;> (try simp only [zw] at hc)) <;> (try (exfalso; omega)))
                  | ((first | (refine NX.k 1 ?_; first | refine NX.one (One.elemM hA tabOk rfl rfl rfl rfl ?_ ?_) ?_ | refine NX.one (One.elemOwnM hA tabOk rfl rfl rfl rfl rfl ?_ ?_) ?_) | (refine NX.k 7 ?_; first | refine NX.one (One.concatM hA rfl rfl rfl ?_) ?_) | (refine NX.k 8 ?_; first | refine NX.one (One.eqBoolM hA tabOk rfl rfl rfl rfl rfl) ?_) | (refine NX.k 9 ?_; first | refine NX.one (One.neBoolM hA tabOk rfl rfl rfl rfl rfl) ?_) | (refine NX.k 10 ?_; first | refine NX.one (One.lenOwnM hA tabOk rfl rfl rfl rfl) ?_) | (refine NX.k 14 ?_; first | refine NX.one (One.loadRatM hA tabOk rfl rfl rfl rfl rfl rfl ?_) ?_) | (refine NX.k 15 ?_; first | refine NX.one (One.storeRatM hA tabOk _ rfl rfl rfl rfl rfl rfl rfl rfl (fun _ => rfl) ?_) ?_) | (refine NX.k 16 ?_; first | refine NX.one (One.makeM hA tabOk encI 0 rfl rfl rfl rfl rfl rfl rfl ?_ ?_ ?_) ?_) | (refine NX.k 18 ?_; first | refine NX.one (One.fieldRat tabOk rfl rfl rfl rfl (by decide) rfl rfl) ?_)) <;> (first | refine AOLg.pass ?_ | (((try simp only [zn]) <;> (try simp (disch := omega) only [zz hA, zb, zy, reduceCtorEq, Bool.false_eq_true, Int.reduceLT, Int.reduceLE, Int.reduceNeg]) <;> (try simp only [zw])) <;> omega)))
                  | refine NX.raw ?_)
              | (refine TRg.pass ?_; refine TRg.nx hA tabOk (by conv => lhs; cbv) ?_; first
                  | refine TX.done ?_
                  | refine TX.gt ?_
                  | refine TX.gf ?_
                  | (refine TX.gs ?_ ?_ <;> intro hc <;> rw [hc] <;> ((try simp only [zn] at hc) <;> (try simp (disch := omega) only [zz hA, zb, zy, reduceCtorEq, Bool.false_eq_true, Int.reduceLT, Int.reduceLE, Int.reduceNeg] at hc) <;> (try simp only [zw] at hc)) <;> (try (exfalso; omega)))
                  | ((first | (refine TX.k 1 ?_; first | refine TX.one (One.elemM hA tabOk rfl rfl rfl rfl ?_ ?_) ?_ | refine TX.one (One.elemOwnM hA tabOk rfl rfl rfl rfl rfl ?_ ?_) ?_) | (refine TX.k 7 ?_; first | refine TX.one (One.concatM hA rfl rfl rfl ?_) ?_) | (refine TX.k 8 ?_; first | refine TX.one (One.eqBoolM hA tabOk rfl rfl rfl rfl rfl) ?_) | (refine TX.k 9 ?_; first | refine TX.one (One.neBoolM hA tabOk rfl rfl rfl rfl rfl) ?_) | (refine TX.k 10 ?_; first | refine TX.one (One.lenOwnM hA tabOk rfl rfl rfl rfl) ?_) | (refine TX.k 14 ?_; first | refine TX.one (One.loadRatM hA tabOk rfl rfl rfl rfl rfl rfl ?_) ?_) | (refine TX.k 15 ?_; first | refine TX.one (One.storeRatM hA tabOk _ rfl rfl rfl rfl rfl rfl rfl rfl (fun _ => rfl) ?_) ?_) | (refine TX.k 16 ?_; first | refine TX.one (One.makeM hA tabOk encI 0 rfl rfl rfl rfl rfl rfl rfl ?_ ?_ ?_) ?_) | (refine TX.k 18 ?_; first | refine TX.one (One.fieldRat tabOk rfl rfl rfl rfl (by decide) rfl rfl) ?_)) <;> (first | refine TRg.pass ?_ | (((try simp only [zn]) <;> (try simp (disch := omega) only [zz hA, zb, zy, reduceCtorEq, Bool.false_eq_true, Int.reduceLT, Int.reduceLE, Int.reduceNeg]) <;> (try simp only [zw])) <;> omega)))
                  | refine TX.raw ?_)
              | refine Fin3.of (by conv => lhs; cbv) (by repeat' (first | exact True.intro | exact rfl | refine And.intro ?_ ?_)) ?_ ?_
              | (refine AllO.pass ?_; first
                  | exact AllO.nil
                  | (refine AllO.cons (One.ev hA tabOk ?_) ?_ <;> (first | refine AllO.pass ?_ | ((conv => lhs; cbv); done)))
                  | (refine AllO.cons (One.skipB ?_) ?_ <;> (first | refine AllO.pass ?_ | ((conv => lhs; cbv); done)))
                  | ((first | refine AllO.consX (One.elemM hA tabOk rfl rfl rfl rfl ?_ ?_) rfl rfl ?_ | refine AllO.consX (One.concatM hA rfl rfl rfl ?_) rfl rfl ?_ | refine AllO.consX (One.lenOwnM hA tabOk rfl rfl rfl rfl) rfl rfl ?_ | refine AllO.consX (One.elemOwnM hA tabOk rfl rfl rfl rfl rfl ?_ ?_) rfl rfl ?_ | refine AllO.consX (One.loadRatM hA tabOk rfl rfl rfl rfl rfl rfl ?_) rfl rfl ?_) <;> (first | refine AllO.pass ?_ | (((try simp only [zn]) <;> (try simp (disch := omega) only [zz hA, zb, zy, reduceCtorEq, Bool.false_eq_true, Int.reduceLT, Int.reduceLE, Int.reduceNeg]) <;> (try simp only [zw])) <;> omega))))
              | refine Thn.exit ?_
              | refine Blk.here ?_
              | refine Blk.other (by decide) ?_
              | refine ⟨.inl rfl, _, RetOk.ev tabOk (by conv => lhs; cbv), ?_⟩
              | fail)
            all_goals first
              | exact (hno ‹R.getD i2 default = true›).elim
              | skip
            refine ⟨i2 + 1, ?_, ?_, rfl, rfl, ?_, (by repeat' (first | exact subE.nil | refine subE.cons rfl ?_))⟩ <;> (try omega)
            refine .int rfl ?_ (.int rfl ?_ .nil)
            all_goals (((try simp only [zn]) <;> (try simp (disch := omega) only [zz hA, zb, zy, reduceCtorEq, Bool.false_eq_true, Int.reduceLT, Int.reduceLE, Int.reduceNeg]) <;> (try simp only [zw])) <;> omega)
        · obtain rfl : i2 = K.length := by omega
          have hca := cntR_all (n := K.length) hdn hn hn
          generalize belowM K n = all at *
          generalize cntR K n K.length = c at *
          try first | refine AOLg.of [] ?_ | refine QSg.of [] ?_
          repeat' (first
            | (refine AWp.pass ?_; first
                | refine AWp.seq ?_
                | refine AWp.block ?_
                | refine AWp.skip ?_
                | refine AWp.regG [] (by conv => lhs; cbv) ?_
                | refine AWp.cond_t rfl ?_
                | refine AWp.cond_f rfl ?_
                | (refine AWp.cond rfl ?_ ?_ <;> intro hc <;> (try rw [hc]) <;> ((try simp only [zn] at hc) <;> (try simp (disch := omega) only [zz hA, zb, zy, reduceCtorEq, Bool.false_eq_true, Int.reduceLT, Int.reduceLE, Int.reduceNeg] at hc) <;> (try simp only [zw] at hc)) <;> (try (exfalso; omega)))
                | refine AWp.exit ?_
                | refine AWp.ret ⟨.inr rfl, _, RetOk.ev tabOk (by conv => lhs; cbv), ?_⟩
                | refine AWp.drawVG [] rfl (by decide +kernel) (by conv => lhs; cbv) ?_)
            | (refine AOLg.pass ?_; refine AOLg.nx hA tabOk (by conv => lhs; cbv) ?_; first
                | refine NX.done ?_
                | refine NX.gt ?_
                | refine NX.gf ?_
                | (refine NX.gs ?_ ?_ <;> intro hc <;> rw [hc] <;> ((try simp only [zn] at hc) <;> (try simp (disch := omega) only [zz hA, zb, zy, reduceCtorEq, Bool.false_eq_true, Int.reduceLT, Int.reduceLE, Int.reduceNeg] at hc) <;> (try simp only [zw] at hc)) <;> (try (exfalso; omega)))
                | ((first | (refine NX.k 1 ?_; first | refine NX.one (One.elemM hA tabOk rfl rfl rfl rfl ?_ ?_) ?_ | refine NX.one (One.elemOwnM hA tabOk rfl rfl rfl rfl rfl ?_ ?_) ?_) | (refine NX.k 7 ?_; first | refine NX.one (One.concatM hA rfl rfl rfl ?_) ?_) | (refine NX.k 8 ?_; first | refine NX.one (One.eqBoolM hA tabOk rfl rfl rfl rfl rfl) ?_) | (refine NX.k 9 ?_; first | refine NX.one (One.neBoolM hA tabOk rfl rfl rfl rfl rfl) ?_) | (refine NX.k 10 ?_; first | refine NX.one (One.lenOwnM hA tabOk rfl rfl rfl rfl) ?_) | (refine NX.k 14 ?_; first | refine NX.one (One.loadRatM hA tabOk rfl rfl rfl rfl rfl rfl ?_) ?_) | (refine NX.k 15 ?_; first | refine NX.one (One.storeRatM hA tabOk _ rfl rfl rfl rfl rfl rfl rfl rfl (fun _ => rfl) ?_) ?_) | (refine NX.k 16 ?_; first | refine NX.one (One.makeM hA tabOk encI 0 rfl rfl rfl rfl rfl rfl rfl ?_ ?_ ?_) ?_) | (refine NX.k 18 ?_; first | refine NX.one (One.fieldRat tabOk rfl rfl rfl rfl (by decide) rfl rfl) ?_)) <;> (first | refine AOLg.pass ?_ | (((try simp only [zn]) <;> (try simp (disch := omega) only [zz hA, zb, zy, reduceCtorEq, Bool.false_eq_true, Int.reduceLT, Int.reduceLE, Int.reduceNeg]) <;> (try simp only [zw])) <;> omega)))
                | refine NX.raw ?_)
            | (refine TRg.pass ?_; refine TRg.nx hA tabOk (by conv => lhs; cbv) ?_; first
                | refine TX.done ?_
                | refine TX.gt ?_
                | refine TX.gf ?_
                | (refine TX.gs ?_ ?_ <;> intro hc <;> rw [hc] <;> ((try simp only [zn] at hc) <;> (try simp (disch := omega) only [zz hA, zb, zy, reduceCtorEq, Bool.false_eq_true, Int.reduceLT, Int.reduceLE, Int.reduceNeg] at hc) <;> (try simp only [zw] at hc)) <;> (try (exfalso; omega)))
                | ((first | (refine TX.k 1 ?_; first | refine TX.one (One.elemM hA tabOk rfl rfl rfl rfl ?_ ?_) ?_ | refine TX.one (One.elemOwnM hA tabOk rfl rfl rfl rfl rfl ?_ ?_) ?_) | (refine TX.k 7 ?_; first | refine TX.one (One.concatM hA rfl rfl rfl ?_) ?_) | (refine TX.k 8 ?_; first | refine TX.one (One.eqBoolM hA tabOk rfl rfl rfl rfl rfl) ?_) | (refine TX.k 9 ?_; first | refine TX.one (One.neBoolM hA tabOk rfl rfl rfl rfl rfl) ?_) | (refine TX.k 10 ?_; first | refine TX.one (One.lenOwnM hA tabOk rfl rfl rfl rfl) ?_) | (refine TX.k 14 ?_; first | refine TX.one (One.loadRatM hA tabOk rfl rfl rfl rfl rfl rfl ?_) ?_) | (refine TX.k 15 ?_; first | refine TX.one (One.storeRatM hA tabOk _ rfl rfl rfl rfl rfl rfl rfl rfl (fun _ => rfl) ?_) ?_) | (refine TX.k 16 ?_; first | refine TX.one (One.makeM hA tabOk encI 0 rfl rfl rfl rfl rfl rfl rfl ?_ ?_ ?_) ?_) | (refine TX.k 18 ?_; first | refine TX.one (One.fieldRat tabOk rfl rfl rfl rfl (by decide) rfl rfl) ?_)) <;> (first | refine TRg.pass ?_ | (((try simp only [zn]) <;> (try simp (disch := omega) only [zz hA, zb, zy, reduceCtorEq, Bool.false_eq_true, Int.reduceLT, Int.reduceLE, Int.reduceNeg]) <;> (try simp only [zw])) <;> omega)))
                | refine TX.raw ?_)
            | refine Fin3.of (by conv => lhs; cbv) (by repeat' (first | exact True.intro | exact rfl | refine And.intro ?_ ?_)) ?_ ?_
            | (refine AllO.pass ?_; first
                | exact AllO.nil
                | (refine AllO.cons (One.ev hA tabOk ?_) ?_ <;> (first | refine AllO.pass ?_ | ((conv => lhs; cbv); done)))
                | (refine AllO.cons (One.skipB ?_) ?_ <;> (first | refine AllO.pass ?_ | ((conv => lhs; cbv); done)))
                | ((first | refine AllO.consX (One.elemM hA tabOk rfl rfl rfl rfl ?_ ?_) rfl rfl ?_ | refine AllO.consX (One.concatM hA rfl rfl rfl ?_) rfl rfl ?_ | refine AllO.consX (One.lenOwnM hA tabOk rfl rfl rfl rfl) rfl rfl ?_ | refine AllO.consX (One.elemOwnM hA tabOk rfl rfl rfl rfl rfl ?_ ?_) rfl rfl ?_ | refine AllO.consX (One.loadRatM hA tabOk rfl rfl rfl rfl rfl rfl ?_) rfl rfl ?_) <;> (first | refine AllO.pass ?_ | (((try simp only [zn]) <;> (try simp (disch := omega) only [zz hA, zb, zy, reduceCtorEq, Bool.false_eq_true, Int.reduceLT, Int.reduceLE, Int.reduceNeg]) <;> (try simp only [zw])) <;> omega))))
            | refine Thn.exit ?_
            | refine Blk.here ?_
            | refine Blk.other (by decide) ?_
            | refine ⟨.inl rfl, _, RetOk.ev tabOk (by conv => lhs; cbv), ?_⟩
            | fail)
          first | (exfalso; omega) | (refine rPV_then (by conv => lhs; cbv) ?_; rfl) | (refine rPV_then (by conv => lhs; cbv) ?_; refine congrArg (fun b => PV.c (IC.lit (Value.bool b))) ?_; ((try simp only [zn]) <;> (try simp (disch := omega) only [zz hA, zb, zy, reduceCtorEq, Bool.false_eq_true, Int.reduceLT, Int.reduceLE, Int.reduceNeg]) <;> (try simp only [zw])); done) | (refine rPV_then (by conv => lhs; cbv) ?_; refine congrArg (fun b => PV.c (IC.lit (Value.bool b))) ?_; ((try simp only [zn]) <;> (try simp (disch := omega) only [zz hA, zb, zy, reduceCtorEq, Bool.false_eq_true, Int.reduceLT, Int.reduceLE, Int.reduceNeg]) <;> (try simp only [zw])); omega) | fail
    · refine PureCalls.of Try.func10 rfl (by kernel_rfl) rfl ?_
      try first | refine AOLg.of [] ?_ | refine QSg.of [] ?_
      repeat' (first
        | (refine AWp.pass ?_; first
            | refine AWp.seq ?_
            | refine AWp.block ?_
            | refine AWp.skip ?_
            | refine AWp.regG [] (by conv => lhs; cbv) ?_
            | refine AWp.cond_t rfl ?_
            | refine AWp.cond_f rfl ?_
            | (refine AWp.cond rfl ?_ ?_ <;> intro hc <;> (try rw [hc]) <;> ((try simp only [zn] at hc) <;> (try simp (disch := omega) only [zz hA, zb, zy, reduceCtorEq, Bool.false_eq_true, Int.reduceLT, Int.reduceLE, Int.reduceNeg] at hc) <;> (try simp only [zw] at hc)) <;> (try (exfalso; omega)))
            | refine AWp.exit ?_
            | refine AWp.ret ⟨.inr rfl, _, RetOk.ev tabOk (by conv => lhs; cbv), ?_⟩
            | refine AWp.drawVG [] rfl (by decide +kernel) (by conv => lhs; cbv) ?_)
        | (refine AOLg.pass ?_; refine AOLg.nx hA tabOk (by conv => lhs; cbv) ?_; first
            | refine NX.done ?_
            | refine NX.gt ?_
            | refine NX.gf ?_
            | (refine NX.gs ?_ ?_ <;> intro hc <;> rw [hc] <;> ((try simp only [zn] at hc) <;> (try simp (disch := omega) only [zz hA, zb, zy, reduceCtorEq, Bool.false_eq_true, Int.reduceLT, Int.reduceLE, Int.reduceNeg] at hc) <;> (try simp only [zw] at hc)) <;> (try (exfalso; omega)))
            | (refine NX.kC ?_; first | (with_reducible refine NX.call (hsh) ?_) | (with_reducible refine NX.call (hof) ?_) | ((first | refine NX.call (hsh) ?_ | refine NX.call (hof) ?_)) | fail)
            | (refine NX.kO ?_; (first | refine NX.callO (hsh) (by simp [allEq]) rfl ?_ | refine NX.callO (hof) (by simp [allEq]) rfl ?_))
            | ((first | (refine NX.k 1 ?_; first | refine NX.one (One.elemM hA tabOk rfl rfl rfl rfl ?_ ?_) ?_ | refine NX.one (One.elemOwnM hA tabOk rfl rfl rfl rfl rfl ?_ ?_) ?_) | (refine NX.k 7 ?_; first | refine NX.one (One.concatM hA rfl rfl rfl ?_) ?_) | (refine NX.k 8 ?_; first | refine NX.one (One.eqBoolM hA tabOk rfl rfl rfl rfl rfl) ?_) | (refine NX.k 9 ?_; first | refine NX.one (One.neBoolM hA tabOk rfl rfl rfl rfl rfl) ?_) | (refine NX.k 10 ?_; first | refine NX.one (One.lenOwnM hA tabOk rfl rfl rfl rfl) ?_) | (refine NX.k 14 ?_; first | refine NX.one (One.loadRatM hA tabOk rfl rfl rfl rfl rfl rfl ?_) ?_) | (refine NX.k 15 ?_; first | refine NX.one (One.storeRatM hA tabOk _ rfl rfl rfl rfl rfl rfl rfl rfl (fun _ => rfl) ?_) ?_) | (refine NX.k 16 ?_; first | refine NX.one (One.makeM hA tabOk encI 0 rfl rfl rfl rfl rfl rfl rfl ?_ ?_ ?_) ?_) | (refine NX.k 18 ?_; first | refine NX.one (One.fieldRat tabOk rfl rfl rfl rfl (by decide) rfl rfl) ?_)) <;> (first | refine AOLg.pass ?_ | (((try simp only [zn]) <;> (try simp (disch := omega) only [zz hA, zb, zy, reduceCtorEq, Bool.false_eq_true, Int.reduceLT, Int.reduceLE, Int.reduceNeg]) <;> (try simp only [zw])) <;> omega)))
            | refine NX.raw ?_)
        | (refine TRg.pass ?_; refine TRg.nx hA tabOk (by conv => lhs; cbv) ?_; first
            | refine TX.done ?_
            | refine TX.gt ?_
            | refine TX.gf ?_
            | (refine TX.gs ?_ ?_ <;> intro hc <;> rw [hc] <;> ((try simp only [zn] at hc) <;> (try simp (disch := omega) only [zz hA, zb, zy, reduceCtorEq, Bool.false_eq_true, Int.reduceLT, Int.reduceLE, Int.reduceNeg] at hc) <;> (try simp only [zw] at hc)) <;> (try (exfalso; omega)))
            | (refine TX.kC ?_; first | (with_reducible refine TX.call (hsh) ?_) | (with_reducible refine TX.call (hof) ?_) | ((first | refine TX.call (hsh) ?_ | refine TX.call (hof) ?_)) | fail)
            | (refine TX.kO ?_; (first | refine TX.callO (hsh) (by simp [allEq]) rfl ?_ | refine TX.callO (hof) (by simp [allEq]) rfl ?_))
            | ((first | (refine TX.k 1 ?_; first | refine TX.one (One.elemM hA tabOk rfl rfl rfl rfl ?_ ?_) ?_ | refine TX.one (One.elemOwnM hA tabOk rfl rfl rfl rfl rfl ?_ ?_) ?_) | (refine TX.k 7 ?_; first | refine TX.one (One.concatM hA rfl rfl rfl ?_) ?_) | (refine TX.k 8 ?_; first | refine TX.one (One.eqBoolM hA tabOk rfl rfl rfl rfl rfl) ?_) | (refine TX.k 9 ?_; first | refine TX.one (One.neBoolM hA tabOk rfl rfl rfl rfl rfl) ?_) | (refine TX.k 10 ?_; first | refine TX.one (One.lenOwnM hA tabOk rfl rfl rfl rfl) ?_) | (refine TX.k 14 ?_; first | refine TX.one (One.loadRatM hA tabOk rfl rfl rfl rfl rfl rfl ?_) ?_) | (refine TX.k 15 ?_; first | refine TX.one (One.storeRatM hA tabOk _ rfl rfl rfl rfl rfl rfl rfl rfl (fun _ => rfl) ?_) ?_) | (refine TX.k 16 ?_; first | refine TX.one (One.makeM hA tabOk encI 0 rfl rfl rfl rfl rfl rfl rfl ?_ ?_ ?_) ?_) | (refine TX.k 18 ?_; first | refine TX.one (One.fieldRat tabOk rfl rfl rfl rfl (by decide) rfl rfl) ?_)) <;> (first | refine TRg.pass ?_ | (((try simp only [zn]) <;> (try simp (disch := omega) only [zz hA, zb, zy, reduceCtorEq, Bool.false_eq_true, Int.reduceLT, Int.reduceLE, Int.reduceNeg]) <;> (try simp only [zw])) <;> omega)))
            | refine TX.raw ?_)
        | refine Fin3.of (by conv => lhs; cbv) (by repeat' (first | exact True.intro | exact rfl | refine And.intro ?_ ?_)) ?_ ?_
        | (refine AllO.pass ?_; first
            | exact AllO.nil
            | (refine AllO.cons (One.ev hA tabOk ?_) ?_ <;> (first | refine AllO.pass ?_ | ((conv => lhs; cbv); done)))
            | (refine AllO.cons (One.skipB ?_) ?_ <;> (first | refine AllO.pass ?_ | ((conv => lhs; cbv); done)))
            | ((with_reducible refine AllO.call (by conv => lhs; cbv) (hsh) ?_ ?_) <;> (first | refine AllO.pass ?_ | exact rfl | (((try simp only [zn]) <;> (try simp (disch := omega) only [zz hA, zb, zy, reduceCtorEq, Bool.false_eq_true, Int.reduceLT, Int.reduceLE, Int.reduceNeg]) <;> (try simp only [zw])) <;> omega)))
            | ((with_reducible refine AllO.call (by conv => lhs; cbv) (hof) ?_ ?_) <;> (first | refine AllO.pass ?_ | exact rfl | (((try simp only [zn]) <;> (try simp (disch := omega) only [zz hA, zb, zy, reduceCtorEq, Bool.false_eq_true, Int.reduceLT, Int.reduceLE, Int.reduceNeg]) <;> (try simp only [zw])) <;> omega)))
            | ((first | refine AllO.consX (One.elemM hA tabOk rfl rfl rfl rfl ?_ ?_) rfl rfl ?_ | refine AllO.consX (One.concatM hA rfl rfl rfl ?_) rfl rfl ?_ | refine AllO.consX (One.lenOwnM hA tabOk rfl rfl rfl rfl) rfl rfl ?_ | refine AllO.consX (One.elemOwnM hA tabOk rfl rfl rfl rfl rfl ?_ ?_) rfl rfl ?_ | refine AllO.consX (One.loadRatM hA tabOk rfl rfl rfl rfl rfl rfl ?_) rfl rfl ?_) <;> (first | refine AllO.pass ?_ | (((try simp only [zn]) <;> (try simp (disch := omega) only [zz hA, zb, zy, reduceCtorEq, Bool.false_eq_true, Int.reduceLT, Int.reduceLE, Int.reduceNeg]) <;> (try simp only [zw])) <;> omega))))
        | refine Thn.exit ?_
        | refine Blk.here ?_
        | refine Blk.other (by decide) ?_
        | refine ⟨.inl rfl, _, RetOk.ev tabOk (by conv => lhs; cbv), ?_⟩
        | fail)
      iterate 2
        next => first | (exfalso; omega) | (refine rPV_then (by conv => lhs; cbv) ?_; rfl) | (refine rPV_then (by conv => lhs; cbv) ?_; refine congrArg (fun b => PV.c (IC.lit (Value.bool b))) ?_; ((try simp only [zn]) <;> (try simp (disch := omega) only [zz hA, zb, zy, reduceCtorEq, Bool.false_eq_true, Int.reduceLT, Int.reduceLE, Int.reduceNeg]) <;> (try simp only [zw])); done) | (refine rPV_then (by conv => lhs; cbv) ?_; refine congrArg (fun b => PV.c (IC.lit (Value.bool b))) ?_; ((try simp only [zn]) <;> (try simp (disch := omega) only [zz hA, zb, zy, reduceCtorEq, Bool.false_eq_true, Int.reduceLT, Int.reduceLE, Int.reduceNeg]) <;> (try simp only [zw])); omega) | fail
end Go.Proofs.Ytpphdaphbkepfaa.Aw

/- Law TermBelow over the row's data. -/
set_option linter.unusedVariables false
set_option linter.unusedSectionVars false
namespace Go.Proofs.Ytpphdaphbkepfaa.Aw
open Go Go.RowKit
variable {A : Ar} (hA : A = real)
include hA
theorem tbelowL (l : List Sg) (hl : FitG l) (K : List (List Int)) (S : List Int) (hf : FitsK K S) (id : Int) : PureCalls Try.prog 10 [slP A 2 (encG A) l, keyedPV A K S, IP id] (BP true) := tbelow_law hA l K S id hl hf
end Go.Proofs.Ytpphdaphbkepfaa.Aw
