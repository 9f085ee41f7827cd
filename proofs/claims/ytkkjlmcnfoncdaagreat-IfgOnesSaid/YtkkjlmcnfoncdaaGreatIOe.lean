/- Texts of the proof, put together: the abstract walk, contracts of the functions that the statement reaches, plain laws, part 5 of 6. -/
import Derived.Test.YtkkjlmcnfoncdaaGreatIOd
import Derived.Test.YtkkjlmcnfoncdaaGreatIOc
/- Contracts of the document's answer for package ifg, and of that package, part 3: the one for a term; which terms may stand where. -/
set_option linter.unusedVariables false
set_option linter.unusedSimpArgs false
set_option linter.unusedSectionVars false
namespace Go.Proofs.YtkkjlmcnfoncdaaGreat.Aw
open Go Go.RowKit
set_option maxRecDepth 10000
attribute [local irreducible] AWp AOL QS One AOLg QSg NX QX TRg TX AllO Fin3
/-- A right store of some size. -/
structure StK (K : List (List Int)) (S : List Int) : Prop where
  ok : OkK K
  lay : S = layM K
  len : K.length ≤ 900000
  keys : ∀ x ∈ K, x.length ≤ 1000000
variable {A : Ar} (hA : A = real)
include hA
theorem variable_c (K : List (List Int)) (S : List Int) (h : StK K S) (R V : List Int) (N : List (Int × Int)) (M : List Int) (P Q : List (List Int)) (id : Int) :
    PureCalls Tryz.prog 53 [keyedPV A K S, grP A R V N M P Q, IP id] (.tup [IP (hid A (symM K id)), BP (hid A (decide (0 ≤ numM K V.length id)))]) := by
  refine PureCalls.of Tryz.func53 rfl (by kernel_rfl) rfl ?_
  by_cases hi : id < 0 ∨ (K.length : Int) ≤ id
  · have hof := tOf_c0 hA K S id hi
    have hn := num_out (n := V.length) hi
    have hs := (sym_out hi).1
    have hd : decide (0 ≤ numM K V.length id) = false := by rw [decide_eq_false_iff_not]; omega
    rw [hd, hs]
    try first | refine AOLg.of [] ?_ | refine QSg.of [] ?_
    repeat' (first | (refine AWp.pass ?_; first | refine AWp.seq ?_ | refine AWp.block ?_ | refine AWp.skip ?_ | refine AWp.regG [] Zc ?_ | refine AWp.cond_t rfl ?_ | refine AWp.cond_f rfl ?_ | (refine AWp.cond rfl ?_ ?_ <;> intro hc <;> (try rw [hc]) <;> ((try simp only [zn] at hc) <;> (try simp (disch := omega) only [zz hA, zb, zy, reduceCtorEq, Bool.false_eq_true, Int.reduceLT, Int.reduceLE, Int.reduceNeg] at hc) <;> (try simp only [zw] at hc)) <;> (try (exfalso; omega))) | refine AWp.exit ?_ | refine AWp.ret ⟨.inr rfl, _, RetOk.ev tabOk Zc, ?_⟩ | refine AWp.drawVG [] rfl (by decide +kernel) Zc ?_) | (refine AOLg.pass ?_; refine AOLg.nx hA tabOk Zc ?_; first | refine NX.done ?_ | refine NX.gt ?_ | refine NX.gf ?_ | (refine NX.gs ?_ ?_ <;> intro hc <;> rw [hc] <;> ((try simp only [zn] at hc) <;> (try simp (disch := omega) only [zz hA, zb, zy, reduceCtorEq, Bool.false_eq_true, Int.reduceLT, Int.reduceLE, Int.reduceNeg] at hc) <;> (try simp only [zw] at hc)) <;> (try (exfalso; omega))) | (refine NX.kC ?_; first | (with_reducible refine NX.call (hof) ?_) | ((first | refine NX.call (hof) ?_)) | fail) | (refine NX.kO ?_; (first | refine NX.callO (hof) (by simp [allEq]) rfl ?_)) | refine NX.k 8 (NX.one Z8 ?_) | refine NX.k 10 (NX.one Z10 ?_) | refine NX.k 14 (NX.one Z14 ?_) | refine NX.k 15 (NX.one Z15 ?_) | refine NX.k 18 (NX.one Z18 ?_) | refine NX.raw ?_) | (refine TRg.pass ?_; refine TRg.nx hA tabOk Zc ?_; first | refine TX.done ?_ | refine TX.gt ?_ | refine TX.gf ?_ | (refine TX.gs ?_ ?_ <;> intro hc <;> rw [hc] <;> ((try simp only [zn] at hc) <;> (try simp (disch := omega) only [zz hA, zb, zy, reduceCtorEq, Bool.false_eq_true, Int.reduceLT, Int.reduceLE, Int.reduceNeg] at hc) <;> (try simp only [zw] at hc)) <;> (try (exfalso; omega))) | (refine TX.kC ?_; first | (with_reducible refine TX.call (hof) ?_) | ((first | refine TX.call (hof) ?_)) | fail) | (refine TX.kO ?_; (first | refine TX.callO (hof) (by simp [allEq]) rfl ?_)) | refine TX.k 8 (TX.one Z8 ?_) | refine TX.k 10 (TX.one Z10 ?_) | refine TX.k 14 (TX.one Z14 ?_) | refine TX.k 15 (TX.one Z15 ?_) | refine TX.k 18 (TX.one Z18 ?_) | refine TX.raw ?_) | refine Fin3.of Zc (by repeat' (first | exact True.intro | exact rfl | refine And.intro ?_ ?_)) ?_ ?_ | (refine AllO.pass ?_; first | exact AllO.nil | (refine AllO.cons (One.ev hA tabOk ?_) ?_ <;> (first | refine AllO.pass ?_ | ((conv => lhs; cbv); done))) | (refine AllO.cons (One.skipB ?_) ?_ <;> (first | refine AllO.pass ?_ | ((conv => lhs; cbv); done))) | ((with_reducible refine AllO.call Zc (hof) ?_ ?_) <;> (first | refine AllO.pass ?_ | exact rfl | exact Zd)) | refine AllO.consX ZX rfl rfl ?_) | refine Thn.exit ?_ | refine Blk.here ?_ | refine Blk.other (by decide) ?_ | refine ⟨.inl rfl, _, RetOk.ev tabOk Zc, ?_⟩ | fail)
    all_goals first | (exfalso; omega) | (refine rPV_then (by conv => lhs; cbv) ?_; simp only [hid_eq hA]; done) | (refine rPV_then (by conv => lhs; cbv) ?_; simp only [hid_eq hA]; rfl) | (refine rPV_then (by conv => lhs; cbv) ?_; simp only [hid_eq hA]; simp [hA, real]; omega)
  · obtain ⟨i, rfl⟩ : ∃ i : Nat, id = i := ⟨id.toNat, by omega⟩
    have hil : i < K.length := by omega
    obtain ⟨k, s, p, l, hk, hll⟩ := key_at h.ok h.keys hil
    have hof := tOf_c1 hA K S i k s p l hil hk hll
    have hn := num_key (n := V.length) hil hk
    have hs := (sym_key hil hk).1
    have hs0 : k = 2 → 0 ≤ s := fun hk2 => by
      have := h.ok.sym i hil (by rw [hk, hk2]; rfl)
      rw [hk] at this; exact this
    have hd : decide (0 ≤ numM K V.length (i : Int)) = decide (k = 2 ∧ s < V.length) := by
      rw [hn]
      by_cases hc : k = 2 ∧ s < V.length
      · rw [if_pos hc, decide_eq_true hc, decide_eq_true (hs0 hc.1)]
      · rw [if_neg hc, decide_eq_false hc]; rfl
    rw [hd, hs]
    obtain ⟨z, hz⟩ : ∃ z : Int, z = (i : Int) := ⟨_, rfl⟩
    rw [← hz]
    have hof := hof z hz
    clear hk hn hs hd hs0
    by_cases hc2 : k = 2 ∧ s < V.length
    · rw [decide_eq_true hc2]
      try first | refine AOLg.of [] ?_ | refine QSg.of [] ?_
      repeat' (first | (refine AWp.pass ?_; first | refine AWp.seq ?_ | refine AWp.block ?_ | refine AWp.skip ?_ | refine AWp.regG [] Zc ?_ | refine AWp.cond_t rfl ?_ | refine AWp.cond_f rfl ?_ | (refine AWp.cond rfl ?_ ?_ <;> intro hc <;> (try rw [hc]) <;> ((try simp only [zn] at hc) <;> (try simp (disch := omega) only [zz hA, zb, zy, reduceCtorEq, Bool.false_eq_true, Int.reduceLT, Int.reduceLE, Int.reduceNeg] at hc) <;> (try simp only [zw] at hc)) <;> (try (exfalso; omega))) | refine AWp.exit ?_ | refine AWp.ret ⟨.inr rfl, _, RetOk.ev tabOk Zc, ?_⟩ | refine AWp.drawVG [] rfl (by decide +kernel) Zc ?_) | (refine AOLg.pass ?_; refine AOLg.nx hA tabOk Zc ?_; first | refine NX.done ?_ | refine NX.gt ?_ | refine NX.gf ?_ | (refine NX.gs ?_ ?_ <;> intro hc <;> rw [hc] <;> ((try simp only [zn] at hc) <;> (try simp (disch := omega) only [zz hA, zb, zy, reduceCtorEq, Bool.false_eq_true, Int.reduceLT, Int.reduceLE, Int.reduceNeg] at hc) <;> (try simp only [zw] at hc)) <;> (try (exfalso; omega))) | (refine NX.kC ?_; first | (with_reducible refine NX.call (hof) ?_) | ((first | refine NX.call (hof) ?_)) | fail) | (refine NX.kO ?_; (first | refine NX.callO (hof) (by simp [allEq]) rfl ?_)) | refine NX.k 8 (NX.one Z8 ?_) | refine NX.k 10 (NX.one Z10 ?_) | refine NX.k 14 (NX.one Z14 ?_) | refine NX.k 15 (NX.one Z15 ?_) | refine NX.k 18 (NX.one Z18 ?_) | refine NX.raw ?_) | (refine TRg.pass ?_; refine TRg.nx hA tabOk Zc ?_; first | refine TX.done ?_ | refine TX.gt ?_ | refine TX.gf ?_ | (refine TX.gs ?_ ?_ <;> intro hc <;> rw [hc] <;> ((try simp only [zn] at hc) <;> (try simp (disch := omega) only [zz hA, zb, zy, reduceCtorEq, Bool.false_eq_true, Int.reduceLT, Int.reduceLE, Int.reduceNeg] at hc) <;> (try simp only [zw] at hc)) <;> (try (exfalso; omega))) | (refine TX.kC ?_; first | (with_reducible refine TX.call (hof) ?_) | ((first | refine TX.call (hof) ?_)) | fail) | (refine TX.kO ?_; (first | refine TX.callO (hof) (by simp [allEq]) rfl ?_)) | refine TX.k 8 (TX.one Z8 ?_) | refine TX.k 10 (TX.one Z10 ?_) | refine TX.k 14 (TX.one Z14 ?_) | refine TX.k 15 (TX.one Z15 ?_) | refine TX.k 18 (TX.one Z18 ?_) | refine TX.raw ?_) | refine Fin3.of Zc (by repeat' (first | exact True.intro | exact rfl | refine And.intro ?_ ?_)) ?_ ?_ | (refine AllO.pass ?_; first | exact AllO.nil | (refine AllO.cons (One.ev hA tabOk ?_) ?_ <;> (first | refine AllO.pass ?_ | ((conv => lhs; cbv); done))) | (refine AllO.cons (One.skipB ?_) ?_ <;> (first | refine AllO.pass ?_ | ((conv => lhs; cbv); done))) | ((with_reducible refine AllO.call Zc (hof) ?_ ?_) <;> (first | refine AllO.pass ?_ | exact rfl | exact Zd)) | refine AllO.consX ZX rfl rfl ?_) | refine Thn.exit ?_ | refine Blk.here ?_ | refine Blk.other (by decide) ?_ | refine ⟨.inl rfl, _, RetOk.ev tabOk Zc, ?_⟩ | fail)
      all_goals first | (exfalso; omega) | (refine rPV_then (by conv => lhs; cbv) ?_; simp only [hid_eq hA]; done) | (refine rPV_then (by conv => lhs; cbv) ?_; simp only [hid_eq hA]; rfl) | (refine rPV_then (by conv => lhs; cbv) ?_; simp only [hid_eq hA]; simp [hA, real]; omega)
    · rw [decide_eq_false hc2]
      try first | refine AOLg.of [] ?_ | refine QSg.of [] ?_
      repeat' (first | (refine AWp.pass ?_; first | refine AWp.seq ?_ | refine AWp.block ?_ | refine AWp.skip ?_ | refine AWp.regG [] Zc ?_ | refine AWp.cond_t rfl ?_ | refine AWp.cond_f rfl ?_ | (refine AWp.cond rfl ?_ ?_ <;> intro hc <;> (try rw [hc]) <;> ((try simp only [zn] at hc) <;> (try simp (disch := omega) only [zz hA, zb, zy, reduceCtorEq, Bool.false_eq_true, Int.reduceLT, Int.reduceLE, Int.reduceNeg] at hc) <;> (try simp only [zw] at hc)) <;> (try (exfalso; omega))) | refine AWp.exit ?_ | refine AWp.ret ⟨.inr rfl, _, RetOk.ev tabOk Zc, ?_⟩ | refine AWp.drawVG [] rfl (by decide +kernel) Zc ?_) | (refine AOLg.pass ?_; refine AOLg.nx hA tabOk Zc ?_; first | refine NX.done ?_ | refine NX.gt ?_ | refine NX.gf ?_ | (refine NX.gs ?_ ?_ <;> intro hc <;> rw [hc] <;> ((try simp only [zn] at hc) <;> (try simp (disch := omega) only [zz hA, zb, zy, reduceCtorEq, Bool.false_eq_true, Int.reduceLT, Int.reduceLE, Int.reduceNeg] at hc) <;> (try simp only [zw] at hc)) <;> (try (exfalso; omega))) | (refine NX.kC ?_; first | (with_reducible refine NX.call (hof) ?_) | ((first | refine NX.call (hof) ?_)) | fail) | (refine NX.kO ?_; (first | refine NX.callO (hof) (by simp [allEq]) rfl ?_)) | refine NX.k 8 (NX.one Z8 ?_) | refine NX.k 10 (NX.one Z10 ?_) | refine NX.k 14 (NX.one Z14 ?_) | refine NX.k 15 (NX.one Z15 ?_) | refine NX.k 18 (NX.one Z18 ?_) | refine NX.raw ?_) | (refine TRg.pass ?_; refine TRg.nx hA tabOk Zc ?_; first | refine TX.done ?_ | refine TX.gt ?_ | refine TX.gf ?_ | (refine TX.gs ?_ ?_ <;> intro hc <;> rw [hc] <;> ((try simp only [zn] at hc) <;> (try simp (disch := omega) only [zz hA, zb, zy, reduceCtorEq, Bool.false_eq_true, Int.reduceLT, Int.reduceLE, Int.reduceNeg] at hc) <;> (try simp only [zw] at hc)) <;> (try (exfalso; omega))) | (refine TX.kC ?_; first | (with_reducible refine TX.call (hof) ?_) | ((first | refine TX.call (hof) ?_)) | fail) | (refine TX.kO ?_; (first | refine TX.callO (hof) (by simp [allEq]) rfl ?_)) | refine TX.k 8 (TX.one Z8 ?_) | refine TX.k 10 (TX.one Z10 ?_) | refine TX.k 14 (TX.one Z14 ?_) | refine TX.k 15 (TX.one Z15 ?_) | refine TX.k 18 (TX.one Z18 ?_) | refine TX.raw ?_) | refine Fin3.of Zc (by repeat' (first | exact True.intro | exact rfl | refine And.intro ?_ ?_)) ?_ ?_ | (refine AllO.pass ?_; first | exact AllO.nil | (refine AllO.cons (One.ev hA tabOk ?_) ?_ <;> (first | refine AllO.pass ?_ | ((conv => lhs; cbv); done))) | (refine AllO.cons (One.skipB ?_) ?_ <;> (first | refine AllO.pass ?_ | ((conv => lhs; cbv); done))) | ((with_reducible refine AllO.call Zc (hof) ?_ ?_) <;> (first | refine AllO.pass ?_ | exact rfl | exact Zd)) | refine AllO.consX ZX rfl rfl ?_) | refine Thn.exit ?_ | refine Blk.here ?_ | refine Blk.other (by decide) ?_ | refine ⟨.inl rfl, _, RetOk.ev tabOk Zc, ?_⟩ | fail)
      all_goals first | (exfalso; omega) | (refine rPV_then (by conv => lhs; cbv) ?_; simp only [hid_eq hA]; done) | (refine rPV_then (by conv => lhs; cbv) ?_; simp only [hid_eq hA]; rfl) | (refine rPV_then (by conv => lhs; cbv) ?_; simp only [hid_eq hA]; simp [hA, real]; omega)
theorem at_c (K : List (List Int)) (S : List Int) (h : StK K S) (v : Int) : PureCalls Tryz.prog 35 [keyedPV A K S, IP v] (IP (hid A (atV K v))) := by
  have hb := sizeM_bound K.length
  have hl := layM_len K
  have hlen := h.len
  have hf := find_c hA K S (keyV v) (by omega) (by rw [h.lay]; exact layM_vals K) (by rw [h.lay]; omega) (by simp [keyV])
  rw [h.lay, find_at K h.ok.nodup, ← h.lay] at hf
  have hk : ∀ q : List (List IC), q = hid A (List.map encI []) → PureCalls Tryz.prog 77 [.agg [.lit (.int .i64 2), .lit (.int .i64 v), .lit (.int .i64 0), .sl 1 false q]] (intsP A (keyV v)) := by rintro q rfl; exact key_c hA 2 v 0 [] (by simp)
  refine PureCalls.of Tryz.func35 rfl (by kernel_rfl) rfl ?_
  try first | refine AOLg.of [] ?_ | refine QSg.of [] ?_
  repeat' (first | (refine AWp.pass ?_; first | refine AWp.seq ?_ | refine AWp.block ?_ | refine AWp.skip ?_ | refine AWp.regG [] Zc ?_ | refine AWp.cond_t rfl ?_ | refine AWp.cond_f rfl ?_ | (refine AWp.cond rfl ?_ ?_ <;> intro hc <;> (try rw [hc]) <;> ((try simp only [zn] at hc) <;> (try simp (disch := omega) only [zz hA, zb, zy, reduceCtorEq, Bool.false_eq_true, Int.reduceLT, Int.reduceLE, Int.reduceNeg] at hc) <;> (try simp only [zw] at hc)) <;> (try (exfalso; omega))) | refine AWp.exit ?_ | refine AWp.ret ⟨.inr rfl, _, RetOk.ev tabOk Zc, ?_⟩ | refine AWp.drawVG [] rfl (by decide +kernel) Zc ?_) | (refine AOLg.pass ?_; refine AOLg.nx hA tabOk Zc ?_; first | refine NX.done ?_ | refine NX.gt ?_ | refine NX.gf ?_ | (refine NX.gs ?_ ?_ <;> intro hc <;> rw [hc] <;> ((try simp only [zn] at hc) <;> (try simp (disch := omega) only [zz hA, zb, zy, reduceCtorEq, Bool.false_eq_true, Int.reduceLT, Int.reduceLE, Int.reduceNeg] at hc) <;> (try simp only [zw] at hc)) <;> (try (exfalso; omega))) | (refine NX.kC ?_; first | (with_reducible refine NX.call (key_c hA 2 v 0 [] (by simp)) ?_) | (with_reducible refine NX.call (hf) ?_) | (refine NX.call (PureCalls.weaken (key_c hA 2 v 0 [] (by simp)) ?_) ?_ <;> (first | refine AOLg.pass ?_ | ((with_reducible repeat' (first | exact PLes.nil | exact ILes.nil | refine PLes.cons (PLe.refl _) ?_ | refine PLes.cons (PLe.c (ILe.nilM hA _ _ _ _)) ?_ | refine PLes.cons (PLe.agg ?_) ?_ | refine ILes.cons (ILe.refl _) ?_ | refine ILes.cons (ILe.nilM hA _ _ _ _) ?_)); done) | exact Zd)) | ((first | refine NX.call (key_c hA 2 v 0 [] (by simp)) ?_ | refine NX.call (hf) ?_)) | fail) | (refine NX.kO ?_; (first | refine NX.callO (key_c hA 2 v 0 [] (by simp)) (by simp [allEq]) rfl ?_ | refine NX.callO (hf) (by simp [allEq]) rfl ?_)) | refine NX.k 14 (NX.one Z14 ?_) | refine NX.raw ?_) | (refine TRg.pass ?_; refine TRg.nx hA tabOk Zc ?_; first | refine TX.done ?_ | refine TX.gt ?_ | refine TX.gf ?_ | (refine TX.gs ?_ ?_ <;> intro hc <;> rw [hc] <;> ((try simp only [zn] at hc) <;> (try simp (disch := omega) only [zz hA, zb, zy, reduceCtorEq, Bool.false_eq_true, Int.reduceLT, Int.reduceLE, Int.reduceNeg] at hc) <;> (try simp only [zw] at hc)) <;> (try (exfalso; omega))) | (refine TX.kC ?_; first | (with_reducible refine TX.call (key_c hA 2 v 0 [] (by simp)) ?_) | (with_reducible refine TX.call (hf) ?_) | (refine TX.call (PureCalls.weaken (key_c hA 2 v 0 [] (by simp)) ?_) ?_ <;> (first | refine TRg.pass ?_ | ((with_reducible repeat' (first | exact PLes.nil | exact ILes.nil | refine PLes.cons (PLe.refl _) ?_ | refine PLes.cons (PLe.c (ILe.nilM hA _ _ _ _)) ?_ | refine PLes.cons (PLe.agg ?_) ?_ | refine ILes.cons (ILe.refl _) ?_ | refine ILes.cons (ILe.nilM hA _ _ _ _) ?_)); done) | exact Zd)) | ((first | refine TX.call (key_c hA 2 v 0 [] (by simp)) ?_ | refine TX.call (hf) ?_)) | fail) | (refine TX.kO ?_; (first | refine TX.callO (key_c hA 2 v 0 [] (by simp)) (by simp [allEq]) rfl ?_ | refine TX.callO (hf) (by simp [allEq]) rfl ?_)) | refine TX.k 14 (TX.one Z14 ?_) | refine TX.raw ?_) | refine Fin3.of Zc (by repeat' (first | exact True.intro | exact rfl | refine And.intro ?_ ?_)) ?_ ?_ | (refine AllO.pass ?_; first | exact AllO.nil | (refine AllO.cons (One.ev hA tabOk ?_) ?_ <;> (first | refine AllO.pass ?_ | ((conv => lhs; cbv); done))) | (refine AllO.cons (One.skipB ?_) ?_ <;> (first | refine AllO.pass ?_ | ((conv => lhs; cbv); done))) | ((with_reducible refine AllO.call Zc (key_c hA 2 v 0 [] (by simp)) ?_ ?_) <;> (first | refine AllO.pass ?_ | exact rfl | exact Zd)) | ((with_reducible refine AllO.call Zc (hf) ?_ ?_) <;> (first | refine AllO.pass ?_ | exact rfl | exact Zd)) | refine AllO.consX ZX rfl rfl ?_) | refine Thn.exit ?_ | refine Blk.here ?_ | refine Blk.other (by decide) ?_ | refine ⟨.inl rfl, _, RetOk.ev tabOk Zc, ?_⟩ | fail)
  all_goals (refine rPV_then (by conv => lhs; cbv) ?_; rfl)
theorem rep_c (K : List (List Int)) (S : List Int) (h : StK K S) (R V : List Int) (N : List (Int × Int)) (M : List Int) (P Q : List (List Int)) (hR : RightU V R) (id : Int) :
    PureCalls Tryz.prog 24 [keyedPV A K S, grP A R V N M P Q, IP id] (IP (hid A (repM K V id))) := by
  have hv := variable_c hA K S h R V N M P Q id
  have hcs := num_cases K V.length id h.ok
  refine PureCalls.of Tryz.func24 rfl (by kernel_rfl) rfl ?_
  by_cases hn : 0 ≤ numM K V.length id
  · rw [decide_eq_true hn, hid_eq hA (α := Bool), num_sym hn] at hv
    have hf := ufind_c hA V N M R hR (numM K V.length id) hn (by omega)
    have ha := at_c hA K S h (findU V (numM K V.length id))
    have hr : repM K V id = atV K (findU V (numM K V.length id)) := by unfold repM; rw [if_neg (by omega)]
    rw [hr]
    generalize findU V (numM K V.length id) = y at *
    generalize numM K V.length id = x at *
    rw [← hid_eq hA x] at hf
    rw [← hid_eq hA y] at ha
    try first | refine AOLg.of [] ?_ | refine QSg.of [] ?_
    repeat' (first | (refine AWp.pass ?_; first | refine AWp.seq ?_ | refine AWp.block ?_ | refine AWp.skip ?_ | refine AWp.regG [] Zc ?_ | refine AWp.cond_t rfl ?_ | refine AWp.cond_f rfl ?_ | (refine AWp.cond rfl ?_ ?_ <;> intro hc <;> (try rw [hc]) <;> ((try simp only [zn] at hc) <;> (try simp (disch := omega) only [zz hA, zb, zy, reduceCtorEq, Bool.false_eq_true, Int.reduceLT, Int.reduceLE, Int.reduceNeg] at hc) <;> (try simp only [zw] at hc)) <;> (try (exfalso; omega))) | refine AWp.exit ?_ | refine AWp.ret ⟨.inr rfl, _, RetOk.ev tabOk Zc, ?_⟩ | refine AWp.drawVG [] rfl (by decide +kernel) Zc ?_) | (refine AOLg.pass ?_; refine AOLg.nx hA tabOk Zc ?_; first | refine NX.done ?_ | refine NX.gt ?_ | refine NX.gf ?_ | (refine NX.gs ?_ ?_ <;> intro hc <;> rw [hc] <;> ((try simp only [zn] at hc) <;> (try simp (disch := omega) only [zz hA, zb, zy, reduceCtorEq, Bool.false_eq_true, Int.reduceLT, Int.reduceLE, Int.reduceNeg] at hc) <;> (try simp only [zw] at hc)) <;> (try (exfalso; omega))) | (refine NX.kC ?_; first | (with_reducible refine NX.call (hv) ?_) | (with_reducible refine NX.call (hf) ?_) | (with_reducible refine NX.call (ha) ?_) | ((first | refine NX.call (hv) ?_ | refine NX.call (hf) ?_ | refine NX.call (ha) ?_)) | fail) | (refine NX.kO ?_; (first | refine NX.callO (hv) (by simp [allEq]) rfl ?_ | refine NX.callO (hf) (by simp [allEq]) rfl ?_ | refine NX.callO (ha) (by simp [allEq]) rfl ?_)) | refine NX.k 14 (NX.one Z14 ?_) | refine NX.k 18 (NX.one Z18 ?_) | refine NX.raw ?_) | (refine TRg.pass ?_; refine TRg.nx hA tabOk Zc ?_; first | refine TX.done ?_ | refine TX.gt ?_ | refine TX.gf ?_ | (refine TX.gs ?_ ?_ <;> intro hc <;> rw [hc] <;> ((try simp only [zn] at hc) <;> (try simp (disch := omega) only [zz hA, zb, zy, reduceCtorEq, Bool.false_eq_true, Int.reduceLT, Int.reduceLE, Int.reduceNeg] at hc) <;> (try simp only [zw] at hc)) <;> (try (exfalso; omega))) | (refine TX.kC ?_; first | (with_reducible refine TX.call (hv) ?_) | (with_reducible refine TX.call (hf) ?_) | (with_reducible refine TX.call (ha) ?_) | ((first | refine TX.call (hv) ?_ | refine TX.call (hf) ?_ | refine TX.call (ha) ?_)) | fail) | (refine TX.kO ?_; (first | refine TX.callO (hv) (by simp [allEq]) rfl ?_ | refine TX.callO (hf) (by simp [allEq]) rfl ?_ | refine TX.callO (ha) (by simp [allEq]) rfl ?_)) | refine TX.k 14 (TX.one Z14 ?_) | refine TX.k 18 (TX.one Z18 ?_) | refine TX.raw ?_) | refine Fin3.of Zc (by repeat' (first | exact True.intro | exact rfl | refine And.intro ?_ ?_)) ?_ ?_ | (refine AllO.pass ?_; first | exact AllO.nil | (refine AllO.cons (One.ev hA tabOk ?_) ?_ <;> (first | refine AllO.pass ?_ | ((conv => lhs; cbv); done))) | (refine AllO.cons (One.skipB ?_) ?_ <;> (first | refine AllO.pass ?_ | ((conv => lhs; cbv); done))) | ((with_reducible refine AllO.call Zc (hv) ?_ ?_) <;> (first | refine AllO.pass ?_ | exact rfl | exact Zd)) | ((with_reducible refine AllO.call Zc (hf) ?_ ?_) <;> (first | refine AllO.pass ?_ | exact rfl | exact Zd)) | ((with_reducible refine AllO.call Zc (ha) ?_ ?_) <;> (first | refine AllO.pass ?_ | exact rfl | exact Zd)) | refine AllO.consX ZX rfl rfl ?_) | refine Thn.exit ?_ | refine Blk.here ?_ | refine Blk.other (by decide) ?_ | refine ⟨.inl rfl, _, RetOk.ev tabOk Zc, ?_⟩ | fail)
    all_goals (refine rPV_then (by conv => lhs; cbv) ?_; simp only [hid_eq hA])
  · rw [decide_eq_false hn, hid_eq hA (α := Bool)] at hv
    have hr : repM K V id = id := by unfold repM; rw [if_pos (by omega)]
    rw [hr, hid_eq hA]
    try first | refine AOLg.of [] ?_ | refine QSg.of [] ?_
    repeat' (first | (refine AWp.pass ?_; first | refine AWp.seq ?_ | refine AWp.block ?_ | refine AWp.skip ?_ | refine AWp.regG [] Zc ?_ | refine AWp.cond_t rfl ?_ | refine AWp.cond_f rfl ?_ | (refine AWp.cond rfl ?_ ?_ <;> intro hc <;> (try rw [hc]) <;> ((try simp only [zn] at hc) <;> (try simp (disch := omega) only [zz hA, zb, zy, reduceCtorEq, Bool.false_eq_true, Int.reduceLT, Int.reduceLE, Int.reduceNeg] at hc) <;> (try simp only [zw] at hc)) <;> (try (exfalso; omega))) | refine AWp.exit ?_ | refine AWp.ret ⟨.inr rfl, _, RetOk.ev tabOk Zc, ?_⟩ | refine AWp.drawVG [] rfl (by decide +kernel) Zc ?_) | (refine AOLg.pass ?_; refine AOLg.nx hA tabOk Zc ?_; first | refine NX.done ?_ | refine NX.gt ?_ | refine NX.gf ?_ | (refine NX.gs ?_ ?_ <;> intro hc <;> rw [hc] <;> ((try simp only [zn] at hc) <;> (try simp (disch := omega) only [zz hA, zb, zy, reduceCtorEq, Bool.false_eq_true, Int.reduceLT, Int.reduceLE, Int.reduceNeg] at hc) <;> (try simp only [zw] at hc)) <;> (try (exfalso; omega))) | (refine NX.kC ?_; first | (with_reducible refine NX.call (hv) ?_) | ((first | refine NX.call (hv) ?_)) | fail) | (refine NX.kO ?_; (first | refine NX.callO (hv) (by simp [allEq]) rfl ?_)) | refine NX.k 14 (NX.one Z14 ?_) | refine NX.k 18 (NX.one Z18 ?_) | refine NX.raw ?_) | (refine TRg.pass ?_; refine TRg.nx hA tabOk Zc ?_; first | refine TX.done ?_ | refine TX.gt ?_ | refine TX.gf ?_ | (refine TX.gs ?_ ?_ <;> intro hc <;> rw [hc] <;> ((try simp only [zn] at hc) <;> (try simp (disch := omega) only [zz hA, zb, zy, reduceCtorEq, Bool.false_eq_true, Int.reduceLT, Int.reduceLE, Int.reduceNeg] at hc) <;> (try simp only [zw] at hc)) <;> (try (exfalso; omega))) | (refine TX.kC ?_; first | (with_reducible refine TX.call (hv) ?_) | ((first | refine TX.call (hv) ?_)) | fail) | (refine TX.kO ?_; (first | refine TX.callO (hv) (by simp [allEq]) rfl ?_)) | refine TX.k 14 (TX.one Z14 ?_) | refine TX.k 18 (TX.one Z18 ?_) | refine TX.raw ?_) | refine Fin3.of Zc (by repeat' (first | exact True.intro | exact rfl | refine And.intro ?_ ?_)) ?_ ?_ | (refine AllO.pass ?_; first | exact AllO.nil | (refine AllO.cons (One.ev hA tabOk ?_) ?_ <;> (first | refine AllO.pass ?_ | ((conv => lhs; cbv); done))) | (refine AllO.cons (One.skipB ?_) ?_ <;> (first | refine AllO.pass ?_ | ((conv => lhs; cbv); done))) | ((with_reducible refine AllO.call Zc (hv) ?_ ?_) <;> (first | refine AllO.pass ?_ | exact rfl | exact Zd)) | refine AllO.consX ZX rfl rfl ?_) | refine Thn.exit ?_ | refine Blk.here ?_ | refine Blk.other (by decide) ?_ | refine ⟨.inl rfl, _, RetOk.ev tabOk Zc, ?_⟩ | fail)
    all_goals (refine rPV_then (by conv => lhs; cbv) ?_; rfl)
theorem refAll_c (K : List (List Int)) (S : List Int) (R V : List Int) (N : List (Int × Int)) (M : List Int) (P Q : List (List Int)) (hV : V.length ≤ 1000000) :
    PureCalls Tryz.prog 31 [keyedPV A K S, grP A R V N M P Q] (BP (hid A (allV K V.length))) := by
  refine PureCalls.of Tryz.func31 rfl (by kernel_rfl) rfl ?_
  try first | refine AOLg.of [] ?_ | refine QSg.of [] ?_
  repeat' (first | (refine AWp.pass ?_; first | refine AWp.seq ?_ | refine AWp.block ?_ | refine AWp.skip ?_ | refine AWp.regG [] Zc ?_ | refine AWp.cond_t rfl ?_ | refine AWp.cond_f rfl ?_ | (refine AWp.cond rfl ?_ ?_ <;> intro hc <;> (try rw [hc]) <;> ((try simp only [zn] at hc) <;> (try simp (disch := omega) only [zz hA, zb, zy, reduceCtorEq, Bool.false_eq_true, Int.reduceLT, Int.reduceLE, Int.reduceNeg] at hc) <;> (try simp only [zw] at hc)) <;> (try (exfalso; omega))) | refine AWp.exit ?_ | refine AWp.ret ⟨.inr rfl, _, RetOk.ev tabOk Zc, ?_⟩) | (refine AOLg.pass ?_; refine AOLg.nx hA tabOk Zc ?_; first | refine NX.done ?_ | refine NX.gt ?_ | refine NX.gf ?_ | (refine NX.gs ?_ ?_ <;> intro hc <;> rw [hc] <;> ((try simp only [zn] at hc) <;> (try simp (disch := omega) only [zz hA, zb, zy, reduceCtorEq, Bool.false_eq_true, Int.reduceLT, Int.reduceLE, Int.reduceNeg] at hc) <;> (try simp only [zw] at hc)) <;> (try (exfalso; omega))) | refine NX.k 7 (NX.one Z7 ?_) | refine NX.k 10 (NX.one Z10 ?_) | refine NX.k 14 (NX.one Z14 ?_) | refine NX.k 18 (NX.one Z18 ?_) | refine NX.raw ?_) | refine Thn.exit ?_ | refine Blk.here ?_ | refine Blk.other (by decide) ?_ | refine ⟨.inl rfl, _, RetOk.ev tabOk Zc, ?_⟩ | fail)
  refine AWp.loopU (fun k : Nat => [(5, .ic (.lit (.int .i64 (hid A (cN k)))))]) (fun _ => _) (fun k => V.length - k) (fun k => k ≤ V.length ∧ ∀ i, i < k → decide (0 ≤ atV K (i : Int)) = true) 0 (by conv => lhs; cbv) ⟨Nat.zero_le _, by simp⟩ (by ((repeat' (first | exact subE.nil | refine subE.cons rfl ?_ | refine subE.int rfl ?_ ?_ | refine subE.bool rfl ?_ ?_ | refine subE.str rfl ?_ ?_ | refine subE.sl rfl ?_ ?_))) <;> simp [hA, real, hid, cN]) rfl ?_
  rintro k ⟨hk, hok⟩
  by_cases hlt : k < V.length
  · have ha := refAtV_c hA K S (hid A (cN k))
    rw [show atV K (hid A (cN k)) = atV K k by simp [hid_eq hA, cN]] at ha
    have hno : atV K k < 0 → allV K V.length = false := fun h => allB_f hlt (by rw [decide_eq_false_iff_not]; omega)
    have hyes : 0 ≤ atV K k → ∀ i, i < k + 1 → decide (0 ≤ atV K (i : Int)) = true := fun h i hi => by
      rcases Nat.lt_or_ge i k with h1 | h1
      · exact hok i h1
      · obtain rfl : i = k := by omega
        exact decide_eq_true h
    generalize atV K k = x at *
    try first | refine AOLg.of [] ?_ | refine QSg.of [] ?_
    repeat' (first | (refine AWp.pass ?_; first | refine AWp.seq ?_ | refine AWp.block ?_ | refine AWp.skip ?_ | refine AWp.regG [] Zc ?_ | refine AWp.cond_t rfl ?_ | refine AWp.cond_f rfl ?_ | (refine AWp.cond rfl ?_ ?_ <;> intro hc <;> (try rw [hc]) <;> ((try simp only [zn] at hc) <;> (try simp (disch := omega) only [zz hA, zb, zy, reduceCtorEq, Bool.false_eq_true, Int.reduceLT, Int.reduceLE, Int.reduceNeg] at hc) <;> (try simp only [zw] at hc)) <;> (try (exfalso; omega))) | refine AWp.exit ?_ | refine AWp.ret ⟨.inr rfl, _, RetOk.ev tabOk Zc, ?_⟩) | (refine AOLg.pass ?_; refine AOLg.nx hA tabOk Zc ?_; first | refine NX.done ?_ | refine NX.gt ?_ | refine NX.gf ?_ | (refine NX.gs ?_ ?_ <;> intro hc <;> rw [hc] <;> ((try simp only [zn] at hc) <;> (try simp (disch := omega) only [zz hA, zb, zy, reduceCtorEq, Bool.false_eq_true, Int.reduceLT, Int.reduceLE, Int.reduceNeg] at hc) <;> (try simp only [zw] at hc)) <;> (try (exfalso; omega))) | (refine NX.kC ?_; first | (with_reducible refine NX.call (ha) ?_) | ((first | refine NX.call (ha) ?_)) | fail) | (refine NX.kO ?_; (first | refine NX.callO (ha) (by simp [allEq]) rfl ?_)) | refine NX.k 7 (NX.one Z7 ?_) | refine NX.k 10 (NX.one Z10 ?_) | refine NX.k 14 (NX.one Z14 ?_) | refine NX.k 18 (NX.one Z18 ?_) | refine NX.raw ?_) | refine Thn.exit ?_ | refine Blk.here ?_ | refine Blk.other (by decide) ?_ | refine ⟨.inl rfl, _, RetOk.ev tabOk Zc, ?_⟩ | fail)
    · refine rPV_then (by conv => lhs; cbv) ?_
      rw [hno hc, hid_eq hA]
    · refine ⟨k + 1, ?_, ?_, rfl, rfl, ?_, Zk⟩ <;> (try omega)
      repeat' (first | exact subE.nil | refine subE.cons rfl ?_ | refine subE.int rfl ?_ ?_ | refine subE.bool rfl ?_ ?_ | refine subE.str rfl ?_ ?_ | refine subE.sl rfl ?_ ?_)
      · exact ⟨by omega, hyes (by omega)⟩
      · exact Zd
  · try first | refine AOLg.of [] ?_ | refine QSg.of [] ?_
    repeat' (first | (refine AWp.pass ?_; first | refine AWp.seq ?_ | refine AWp.block ?_ | refine AWp.skip ?_ | refine AWp.regG [] Zc ?_ | refine AWp.cond_t rfl ?_ | refine AWp.cond_f rfl ?_ | (refine AWp.cond rfl ?_ ?_ <;> intro hc <;> (try rw [hc]) <;> ((try simp only [zn] at hc) <;> (try simp (disch := omega) only [zz hA, zb, zy, reduceCtorEq, Bool.false_eq_true, Int.reduceLT, Int.reduceLE, Int.reduceNeg] at hc) <;> (try simp only [zw] at hc)) <;> (try (exfalso; omega))) | refine AWp.exit ?_ | refine AWp.ret ⟨.inr rfl, _, RetOk.ev tabOk Zc, ?_⟩) | (refine AOLg.pass ?_; refine AOLg.nx hA tabOk Zc ?_; first | refine NX.done ?_ | refine NX.gt ?_ | refine NX.gf ?_ | (refine NX.gs ?_ ?_ <;> intro hc <;> rw [hc] <;> ((try simp only [zn] at hc) <;> (try simp (disch := omega) only [zz hA, zb, zy, reduceCtorEq, Bool.false_eq_true, Int.reduceLT, Int.reduceLE, Int.reduceNeg] at hc) <;> (try simp only [zw] at hc)) <;> (try (exfalso; omega))) | refine NX.k 7 (NX.one Z7 ?_) | refine NX.k 10 (NX.one Z10 ?_) | refine NX.k 14 (NX.one Z14 ?_) | refine NX.k 18 (NX.one Z18 ?_) | refine NX.raw ?_) | refine Thn.exit ?_ | refine Blk.here ?_ | refine Blk.other (by decide) ?_ | refine ⟨.inl rfl, _, RetOk.ev tabOk Zc, ?_⟩ | fail)
    refine rPV_then (by conv => lhs; cbv) ?_
    rw [show allV K V.length = true from allB_t fun i hi => hok i (by omega), hid_eq hA]
end Go.Proofs.YtkkjlmcnfoncdaaGreat.Aw

/- Contracts of the document's answer for package ifg, part 4: which graphs are right. -/
set_option linter.unusedVariables false
set_option linter.unusedSimpArgs false
set_option linter.unusedSectionVars false
namespace Go.Proofs.YtkkjlmcnfoncdaaGreat.Aw
open Go Go.RowKit
set_option maxRecDepth 10000
attribute [local irreducible] AWp AOL QS One AOLg QSg NX QX TRg TX AllO Fin3
def mayG (K : List (List Int)) (R : List Int) (n : Nat) (id v : Int) (less : Bool) : Bool :=
  if 0 ≤ numM K n id then lessM R (numM K n id) v
  else if less then decide (kindM K id = 1 ∨ kindM K id = 3) else decide (kindM K id = 0 ∨ kindM K id = 3 ∨ kindM K id = 6)
def rowB (K : List (List Int)) (R : List Int) (n : Nat) (l : List Int) (v : Int) (less : Bool) : Bool :=
  allB l.length fun i => mayG K R n (l.getD i default) v less && (decide (i = 0) || decide (l.getD (i - 1) default < l.getD i default))
def nodeB (K : List (List Int)) (R V : List Int) (P Q : List (List Int)) (v : Nat) : Bool :=
  rowB K R V.length (P.getD v default) v true && (rowB K R V.length (Q.getD v default) v false && (decide (V.getD v default = (v : Int)) || decide ((P.getD v default).length = 0 ∧ (Q.getD v default).length = 0)))
def rightGr (K : List (List Int)) (R V : List Int) (N : List (Int × Int)) (M : List Int) (P Q : List (List Int)) : Bool :=
  (rightB V R && (⟨V, N, M⟩ : Cl).right) && (decide (M.length = 0 ∧ P.length = V.length ∧ Q.length = V.length) && allB V.length (nodeB K R V P Q))
variable {A : Ar} (hA : A = real)
include hA
theorem refMayG_c (K : List (List Int)) (S : List Int) (h : StK K S) (R V : List Int) (N : List (Int × Int)) (M : List Int) (P Q : List (List Int)) (hr : R.length ≤ 1000000) (id v : Int) (less : Bool) :
    PureCalls Tryz.prog 83 [keyedPV A K S, grP A R V N M P Q, IP id, IP v, BP less] (BP (hid A (mayG K R V.length id v less))) := by
  have hnum := refNumber_c hA K S h.ok h.keys R V N M P Q id
  have hless := refLess_c hA R (numM K V.length id) v hr
  unfold mayG
  refine PureCalls.of Tryz.func83 rfl (by kernel_rfl) rfl ?_
  by_cases hn : 0 ≤ numM K V.length id
  · rw [if_pos hn]
    generalize lessM R (numM K V.length id) v = b at *
    generalize numM K V.length id = x at *
    rw [← hid_eq hA x] at hless
    try first | refine AOLg.of [] ?_ | refine QSg.of [] ?_
    repeat' (first | (refine AWp.pass ?_; first | refine AWp.seq ?_ | refine AWp.block ?_ | refine AWp.skip ?_ | refine AWp.regG [] Zc ?_ | refine AWp.cond_t rfl ?_ | refine AWp.cond_f rfl ?_ | (refine AWp.cond rfl ?_ ?_ <;> intro hc <;> (try rw [hc]) <;> ((try simp only [zn] at hc) <;> (try simp (disch := omega) only [zz hA, zb, zy, reduceCtorEq, Bool.false_eq_true, Int.reduceLT, Int.reduceLE, Int.reduceNeg] at hc) <;> (try simp only [zw] at hc)) <;> (try (exfalso; omega))) | refine AWp.exit ?_ | refine AWp.ret ⟨.inr rfl, _, RetOk.ev tabOk Zc, ?_⟩) | (refine AOLg.pass ?_; refine AOLg.nx hA tabOk Zc ?_; first | refine NX.done ?_ | refine NX.gt ?_ | refine NX.gf ?_ | (refine NX.gs ?_ ?_ <;> intro hc <;> rw [hc] <;> ((try simp only [zn] at hc) <;> (try simp (disch := omega) only [zz hA, zb, zy, reduceCtorEq, Bool.false_eq_true, Int.reduceLT, Int.reduceLE, Int.reduceNeg] at hc) <;> (try simp only [zw] at hc)) <;> (try (exfalso; omega))) | (refine NX.kC ?_; first | (with_reducible refine NX.call (hnum) ?_) | (with_reducible refine NX.call (hless) ?_) | ((first | refine NX.call (hnum) ?_ | refine NX.call (hless) ?_)) | fail) | (refine NX.kO ?_; (first | refine NX.callO (hnum) (by simp [allEq]) rfl ?_ | refine NX.callO (hless) (by simp [allEq]) rfl ?_)) | refine NX.k 8 (NX.one Z8 ?_) | refine NX.k 14 (NX.one Z14 ?_) | refine NX.k 15 (NX.one Z15 ?_) | refine NX.k 18 (NX.one Z18 ?_) | refine NX.raw ?_) | refine Thn.exit ?_ | refine Blk.here ?_ | refine Blk.other (by decide) ?_ | refine ⟨.inl rfl, _, RetOk.ev tabOk Zc, ?_⟩ | fail)
    all_goals first | (exfalso; omega) | (refine rPV_then (by conv => lhs; cbv) ?_; rfl)
  · rw [if_neg hn]
    clear hless
    by_cases hi : id < 0 ∨ (K.length : Int) ≤ id
    · have hof := refOf_c0 hA K S id hi
      have hk := (sym_out hi).2
      rw [hk, show (if less = true then decide ((-1 : Int) = 1 ∨ (-1 : Int) = 3) else decide ((-1 : Int) = 0 ∨ (-1 : Int) = 3 ∨ (-1 : Int) = 6)) = false by cases less <;> rfl]
      generalize numM K V.length id = x at *
      try first | refine AOLg.of [] ?_ | refine QSg.of [] ?_
      repeat' (first | (refine AWp.pass ?_; first | refine AWp.seq ?_ | refine AWp.block ?_ | refine AWp.skip ?_ | refine AWp.regG [] Zc ?_ | refine AWp.cond_t rfl ?_ | refine AWp.cond_f rfl ?_ | (refine AWp.cond rfl ?_ ?_ <;> intro hc <;> (try rw [hc]) <;> ((try simp only [zn] at hc) <;> (try simp (disch := omega) only [zz hA, zb, zy, reduceCtorEq, Bool.false_eq_true, Int.reduceLT, Int.reduceLE, Int.reduceNeg] at hc) <;> (try simp only [zw] at hc)) <;> (try (exfalso; omega))) | refine AWp.exit ?_ | refine AWp.ret ⟨.inr rfl, _, RetOk.ev tabOk Zc, ?_⟩) | (refine AOLg.pass ?_; refine AOLg.nx hA tabOk Zc ?_; first | refine NX.done ?_ | refine NX.gt ?_ | refine NX.gf ?_ | (refine NX.gs ?_ ?_ <;> intro hc <;> rw [hc] <;> ((try simp only [zn] at hc) <;> (try simp (disch := omega) only [zz hA, zb, zy, reduceCtorEq, Bool.false_eq_true, Int.reduceLT, Int.reduceLE, Int.reduceNeg] at hc) <;> (try simp only [zw] at hc)) <;> (try (exfalso; omega))) | (refine NX.kC ?_; first | (with_reducible refine NX.call (hnum) ?_) | (with_reducible refine NX.call (hof) ?_) | ((first | refine NX.call (hnum) ?_ | refine NX.call (hof) ?_)) | fail) | (refine NX.kO ?_; (first | refine NX.callO (hnum) (by simp [allEq]) rfl ?_ | refine NX.callO (hof) (by simp [allEq]) rfl ?_)) | refine NX.k 8 (NX.one Z8 ?_) | refine NX.k 14 (NX.one Z14 ?_) | refine NX.k 15 (NX.one Z15 ?_) | refine NX.k 18 (NX.one Z18 ?_) | refine NX.raw ?_) | refine Thn.exit ?_ | refine Blk.here ?_ | refine Blk.other (by decide) ?_ | refine ⟨.inl rfl, _, RetOk.ev tabOk Zc, ?_⟩ | fail)
      all_goals first | (exfalso; omega) | (refine rPV_then (by conv => lhs; cbv) ?_; simp only [hid_eq hA]; done) | (refine rPV_then (by conv => lhs; cbv) ?_; simp only [hid_eq hA]; rfl)
    · obtain ⟨i, rfl⟩ : ∃ i : Nat, id = i := ⟨id.toNat, by omega⟩
      have hil : i < K.length := by omega
      obtain ⟨k, s, p, l, hk, hll⟩ := key_at h.ok h.keys hil
      have hof := refOf_c1 hA K S i k s p l hil hk hll
      rw [(sym_key hil hk).2]
      obtain ⟨z, hz⟩ : ∃ z : Int, z = (i : Int) := ⟨_, rfl⟩
      rw [← hz] at hnum hn ⊢
      have hof := hof z hz
      clear hk
      generalize numM K V.length z = x at *
      cases less with
      | true =>
        simp only [if_true]
        try first | refine AOLg.of [] ?_ | refine QSg.of [] ?_
        repeat' (first | (refine AWp.pass ?_; first | refine AWp.seq ?_ | refine AWp.block ?_ | refine AWp.skip ?_ | refine AWp.regG [] Zc ?_ | refine AWp.cond_t rfl ?_ | refine AWp.cond_f rfl ?_ | (refine AWp.cond rfl ?_ ?_ <;> intro hc <;> (try rw [hc]) <;> ((try simp only [zn] at hc) <;> (try simp (disch := omega) only [zz hA, zb, zy, reduceCtorEq, Bool.false_eq_true, Int.reduceLT, Int.reduceLE, Int.reduceNeg] at hc) <;> (try simp only [zw] at hc)) <;> (try (exfalso; omega))) | refine AWp.exit ?_ | refine AWp.ret ⟨.inr rfl, _, RetOk.ev tabOk Zc, ?_⟩) | (refine AOLg.pass ?_; refine AOLg.nx hA tabOk Zc ?_; first | refine NX.done ?_ | refine NX.gt ?_ | refine NX.gf ?_ | (refine NX.gs ?_ ?_ <;> intro hc <;> rw [hc] <;> ((try simp only [zn] at hc) <;> (try simp (disch := omega) only [zz hA, zb, zy, reduceCtorEq, Bool.false_eq_true, Int.reduceLT, Int.reduceLE, Int.reduceNeg] at hc) <;> (try simp only [zw] at hc)) <;> (try (exfalso; omega))) | (refine NX.kC ?_; first | (with_reducible refine NX.call (hnum) ?_) | (with_reducible refine NX.call (hof) ?_) | ((first | refine NX.call (hnum) ?_ | refine NX.call (hof) ?_)) | fail) | (refine NX.kO ?_; (first | refine NX.callO (hnum) (by simp [allEq]) rfl ?_ | refine NX.callO (hof) (by simp [allEq]) rfl ?_)) | refine NX.k 8 (NX.one Z8 ?_) | refine NX.k 14 (NX.one Z14 ?_) | refine NX.k 15 (NX.one Z15 ?_) | refine NX.k 18 (NX.one Z18 ?_) | refine NX.raw ?_) | refine Thn.exit ?_ | refine Blk.here ?_ | refine Blk.other (by decide) ?_ | refine ⟨.inl rfl, _, RetOk.ev tabOk Zc, ?_⟩ | fail)
        all_goals first | (exfalso; omega) | (refine rPV_then (by conv => lhs; cbv) ?_; simp only [hid_eq hA]; simp [hA, real]; omega) | (refine rPV_then (by conv => lhs; cbv) ?_; simp only [hid_eq hA]; simp [hA, real]; done) | (refine rPV_then (by conv => lhs; cbv) ?_; simp only [hid_eq hA]; simp [hA, real, *]; done)
      | false =>
        simp only [Bool.false_eq_true, if_false]
        try first | refine AOLg.of [] ?_ | refine QSg.of [] ?_
        repeat' (first | (refine AWp.pass ?_; first | refine AWp.seq ?_ | refine AWp.block ?_ | refine AWp.skip ?_ | refine AWp.regG [] Zc ?_ | refine AWp.cond_t rfl ?_ | refine AWp.cond_f rfl ?_ | (refine AWp.cond rfl ?_ ?_ <;> intro hc <;> (try rw [hc]) <;> ((try simp only [zn] at hc) <;> (try simp (disch := omega) only [zz hA, zb, zy, reduceCtorEq, Bool.false_eq_true, Int.reduceLT, Int.reduceLE, Int.reduceNeg] at hc) <;> (try simp only [zw] at hc)) <;> (try (exfalso; omega))) | refine AWp.exit ?_ | refine AWp.ret ⟨.inr rfl, _, RetOk.ev tabOk Zc, ?_⟩) | (refine AOLg.pass ?_; refine AOLg.nx hA tabOk Zc ?_; first | refine NX.done ?_ | refine NX.gt ?_ | refine NX.gf ?_ | (refine NX.gs ?_ ?_ <;> intro hc <;> rw [hc] <;> ((try simp only [zn] at hc) <;> (try simp (disch := omega) only [zz hA, zb, zy, reduceCtorEq, Bool.false_eq_true, Int.reduceLT, Int.reduceLE, Int.reduceNeg] at hc) <;> (try simp only [zw] at hc)) <;> (try (exfalso; omega))) | (refine NX.kC ?_; first | (with_reducible refine NX.call (hnum) ?_) | (with_reducible refine NX.call (hof) ?_) | ((first | refine NX.call (hnum) ?_ | refine NX.call (hof) ?_)) | fail) | (refine NX.kO ?_; (first | refine NX.callO (hnum) (by simp [allEq]) rfl ?_ | refine NX.callO (hof) (by simp [allEq]) rfl ?_)) | refine NX.k 8 (NX.one Z8 ?_) | refine NX.k 14 (NX.one Z14 ?_) | refine NX.k 15 (NX.one Z15 ?_) | refine NX.k 18 (NX.one Z18 ?_) | refine NX.raw ?_) | refine Thn.exit ?_ | refine Blk.here ?_ | refine Blk.other (by decide) ?_ | refine ⟨.inl rfl, _, RetOk.ev tabOk Zc, ?_⟩ | fail)
        all_goals first | (exfalso; omega) | (refine rPV_then (by conv => lhs; cbv) ?_; simp only [hid_eq hA]; simp [hA, real]; omega) | (refine rPV_then (by conv => lhs; cbv) ?_; simp only [hid_eq hA]; simp [hA, real]; done) | (refine rPV_then (by conv => lhs; cbv) ?_; simp only [hid_eq hA]; simp [hA, real, *]; done)
theorem refRow_c (K : List (List Int)) (S : List Int) (h : StK K S) (R V : List Int) (N : List (Int × Int)) (M : List Int) (P Q : List (List Int)) (hr : R.length ≤ 1000000) (l : List Int) (hl : l.length ≤ 1000000) (v : Int) (less : Bool) :
    PureCalls Tryz.prog 74 [keyedPV A K S, grP A R V N M P Q, intsP A l, IP v, BP less] (BP (hid A (rowB K R V.length l v less))) := by
  refine PureCalls.of Tryz.func74 rfl (by kernel_rfl) rfl ?_
  try first | refine AOLg.of [] ?_ | refine QSg.of [] ?_
  repeat' (first | (refine AWp.pass ?_; first | refine AWp.seq ?_ | refine AWp.block ?_ | refine AWp.skip ?_ | refine AWp.regG [] Zc ?_ | refine AWp.cond_t rfl ?_ | refine AWp.cond_f rfl ?_ | (refine AWp.cond rfl ?_ ?_ <;> intro hc <;> (try rw [hc]) <;> ((try simp only [zn] at hc) <;> (try simp (disch := omega) only [zz hA, zb, zy, reduceCtorEq, Bool.false_eq_true, Int.reduceLT, Int.reduceLE, Int.reduceNeg] at hc) <;> (try simp only [zw] at hc)) <;> (try (exfalso; omega))) | refine AWp.exit ?_ | refine AWp.ret ⟨.inr rfl, _, RetOk.ev tabOk Zc, ?_⟩ | refine AWp.drawVG [] rfl (by decide +kernel) Zc ?_) | (refine AOLg.pass ?_; refine AOLg.nx hA tabOk Zc ?_; first | refine NX.done ?_ | refine NX.gt ?_ | refine NX.gf ?_ | (refine NX.gs ?_ ?_ <;> intro hc <;> rw [hc] <;> ((try simp only [zn] at hc) <;> (try simp (disch := omega) only [zz hA, zb, zy, reduceCtorEq, Bool.false_eq_true, Int.reduceLT, Int.reduceLE, Int.reduceNeg] at hc) <;> (try simp only [zw] at hc)) <;> (try (exfalso; omega))) | refine NX.k 1 (NX.one Z1 ?_) | refine NX.k 7 (NX.one Z7 ?_) | refine NX.k 10 (NX.one Z10 ?_) | refine NX.k 14 (NX.one Z14 ?_) | refine NX.raw ?_) | (refine TRg.pass ?_; refine TRg.nx hA tabOk Zc ?_; first | refine TX.done ?_ | refine TX.gt ?_ | refine TX.gf ?_ | (refine TX.gs ?_ ?_ <;> intro hc <;> rw [hc] <;> ((try simp only [zn] at hc) <;> (try simp (disch := omega) only [zz hA, zb, zy, reduceCtorEq, Bool.false_eq_true, Int.reduceLT, Int.reduceLE, Int.reduceNeg] at hc) <;> (try simp only [zw] at hc)) <;> (try (exfalso; omega))) | refine TX.k 1 (TX.one Z1 ?_) | refine TX.k 7 (TX.one Z7 ?_) | refine TX.k 10 (TX.one Z10 ?_) | refine TX.k 14 (TX.one Z14 ?_) | refine TX.raw ?_) | refine Fin3.of Zc (by repeat' (first | exact True.intro | exact rfl | refine And.intro ?_ ?_)) ?_ ?_ | (refine AllO.pass ?_; first | exact AllO.nil | (refine AllO.cons (One.ev hA tabOk ?_) ?_ <;> (first | refine AllO.pass ?_ | ((conv => lhs; cbv); done))) | (refine AllO.cons (One.skipB ?_) ?_ <;> (first | refine AllO.pass ?_ | ((conv => lhs; cbv); done))) | refine AllO.consX ZX rfl rfl ?_) | refine Thn.exit ?_ | refine Blk.here ?_ | refine Blk.other (by decide) ?_ | refine ⟨.inl rfl, _, RetOk.ev tabOk Zc, ?_⟩ | fail)
  refine AWp.loopU (fun k : Nat => [(11, .ic (.lit (.int .i64 (hid A (cN k)))))]) (fun _ => _) (fun k => l.length - k) (fun k => k ≤ l.length ∧ ∀ i, i < k → (mayG K R V.length (l.getD i default) v less && (decide (i = 0) || decide (l.getD (i - 1) default < l.getD i default))) = true) 0 (by conv => lhs; cbv) ⟨Nat.zero_le _, by simp⟩ (by ((repeat' (first | exact subE.nil | refine subE.cons rfl ?_ | refine subE.int rfl ?_ ?_ | refine subE.bool rfl ?_ ?_ | refine subE.str rfl ?_ ?_ | refine subE.sl rfl ?_ ?_))) <;> simp [hA, real, hid, cN]) rfl ?_
  rintro k ⟨hk, hok⟩
  by_cases hlt : k < l.length
  · have hm : ∀ q, q = l.getD k default → PureCalls Tryz.prog 83 [keyedPV A K S, grP A R V N M P Q, IP q, IP v, BP less] (BP (hid A (mayG K R V.length (l.getD k default) v less))) := by rintro q rfl; exact refMayG_c hA K S h R V N M P Q hr _ v less
    have hno : (mayG K R V.length (l.getD k default) v less && (decide (k = 0) || decide (l.getD (k - 1) default < l.getD k default))) = false → rowB K R V.length l v less = false := fun h => allB_f hlt h
    generalize hmd : mayG K R V.length (l.getD k default) v less = m at *
    have hp : ((k : Int) - 1).toNat = k - 1 := by omega
    have hno2 : m = false ∨ (0 < k ∧ l.getD k default ≤ l.getD (k - 1) default) → rowB K R V.length l v less = false := fun h => hno (by
      rcases h with h | ⟨h1, h2⟩
      · rw [h]; rfl
      · rw [decide_eq_false (show ¬ k = 0 by omega), decide_eq_false (show ¬ l.getD (k - 1) default < l.getD k default by omega)]; simp)
    have hyes : m = true → (k = 0 ∨ l.getD (k - 1) default < l.getD k default) → (m && (decide (k = 0) || decide (l.getD (k - 1) default < l.getD k default))) = true := fun h1 h2 => by
      rw [h1]; simpa using h2
    have hok2 : (m && (decide (k = 0) || decide (l.getD (k - 1) default < l.getD k default))) = true → ∀ i, i < k + 1 → (mayG K R V.length (l.getD i default) v less && (decide (i = 0) || decide (l.getD (i - 1) default < l.getD i default))) = true := fun h i hi => by
      rcases Nat.lt_or_ge i k with h1 | h1
      · exact hok i h1
      · obtain rfl : i = k := by omega
        rw [hmd]; exact h
    try first | refine AOLg.of [] ?_ | refine QSg.of [] ?_
    repeat' (first | (refine AWp.pass ?_; first | refine AWp.seq ?_ | refine AWp.block ?_ | refine AWp.skip ?_ | refine AWp.regG [] Zc ?_ | refine AWp.cond_t rfl ?_ | refine AWp.cond_f rfl ?_ | (refine AWp.cond rfl ?_ ?_ <;> intro hc <;> (try rw [hc]) <;> ((try simp only [zn] at hc) <;> (try simp (disch := omega) only [zz hA, zb, zy, reduceCtorEq, Bool.false_eq_true, Int.reduceLT, Int.reduceLE, Int.reduceNeg] at hc) <;> (try simp only [zw] at hc)) <;> (try (exfalso; omega))) | refine AWp.exit ?_ | refine AWp.ret ⟨.inr rfl, _, RetOk.ev tabOk Zc, ?_⟩ | refine AWp.drawVG [] rfl (by decide +kernel) Zc ?_) | (refine AOLg.pass ?_; refine AOLg.nx hA tabOk Zc ?_; first | refine NX.done ?_ | refine NX.gt ?_ | refine NX.gf ?_ | (refine NX.gs ?_ ?_ <;> intro hc <;> rw [hc] <;> ((try simp only [zn] at hc) <;> (try simp (disch := omega) only [zz hA, zb, zy, reduceCtorEq, Bool.false_eq_true, Int.reduceLT, Int.reduceLE, Int.reduceNeg] at hc) <;> (try simp only [zw] at hc)) <;> (try (exfalso; omega))) | (refine NX.kC ?_; first | (with_reducible refine NX.call (hm _ (by simp only [hid_eq hA, cN, Int.toNat_natCast])) ?_) | ((first | refine NX.call (hm _ (by simp only [hid_eq hA, cN, Int.toNat_natCast])) ?_)) | fail) | (refine NX.kO ?_; (first | refine NX.callO (hm _ (by simp only [hid_eq hA, cN, Int.toNat_natCast])) (by simp [allEq]) rfl ?_)) | refine NX.k 1 (NX.one Z1 ?_) | refine NX.k 7 (NX.one Z7 ?_) | refine NX.k 10 (NX.one Z10 ?_) | refine NX.k 14 (NX.one Z14 ?_) | refine NX.raw ?_) | (refine TRg.pass ?_; refine TRg.nx hA tabOk Zc ?_; first | refine TX.done ?_ | refine TX.gt ?_ | refine TX.gf ?_ | (refine TX.gs ?_ ?_ <;> intro hc <;> rw [hc] <;> ((try simp only [zn] at hc) <;> (try simp (disch := omega) only [zz hA, zb, zy, reduceCtorEq, Bool.false_eq_true, Int.reduceLT, Int.reduceLE, Int.reduceNeg] at hc) <;> (try simp only [zw] at hc)) <;> (try (exfalso; omega))) | (refine TX.kC ?_; first | (with_reducible refine TX.call (hm _ (by simp only [hid_eq hA, cN, Int.toNat_natCast])) ?_) | ((first | refine TX.call (hm _ (by simp only [hid_eq hA, cN, Int.toNat_natCast])) ?_)) | fail) | (refine TX.kO ?_; (first | refine TX.callO (hm _ (by simp only [hid_eq hA, cN, Int.toNat_natCast])) (by simp [allEq]) rfl ?_)) | refine TX.k 1 (TX.one Z1 ?_) | refine TX.k 7 (TX.one Z7 ?_) | refine TX.k 10 (TX.one Z10 ?_) | refine TX.k 14 (TX.one Z14 ?_) | refine TX.raw ?_) | refine Fin3.of Zc (by repeat' (first | exact True.intro | exact rfl | refine And.intro ?_ ?_)) ?_ ?_ | (refine AllO.pass ?_; first | exact AllO.nil | (refine AllO.cons (One.ev hA tabOk ?_) ?_ <;> (first | refine AllO.pass ?_ | ((conv => lhs; cbv); done))) | (refine AllO.cons (One.skipB ?_) ?_ <;> (first | refine AllO.pass ?_ | ((conv => lhs; cbv); done))) | ((with_reducible refine AllO.call Zc (hm _ (by simp only [hid_eq hA, cN, Int.toNat_natCast])) ?_ ?_) <;> (first | refine AllO.pass ?_ | exact rfl | exact Zd)) | refine AllO.consX ZX rfl rfl ?_) | refine Thn.exit ?_ | refine Blk.here ?_ | refine Blk.other (by decide) ?_ | refine ⟨.inl rfl, _, RetOk.ev tabOk Zc, ?_⟩ | fail)
    · refine rPV_then (by conv => lhs; cbv) ?_
      rw [hno2 (.inl hc), hid_eq hA]
    · refine rPV_then (by conv => lhs; cbv) ?_
      rw [hno2 (.inr (by rw [hp] at hc; omega)), hid_eq hA]
    · refine ⟨k + 1, ?_, ?_, rfl, rfl, ?_, Zk⟩ <;> (try omega)
      repeat' (first | exact subE.nil | refine subE.cons rfl ?_ | refine subE.int rfl ?_ ?_ | refine subE.bool rfl ?_ ?_ | refine subE.str rfl ?_ ?_ | refine subE.sl rfl ?_ ?_)
      · exact ⟨by omega, hok2 (hyes (by assumption) (.inr (by rw [hp] at hc; omega)))⟩
      · exact Zd
    · refine ⟨k + 1, ?_, ?_, rfl, rfl, ?_, Zk⟩ <;> (try omega)
      repeat' (first | exact subE.nil | refine subE.cons rfl ?_ | refine subE.int rfl ?_ ?_ | refine subE.bool rfl ?_ ?_ | refine subE.str rfl ?_ ?_ | refine subE.sl rfl ?_ ?_)
      · exact ⟨by omega, hok2 (hyes (by assumption) (.inl (by omega)))⟩
      · exact Zd
  · try first | refine AOLg.of [] ?_ | refine QSg.of [] ?_
    repeat' (first | (refine AWp.pass ?_; first | refine AWp.seq ?_ | refine AWp.block ?_ | refine AWp.skip ?_ | refine AWp.regG [] Zc ?_ | refine AWp.cond_t rfl ?_ | refine AWp.cond_f rfl ?_ | (refine AWp.cond rfl ?_ ?_ <;> intro hc <;> (try rw [hc]) <;> ((try simp only [zn] at hc) <;> (try simp (disch := omega) only [zz hA, zb, zy, reduceCtorEq, Bool.false_eq_true, Int.reduceLT, Int.reduceLE, Int.reduceNeg] at hc) <;> (try simp only [zw] at hc)) <;> (try (exfalso; omega))) | refine AWp.exit ?_ | refine AWp.ret ⟨.inr rfl, _, RetOk.ev tabOk Zc, ?_⟩ | refine AWp.drawVG [] rfl (by decide +kernel) Zc ?_) | (refine AOLg.pass ?_; refine AOLg.nx hA tabOk Zc ?_; first | refine NX.done ?_ | refine NX.gt ?_ | refine NX.gf ?_ | (refine NX.gs ?_ ?_ <;> intro hc <;> rw [hc] <;> ((try simp only [zn] at hc) <;> (try simp (disch := omega) only [zz hA, zb, zy, reduceCtorEq, Bool.false_eq_true, Int.reduceLT, Int.reduceLE, Int.reduceNeg] at hc) <;> (try simp only [zw] at hc)) <;> (try (exfalso; omega))) | refine NX.k 1 (NX.one Z1 ?_) | refine NX.k 7 (NX.one Z7 ?_) | refine NX.k 10 (NX.one Z10 ?_) | refine NX.k 14 (NX.one Z14 ?_) | refine NX.raw ?_) | (refine TRg.pass ?_; refine TRg.nx hA tabOk Zc ?_; first | refine TX.done ?_ | refine TX.gt ?_ | refine TX.gf ?_ | (refine TX.gs ?_ ?_ <;> intro hc <;> rw [hc] <;> ((try simp only [zn] at hc) <;> (try simp (disch := omega) only [zz hA, zb, zy, reduceCtorEq, Bool.false_eq_true, Int.reduceLT, Int.reduceLE, Int.reduceNeg] at hc) <;> (try simp only [zw] at hc)) <;> (try (exfalso; omega))) | refine TX.k 1 (TX.one Z1 ?_) | refine TX.k 7 (TX.one Z7 ?_) | refine TX.k 10 (TX.one Z10 ?_) | refine TX.k 14 (TX.one Z14 ?_) | refine TX.raw ?_) | refine Fin3.of Zc (by repeat' (first | exact True.intro | exact rfl | refine And.intro ?_ ?_)) ?_ ?_ | (refine AllO.pass ?_; first | exact AllO.nil | (refine AllO.cons (One.ev hA tabOk ?_) ?_ <;> (first | refine AllO.pass ?_ | ((conv => lhs; cbv); done))) | (refine AllO.cons (One.skipB ?_) ?_ <;> (first | refine AllO.pass ?_ | ((conv => lhs; cbv); done))) | refine AllO.consX ZX rfl rfl ?_) | refine Thn.exit ?_ | refine Blk.here ?_ | refine Blk.other (by decide) ?_ | refine ⟨.inl rfl, _, RetOk.ev tabOk Zc, ?_⟩ | fail)
    refine rPV_then (by conv => lhs; cbv) ?_
    rw [show rowB K R V.length l v less = true from allB_t fun i hi => hok i (by omega), hid_eq hA]
set_option maxHeartbeats 2000000 in
theorem refGRight_c (K : List (List Int)) (S : List Int) (h : StK K S) (R V : List Int) (N : List (Int × Int)) (M : List Int) (P Q : List (List Int)) (hr : R.length ≤ 1000000) (hc0 : (⟨V, N, M⟩ : Cl).small) (hP : P.length ≤ 1000000 ∧ ∀ x ∈ P, x.length ≤ 1000000) (hQ : Q.length ≤ 1000000 ∧ ∀ x ∈ Q, x.length ≤ 1000000) :
    PureCalls Tryz.prog 30 [keyedPV A K S, grP A R V N M P Q] (BP (hid A (rightGr K R V N M P Q))) := by
  have hu := refURight_c hA ⟨V, N, M⟩ hc0 R hr
  have hvs := hc0.v
  simp only at hu hvs
  unfold rightGr
  refine PureCalls.of Tryz.func30 rfl (by kernel_rfl) rfl ?_
  cases hub : (rightB V R && (⟨V, N, M⟩ : Cl).right) with
  | false =>
    rw [hub, hid_eq hA (α := Bool)] at hu
    rw [Bool.false_and]
    try first | refine AOLg.of [] ?_ | refine QSg.of [] ?_
    repeat' (first | (refine AWp.pass ?_; first | refine AWp.seq ?_ | refine AWp.block ?_ | refine AWp.skip ?_ | refine AWp.regG [] Zc ?_ | refine AWp.cond_t rfl ?_ | refine AWp.cond_f rfl ?_ | (refine AWp.cond rfl ?_ ?_ <;> intro hc <;> (try rw [hc]) <;> ((try simp only [zn] at hc) <;> (try simp (disch := omega) only [zz hA, zb, zy, reduceCtorEq, Bool.false_eq_true, Int.reduceLT, Int.reduceLE, Int.reduceNeg] at hc) <;> (try simp only [zw] at hc)) <;> (try (exfalso; omega))) | refine AWp.exit ?_ | refine AWp.ret ⟨.inr rfl, _, RetOk.ev tabOk Zc, ?_⟩ | refine AWp.drawVG [] rfl (by decide +kernel) Zc ?_) | (refine AOLg.pass ?_; refine AOLg.nx hA tabOk Zc ?_; first | refine NX.done ?_ | refine NX.gt ?_ | refine NX.gf ?_ | (refine NX.gs ?_ ?_ <;> intro hc <;> rw [hc] <;> ((try simp only [zn] at hc) <;> (try simp (disch := omega) only [zz hA, zb, zy, reduceCtorEq, Bool.false_eq_true, Int.reduceLT, Int.reduceLE, Int.reduceNeg] at hc) <;> (try simp only [zw] at hc)) <;> (try (exfalso; omega))) | (refine NX.kC ?_; first | (with_reducible refine NX.call (hu) ?_) | ((first | refine NX.call (hu) ?_)) | fail) | (refine NX.kO ?_; (first | refine NX.callO (hu) (by simp [allEq]) rfl ?_)) | refine NX.k 1 (NX.one Z1 ?_) | refine NX.k 7 (NX.one Z7 ?_) | refine NX.k 9 (NX.one Z9 ?_) | refine NX.k 10 (NX.one Z10 ?_) | refine NX.k 14 (NX.one Z14 ?_) | refine NX.k 18 (NX.one Z18 ?_) | refine NX.raw ?_) | (refine TRg.pass ?_; refine TRg.nx hA tabOk Zc ?_; first | refine TX.done ?_ | refine TX.gt ?_ | refine TX.gf ?_ | (refine TX.gs ?_ ?_ <;> intro hc <;> rw [hc] <;> ((try simp only [zn] at hc) <;> (try simp (disch := omega) only [zz hA, zb, zy, reduceCtorEq, Bool.false_eq_true, Int.reduceLT, Int.reduceLE, Int.reduceNeg] at hc) <;> (try simp only [zw] at hc)) <;> (try (exfalso; omega))) | (refine TX.kC ?_; first | (with_reducible refine TX.call (hu) ?_) | ((first | refine TX.call (hu) ?_)) | fail) | (refine TX.kO ?_; (first | refine TX.callO (hu) (by simp [allEq]) rfl ?_)) | refine TX.k 1 (TX.one Z1 ?_) | refine TX.k 7 (TX.one Z7 ?_) | refine TX.k 9 (TX.one Z9 ?_) | refine TX.k 10 (TX.one Z10 ?_) | refine TX.k 14 (TX.one Z14 ?_) | refine TX.k 18 (TX.one Z18 ?_) | refine TX.raw ?_) | refine Fin3.of Zc (by repeat' (first | exact True.intro | exact rfl | refine And.intro ?_ ?_)) ?_ ?_ | (refine AllO.pass ?_; first | exact AllO.nil | (refine AllO.cons (One.ev hA tabOk ?_) ?_ <;> (first | refine AllO.pass ?_ | ((conv => lhs; cbv); done))) | (refine AllO.cons (One.skipB ?_) ?_ <;> (first | refine AllO.pass ?_ | ((conv => lhs; cbv); done))) | ((with_reducible refine AllO.call Zc (hu) ?_ ?_) <;> (first | refine AllO.pass ?_ | exact rfl | exact Zd)) | refine AllO.consX ZX rfl rfl ?_) | refine Thn.exit ?_ | refine Blk.here ?_ | refine Blk.other (by decide) ?_ | refine ⟨.inl rfl, _, RetOk.ev tabOk Zc, ?_⟩ | fail)
    all_goals first | (exfalso; omega) | (refine rPV_then (by conv => lhs; cbv) ?_; simp only [hid_eq hA]; done) | (refine rPV_then (by conv => lhs; cbv) ?_; rw [hid_eq hA])
  | true =>
    rw [hub, hid_eq hA (α := Bool)] at hu
    rw [Bool.true_and]
    by_cases hC : M.length = 0 ∧ P.length = V.length ∧ Q.length = V.length
    · rw [decide_eq_true hC, Bool.true_and]
      obtain ⟨c1, c2, c3⟩ := hC
      try first | refine AOLg.of [] ?_ | refine QSg.of [] ?_
      repeat' (first | (refine AWp.pass ?_; first | refine AWp.seq ?_ | refine AWp.block ?_ | refine AWp.skip ?_ | refine AWp.regG [] Zc ?_ | refine AWp.cond_t rfl ?_ | refine AWp.cond_f rfl ?_ | (refine AWp.cond rfl ?_ ?_ <;> intro hc <;> (try rw [hc]) <;> ((try simp only [zn] at hc) <;> (try simp (disch := omega) only [zz hA, zb, zy, reduceCtorEq, Bool.false_eq_true, Int.reduceLT, Int.reduceLE, Int.reduceNeg] at hc) <;> (try simp only [zw] at hc)) <;> (try (exfalso; omega))) | refine AWp.exit ?_ | refine AWp.ret ⟨.inr rfl, _, RetOk.ev tabOk Zc, ?_⟩ | refine AWp.drawVG [] rfl (by decide +kernel) Zc ?_) | (refine AOLg.pass ?_; refine AOLg.nx hA tabOk Zc ?_; first | refine NX.done ?_ | refine NX.gt ?_ | refine NX.gf ?_ | (refine NX.gs ?_ ?_ <;> intro hc <;> rw [hc] <;> ((try simp only [zn] at hc) <;> (try simp (disch := omega) only [zz hA, zb, zy, reduceCtorEq, Bool.false_eq_true, Int.reduceLT, Int.reduceLE, Int.reduceNeg] at hc) <;> (try simp only [zw] at hc)) <;> (try (exfalso; omega))) | (refine NX.kC ?_; first | (with_reducible refine NX.call (hu) ?_) | ((first | refine NX.call (hu) ?_)) | fail) | (refine NX.kO ?_; (first | refine NX.callO (hu) (by simp [allEq]) rfl ?_)) | refine NX.k 1 (NX.one Z1 ?_) | refine NX.k 7 (NX.one Z7 ?_) | refine NX.k 9 (NX.one Z9 ?_) | refine NX.k 10 (NX.one Z10 ?_) | refine NX.k 14 (NX.one Z14 ?_) | refine NX.k 18 (NX.one Z18 ?_) | refine NX.raw ?_) | (refine TRg.pass ?_; refine TRg.nx hA tabOk Zc ?_; first | refine TX.done ?_ | refine TX.gt ?_ | refine TX.gf ?_ | (refine TX.gs ?_ ?_ <;> intro hc <;> rw [hc] <;> ((try simp only [zn] at hc) <;> (try simp (disch := omega) only [zz hA, zb, zy, reduceCtorEq, Bool.false_eq_true, Int.reduceLT, Int.reduceLE, Int.reduceNeg] at hc) <;> (try simp only [zw] at hc)) <;> (try (exfalso; omega))) | (refine TX.kC ?_; first | (with_reducible refine TX.call (hu) ?_) | ((first | refine TX.call (hu) ?_)) | fail) | (refine TX.kO ?_; (first | refine TX.callO (hu) (by simp [allEq]) rfl ?_)) | refine TX.k 1 (TX.one Z1 ?_) | refine TX.k 7 (TX.one Z7 ?_) | refine TX.k 9 (TX.one Z9 ?_) | refine TX.k 10 (TX.one Z10 ?_) | refine TX.k 14 (TX.one Z14 ?_) | refine TX.k 18 (TX.one Z18 ?_) | refine TX.raw ?_) | refine Fin3.of Zc (by repeat' (first | exact True.intro | exact rfl | refine And.intro ?_ ?_)) ?_ ?_ | (refine AllO.pass ?_; first | exact AllO.nil | (refine AllO.cons (One.ev hA tabOk ?_) ?_ <;> (first | refine AllO.pass ?_ | ((conv => lhs; cbv); done))) | (refine AllO.cons (One.skipB ?_) ?_ <;> (first | refine AllO.pass ?_ | ((conv => lhs; cbv); done))) | ((with_reducible refine AllO.call Zc (hu) ?_ ?_) <;> (first | refine AllO.pass ?_ | exact rfl | exact Zd)) | refine AllO.consX ZX rfl rfl ?_) | refine Thn.exit ?_ | refine Blk.here ?_ | refine Blk.other (by decide) ?_ | refine ⟨.inl rfl, _, RetOk.ev tabOk Zc, ?_⟩ | fail)
      all_goals try (exfalso; omega)
      refine AWp.loopU (fun k : Nat => [(6, .ic (.lit (.int .i64 (hid A (cN k)))))]) (fun _ => _) (fun k => V.length - k) (fun k => k ≤ V.length ∧ ∀ i, i < k → nodeB K R V P Q i = true) 0 (by conv => lhs; cbv) ⟨Nat.zero_le _, by simp⟩ (by ((repeat' (first | exact subE.nil | refine subE.cons rfl ?_ | refine subE.int rfl ?_ ?_ | refine subE.bool rfl ?_ ?_ | refine subE.str rfl ?_ ?_ | refine subE.sl rfl ?_ ?_))) <;> simp [hA, real, hid, cN]) rfl ?_
      rintro k ⟨hk, hok⟩
      by_cases hlt : k < V.length
      · have hpm : P.getD k default ∈ P := by rw [List.getD_eq_getElem?_getD, List.getElem?_eq_getElem (by omega)]; exact List.getElem_mem _
        have hqm : Q.getD k default ∈ Q := by rw [List.getD_eq_getElem?_getD, List.getElem?_eq_getElem (by omega)]; exact List.getElem_mem _
        have hp := refRow_c hA K S h R V N M P Q hr (P.getD k default) (hP.2 _ hpm) k true
        have hq := refRow_c hA K S h R V N M P Q hr (Q.getD k default) (hQ.2 _ hqm) k false
        have hno : nodeB K R V P Q k = false → allB V.length (nodeB K R V P Q) = false := fun h => allB_f hlt h
        have hnb : nodeB K R V P Q k = (rowB K R V.length (P.getD k default) k true && (rowB K R V.length (Q.getD k default) k false && (decide (V.getD k default = (k : Int)) || decide ((P.getD k default).length = 0 ∧ (Q.getD k default).length = 0)))) := rfl
        have hok2 : nodeB K R V P Q k = true → ∀ i, i < k + 1 → nodeB K R V P Q i = true := fun h i hi => by
          rcases Nat.lt_or_ge i k with h1 | h1
          · exact hok i h1
          · obtain rfl : i = k := by omega
            exact h
        generalize nodeB K R V P Q k = nb at *
        generalize rowB K R V.length (P.getD k default) k true = b1 at *
        generalize rowB K R V.length (Q.getD k default) k false = b2 at *
        have hp2 : ∀ q z, q = P.getD k default → z = (k : Int) → PureCalls Tryz.prog 74 [keyedPV A K S, grP A R V N M P Q, intsP A q, IP z, BP true] (BP (hid A b1)) := by rintro q z rfl rfl; exact hp
        have hq2 : ∀ q z, q = Q.getD k default → z = (k : Int) → PureCalls Tryz.prog 74 [keyedPV A K S, grP A R V N M P Q, intsP A q, IP z, BP false] (BP (hid A b2)) := by rintro q z rfl rfl; exact hq
        clear hp hq
        have hn1 : b1 = false → nb = false := fun h => by rw [hnb, h]; rfl
        have hn2 : b2 = false → nb = false := fun h => by rw [hnb, h]; simp
        have hn3 : ¬ V.getD k default = (k : Int) → 0 < (P.getD k default).length ∨ 0 < (Q.getD k default).length → nb = false := fun h1 h2 => by
          rw [hnb, decide_eq_false h1, decide_eq_false (show ¬((P.getD k default).length = 0 ∧ (Q.getD k default).length = 0) by omega)]; simp
        have hn4 : b1 = true → b2 = true → V.getD k default = (k : Int) ∨ ((P.getD k default).length = 0 ∧ (Q.getD k default).length = 0) → nb = true := fun h1 h2 h3 => by
          rw [hnb, h1, h2]; simpa using h3
        clear hnb
        try first | refine AOLg.of [] ?_ | refine QSg.of [] ?_
        repeat' (first | (refine AWp.pass ?_; first | refine AWp.seq ?_ | refine AWp.block ?_ | refine AWp.skip ?_ | refine AWp.regG [] Zc ?_ | refine AWp.cond_t rfl ?_ | refine AWp.cond_f rfl ?_ | (refine AWp.cond rfl ?_ ?_ <;> intro hc <;> (try rw [hc]) <;> ((try simp only [zn] at hc) <;> (try simp (disch := omega) only [zz hA, zb, zy, reduceCtorEq, Bool.false_eq_true, Int.reduceLT, Int.reduceLE, Int.reduceNeg] at hc) <;> (try simp only [zw] at hc)) <;> (try (exfalso; omega))) | refine AWp.exit ?_ | refine AWp.ret ⟨.inr rfl, _, RetOk.ev tabOk Zc, ?_⟩ | refine AWp.drawVG [] rfl (by decide +kernel) Zc ?_) | (refine AOLg.pass ?_; refine AOLg.nx hA tabOk Zc ?_; first | refine NX.done ?_ | refine NX.gt ?_ | refine NX.gf ?_ | (refine NX.gs ?_ ?_ <;> intro hc <;> rw [hc] <;> ((try simp only [zn] at hc) <;> (try simp (disch := omega) only [zz hA, zb, zy, reduceCtorEq, Bool.false_eq_true, Int.reduceLT, Int.reduceLE, Int.reduceNeg] at hc) <;> (try simp only [zw] at hc)) <;> (try (exfalso; omega))) | (refine NX.kC ?_; first | (with_reducible refine NX.call (hp2 _ _ (by simp only [hid_eq hA, cN, Int.toNat_natCast]) (by simp only [hid_eq hA, cN])) ?_) | (with_reducible refine NX.call (hq2 _ _ (by simp only [hid_eq hA, cN, Int.toNat_natCast]) (by simp only [hid_eq hA, cN])) ?_) | ((first | refine NX.call (hp2 _ _ (by simp only [hid_eq hA, cN, Int.toNat_natCast]) (by simp only [hid_eq hA, cN])) ?_ | refine NX.call (hq2 _ _ (by simp only [hid_eq hA, cN, Int.toNat_natCast]) (by simp only [hid_eq hA, cN])) ?_)) | fail) | (refine NX.kO ?_; (first | refine NX.callO (hp2 _ _ (by simp only [hid_eq hA, cN, Int.toNat_natCast]) (by simp only [hid_eq hA, cN])) (by simp [allEq]) rfl ?_ | refine NX.callO (hq2 _ _ (by simp only [hid_eq hA, cN, Int.toNat_natCast]) (by simp only [hid_eq hA, cN])) (by simp [allEq]) rfl ?_)) | refine NX.k 1 (NX.one Z1 ?_) | refine NX.k 7 (NX.one Z7 ?_) | refine NX.k 9 (NX.one Z9 ?_) | refine NX.k 10 (NX.one Z10 ?_) | refine NX.k 14 (NX.one Z14 ?_) | refine NX.k 18 (NX.one Z18 ?_) | refine NX.raw ?_) | (refine TRg.pass ?_; refine TRg.nx hA tabOk Zc ?_; first | refine TX.done ?_ | refine TX.gt ?_ | refine TX.gf ?_ | (refine TX.gs ?_ ?_ <;> intro hc <;> rw [hc] <;> ((try simp only [zn] at hc) <;> (try simp (disch := omega) only [zz hA, zb, zy, reduceCtorEq, Bool.false_eq_true, Int.reduceLT, Int.reduceLE, Int.reduceNeg] at hc) <;> (try simp only [zw] at hc)) <;> (try (exfalso; omega))) | (refine TX.kC ?_; first | (with_reducible refine TX.call (hp2 _ _ (by simp only [hid_eq hA, cN, Int.toNat_natCast]) (by simp only [hid_eq hA, cN])) ?_) | (with_reducible refine TX.call (hq2 _ _ (by simp only [hid_eq hA, cN, Int.toNat_natCast]) (by simp only [hid_eq hA, cN])) ?_) | ((first | refine TX.call (hp2 _ _ (by simp only [hid_eq hA, cN, Int.toNat_natCast]) (by simp only [hid_eq hA, cN])) ?_ | refine TX.call (hq2 _ _ (by simp only [hid_eq hA, cN, Int.toNat_natCast]) (by simp only [hid_eq hA, cN])) ?_)) | fail) | (refine TX.kO ?_; (first | refine TX.callO (hp2 _ _ (by simp only [hid_eq hA, cN, Int.toNat_natCast]) (by simp only [hid_eq hA, cN])) (by simp [allEq]) rfl ?_ | refine TX.callO (hq2 _ _ (by simp only [hid_eq hA, cN, Int.toNat_natCast]) (by simp only [hid_eq hA, cN])) (by simp [allEq]) rfl ?_)) | refine TX.k 1 (TX.one Z1 ?_) | refine TX.k 7 (TX.one Z7 ?_) | refine TX.k 9 (TX.one Z9 ?_) | refine TX.k 10 (TX.one Z10 ?_) | refine TX.k 14 (TX.one Z14 ?_) | refine TX.k 18 (TX.one Z18 ?_) | refine TX.raw ?_) | refine Fin3.of Zc (by repeat' (first | exact True.intro | exact rfl | refine And.intro ?_ ?_)) ?_ ?_ | (refine AllO.pass ?_; first | exact AllO.nil | (refine AllO.cons (One.ev hA tabOk ?_) ?_ <;> (first | refine AllO.pass ?_ | ((conv => lhs; cbv); done))) | (refine AllO.cons (One.skipB ?_) ?_ <;> (first | refine AllO.pass ?_ | ((conv => lhs; cbv); done))) | ((with_reducible refine AllO.call Zc (hp2 _ _ (by simp only [hid_eq hA, cN, Int.toNat_natCast]) (by simp only [hid_eq hA, cN])) ?_ ?_) <;> (first | refine AllO.pass ?_ | exact rfl | exact Zd)) | ((with_reducible refine AllO.call Zc (hq2 _ _ (by simp only [hid_eq hA, cN, Int.toNat_natCast]) (by simp only [hid_eq hA, cN])) ?_ ?_) <;> (first | refine AllO.pass ?_ | exact rfl | exact Zd)) | refine AllO.consX ZX rfl rfl ?_) | refine Thn.exit ?_ | refine Blk.here ?_ | refine Blk.other (by decide) ?_ | refine ⟨.inl rfl, _, RetOk.ev tabOk Zc, ?_⟩ | fail)
        · refine rPV_then (by conv => lhs; cbv) ?_
          rw [hno (hn1 hc), hid_eq hA]
        · refine rPV_then (by conv => lhs; cbv) ?_
          rw [hno (hn2 hc), hid_eq hA]
        · refine rPV_then (by conv => lhs; cbv) ?_
          rw [hno (hn3 (by assumption) (.inl (by omega))), hid_eq hA]
        · refine rPV_then (by conv => lhs; cbv) ?_
          rw [hno (hn3 (by assumption) (.inr (by omega))), hid_eq hA]
        · refine ⟨k + 1, ?_, ?_, rfl, rfl, ?_, Zk⟩ <;> (try omega)
          repeat' (first | exact subE.nil | refine subE.cons rfl ?_ | refine subE.int rfl ?_ ?_ | refine subE.bool rfl ?_ ?_ | refine subE.str rfl ?_ ?_ | refine subE.sl rfl ?_ ?_)
          · exact ⟨by omega, hok2 (hn4 (by assumption) (by assumption) (.inr (by omega)))⟩
          · exact Zd
        · refine ⟨k + 1, ?_, ?_, rfl, rfl, ?_, Zk⟩ <;> (try omega)
          repeat' (first | exact subE.nil | refine subE.cons rfl ?_ | refine subE.int rfl ?_ ?_ | refine subE.bool rfl ?_ ?_ | refine subE.str rfl ?_ ?_ | refine subE.sl rfl ?_ ?_)
          · exact ⟨by omega, hok2 (hn4 (by assumption) (by assumption) (.inl (by assumption)))⟩
          · exact Zd
      · try first | refine AOLg.of [] ?_ | refine QSg.of [] ?_
        repeat' (first | (refine AWp.pass ?_; first | refine AWp.seq ?_ | refine AWp.block ?_ | refine AWp.skip ?_ | refine AWp.regG [] Zc ?_ | refine AWp.cond_t rfl ?_ | refine AWp.cond_f rfl ?_ | (refine AWp.cond rfl ?_ ?_ <;> intro hc <;> (try rw [hc]) <;> ((try simp only [zn] at hc) <;> (try simp (disch := omega) only [zz hA, zb, zy, reduceCtorEq, Bool.false_eq_true, Int.reduceLT, Int.reduceLE, Int.reduceNeg] at hc) <;> (try simp only [zw] at hc)) <;> (try (exfalso; omega))) | refine AWp.exit ?_ | refine AWp.ret ⟨.inr rfl, _, RetOk.ev tabOk Zc, ?_⟩ | refine AWp.drawVG [] rfl (by decide +kernel) Zc ?_) | (refine AOLg.pass ?_; refine AOLg.nx hA tabOk Zc ?_; first | refine NX.done ?_ | refine NX.gt ?_ | refine NX.gf ?_ | (refine NX.gs ?_ ?_ <;> intro hc <;> rw [hc] <;> ((try simp only [zn] at hc) <;> (try simp (disch := omega) only [zz hA, zb, zy, reduceCtorEq, Bool.false_eq_true, Int.reduceLT, Int.reduceLE, Int.reduceNeg] at hc) <;> (try simp only [zw] at hc)) <;> (try (exfalso; omega))) | refine NX.k 1 (NX.one Z1 ?_) | refine NX.k 7 (NX.one Z7 ?_) | refine NX.k 9 (NX.one Z9 ?_) | refine NX.k 10 (NX.one Z10 ?_) | refine NX.k 14 (NX.one Z14 ?_) | refine NX.k 18 (NX.one Z18 ?_) | refine NX.raw ?_) | (refine TRg.pass ?_; refine TRg.nx hA tabOk Zc ?_; first | refine TX.done ?_ | refine TX.gt ?_ | refine TX.gf ?_ | (refine TX.gs ?_ ?_ <;> intro hc <;> rw [hc] <;> ((try simp only [zn] at hc) <;> (try simp (disch := omega) only [zz hA, zb, zy, reduceCtorEq, Bool.false_eq_true, Int.reduceLT, Int.reduceLE, Int.reduceNeg] at hc) <;> (try simp only [zw] at hc)) <;> (try (exfalso; omega))) | refine TX.k 1 (TX.one Z1 ?_) | refine TX.k 7 (TX.one Z7 ?_) | refine TX.k 9 (TX.one Z9 ?_) | refine TX.k 10 (TX.one Z10 ?_) | refine TX.k 14 (TX.one Z14 ?_) | refine TX.k 18 (TX.one Z18 ?_) | refine TX.raw ?_) | refine Fin3.of Zc (by repeat' (first | exact True.intro | exact rfl | refine And.intro ?_ ?_)) ?_ ?_ | (refine AllO.pass ?_; first | exact AllO.nil | (refine AllO.cons (One.ev hA tabOk ?_) ?_ <;> (first | refine AllO.pass ?_ | ((conv => lhs; cbv); done))) | (refine AllO.cons (One.skipB ?_) ?_ <;> (first | refine AllO.pass ?_ | ((conv => lhs; cbv); done))) | refine AllO.consX ZX rfl rfl ?_) | refine Thn.exit ?_ | refine Blk.here ?_ | refine Blk.other (by decide) ?_ | refine ⟨.inl rfl, _, RetOk.ev tabOk Zc, ?_⟩ | fail)
        refine rPV_then (by conv => lhs; cbv) ?_
        rw [show allB V.length (nodeB K R V P Q) = true from allB_t fun i hi => hok i (by omega), hid_eq hA]
    · rw [decide_eq_false hC, Bool.false_and]
      try first | refine AOLg.of [] ?_ | refine QSg.of [] ?_
      repeat' (first | (refine AWp.pass ?_; first | refine AWp.seq ?_ | refine AWp.block ?_ | refine AWp.skip ?_ | refine AWp.regG [] Zc ?_ | refine AWp.cond_t rfl ?_ | refine AWp.cond_f rfl ?_ | (refine AWp.cond rfl ?_ ?_ <;> intro hc <;> (try rw [hc]) <;> ((try simp only [zn] at hc) <;> (try simp (disch := omega) only [zz hA, zb, zy, reduceCtorEq, Bool.false_eq_true, Int.reduceLT, Int.reduceLE, Int.reduceNeg] at hc) <;> (try simp only [zw] at hc)) <;> (try (exfalso; omega))) | refine AWp.exit ?_ | refine AWp.ret ⟨.inr rfl, _, RetOk.ev tabOk Zc, ?_⟩ | refine AWp.drawVG [] rfl (by decide +kernel) Zc ?_) | (refine AOLg.pass ?_; refine AOLg.nx hA tabOk Zc ?_; first | refine NX.done ?_ | refine NX.gt ?_ | refine NX.gf ?_ | (refine NX.gs ?_ ?_ <;> intro hc <;> rw [hc] <;> ((try simp only [zn] at hc) <;> (try simp (disch := omega) only [zz hA, zb, zy, reduceCtorEq, Bool.false_eq_true, Int.reduceLT, Int.reduceLE, Int.reduceNeg] at hc) <;> (try simp only [zw] at hc)) <;> (try (exfalso; omega))) | (refine NX.kC ?_; first | (with_reducible refine NX.call (hu) ?_) | ((first | refine NX.call (hu) ?_)) | fail) | (refine NX.kO ?_; (first | refine NX.callO (hu) (by simp [allEq]) rfl ?_)) | refine NX.k 1 (NX.one Z1 ?_) | refine NX.k 7 (NX.one Z7 ?_) | refine NX.k 9 (NX.one Z9 ?_) | refine NX.k 10 (NX.one Z10 ?_) | refine NX.k 14 (NX.one Z14 ?_) | refine NX.k 18 (NX.one Z18 ?_) | refine NX.raw ?_) | (refine TRg.pass ?_; refine TRg.nx hA tabOk Zc ?_; first | refine TX.done ?_ | refine TX.gt ?_ | refine TX.gf ?_ | (refine TX.gs ?_ ?_ <;> intro hc <;> rw [hc] <;> ((try simp only [zn] at hc) <;> (try simp (disch := omega) only [zz hA, zb, zy, reduceCtorEq, Bool.false_eq_true, Int.reduceLT, Int.reduceLE, Int.reduceNeg] at hc) <;> (try simp only [zw] at hc)) <;> (try (exfalso; omega))) | (refine TX.kC ?_; first | (with_reducible refine TX.call (hu) ?_) | ((first | refine TX.call (hu) ?_)) | fail) | (refine TX.kO ?_; (first | refine TX.callO (hu) (by simp [allEq]) rfl ?_)) | refine TX.k 1 (TX.one Z1 ?_) | refine TX.k 7 (TX.one Z7 ?_) | refine TX.k 9 (TX.one Z9 ?_) | refine TX.k 10 (TX.one Z10 ?_) | refine TX.k 14 (TX.one Z14 ?_) | refine TX.k 18 (TX.one Z18 ?_) | refine TX.raw ?_) | refine Fin3.of Zc (by repeat' (first | exact True.intro | exact rfl | refine And.intro ?_ ?_)) ?_ ?_ | (refine AllO.pass ?_; first | exact AllO.nil | (refine AllO.cons (One.ev hA tabOk ?_) ?_ <;> (first | refine AllO.pass ?_ | ((conv => lhs; cbv); done))) | (refine AllO.cons (One.skipB ?_) ?_ <;> (first | refine AllO.pass ?_ | ((conv => lhs; cbv); done))) | ((with_reducible refine AllO.call Zc (hu) ?_ ?_) <;> (first | refine AllO.pass ?_ | exact rfl | exact Zd)) | refine AllO.consX ZX rfl rfl ?_) | refine Thn.exit ?_ | refine Blk.here ?_ | refine Blk.other (by decide) ?_ | refine ⟨.inl rfl, _, RetOk.ev tabOk Zc, ?_⟩ | fail)
      all_goals first | (exfalso; omega) | (refine rPV_then (by conv => lhs; cbv) ?_; simp only [hid_eq hA]; done) | (refine rPV_then (by conv => lhs; cbv) ?_; rw [hid_eq hA])
end Go.Proofs.YtkkjlmcnfoncdaaGreat.Aw

/- Contracts of the document's answer for package ifg, part 5: few; what all laws ask. -/
set_option linter.unusedVariables false
set_option linter.unusedSimpArgs false
set_option linter.unusedSectionVars false
namespace Go.Proofs.YtkkjlmcnfoncdaaGreat.Aw
open Go Go.RowKit
set_option maxRecDepth 10000
attribute [local irreducible] AWp AOL QS One AOLg QSg NX QX TRg TX AllO Fin3
def sumL (P : List (List Int)) : Nat → Nat
  | 0 => 0
  | k + 1 => sumL P k + (P.getD k default).length
theorem sumL_mono (P : List (List Int)) {j n : Nat} (h : j ≤ n) : sumL P j ≤ sumL P n := by
  induction n with
  | zero => obtain rfl : j = 0 := by omega
            exact Nat.le_refl _
  | succ n ih =>
    rcases Nat.lt_or_ge j (n + 1) with h1 | h1
    · have := ih (by omega)
      rw [show sumL P (n + 1) = sumL P n + (P.getD n default).length from rfl]; omega
    · obtain rfl : j = n + 1 := by omega
      exact Nat.le_refl _
theorem sumL_mem (P : List (List Int)) {x : List Int} (h : x ∈ P) : x.length ≤ sumL P P.length := by
  obtain ⟨i, hi, e⟩ := List.mem_iff_getElem.1 h
  have h1 := sumL_mono P (show i + 1 ≤ P.length by omega)
  rw [show sumL P (i + 1) = sumL P i + (P.getD i default).length from rfl, List.getD_eq_getElem?_getD, List.getElem?_eq_getElem hi, Option.getD_some, e] at h1
  omega
def baseG (R V : List Int) (N : List (Int × Int)) (M : List Int) (P Q : List (List Int)) : Nat := R.length + V.length + N.length + M.length + P.length + Q.length
def fewGr (R V : List Int) (N : List (Int × Int)) (M : List Int) (P Q : List (List Int)) : Bool := decide (baseG R V N M P Q + sumL P P.length + sumL Q Q.length ≤ 1000)
structure FitGr (R V : List Int) (N : List (Int × Int)) (M : List Int) (P Q : List (List Int)) : Prop where
  r : R.length ≤ 140737488351232
  v : V.length ≤ 140737488351232
  n : N.length ≤ 140737488351232
  m : M.length ≤ 140737488351232
  p : P.length ≤ 140737488351232
  q : Q.length ≤ 140737488351232
  ps : ∀ x ∈ P, x.length ≤ 140737488351232
  qs : ∀ x ∈ Q, x.length ≤ 140737488351232
variable {A : Ar} (hA : A = real)
include hA
set_option maxHeartbeats 2000000 in
theorem refGFew_c (R V : List Int) (N : List (Int × Int)) (M : List Int) (P Q : List (List Int)) (hf : FitGr R V N M P Q) :
    PureCalls Tryz.prog 29 [grP A R V N M P Q] (BP (hid A (fewGr R V N M P Q))) := by
  obtain ⟨h1, h2, h3, h4, h5, h6, h7, h8⟩ := hf
  refine PureCalls.of Tryz.func29 rfl (by kernel_rfl) rfl ?_
  unfold fewGr
  obtain ⟨B, hB⟩ : ∃ B, B = baseG R V N M P Q := ⟨_, rfl⟩
  rw [← hB]
  unfold baseG at hB
  have hpm : ∀ i, i < P.length → (P.getD i default).length ≤ 140737488351232 := fun i hi => h7 _ (by rw [List.getD_eq_getElem?_getD, List.getElem?_eq_getElem hi]; exact List.getElem_mem _)
  have hqm : ∀ i, i < Q.length → (Q.getD i default).length ≤ 140737488351232 := fun i hi => h8 _ (by rw [List.getD_eq_getElem?_getD, List.getElem?_eq_getElem hi]; exact List.getElem_mem _)
  clear h7 h8
  try first | refine AOLg.of [] ?_ | refine QSg.of [] ?_
  repeat' (first | (refine AWp.pass ?_; first | refine AWp.seq ?_ | refine AWp.block ?_ | refine AWp.skip ?_ | refine AWp.regG [] Zc ?_ | refine AWp.cond_t rfl ?_ | refine AWp.cond_f rfl ?_ | (refine AWp.cond rfl ?_ ?_ <;> intro hc <;> (try rw [hc]) <;> ((try simp only [zn] at hc) <;> (try simp (disch := omega) only [zz hA, zb, zy, reduceCtorEq, Bool.false_eq_true, Int.reduceLT, Int.reduceLE, Int.reduceNeg] at hc) <;> (try simp only [zw] at hc)) <;> (try (exfalso; omega))) | refine AWp.exit ?_ | refine AWp.ret ⟨.inr rfl, _, RetOk.ev tabOk Zc, ?_⟩) | (refine AOLg.pass ?_; refine AOLg.nx hA tabOk Zc ?_; first | refine NX.done ?_ | refine NX.gt ?_ | refine NX.gf ?_ | (refine NX.gs ?_ ?_ <;> intro hc <;> rw [hc] <;> ((try simp only [zn] at hc) <;> (try simp (disch := omega) only [zz hA, zb, zy, reduceCtorEq, Bool.false_eq_true, Int.reduceLT, Int.reduceLE, Int.reduceNeg] at hc) <;> (try simp only [zw] at hc)) <;> (try (exfalso; omega))) | refine NX.k 1 (NX.one Z1 ?_) | refine NX.k 7 (NX.one Z7 ?_) | refine NX.k 10 (NX.one Z10 ?_) | refine NX.k 14 (NX.one Z14 ?_) | refine NX.k 18 (NX.one Z18 ?_) | refine NX.raw ?_) | refine Thn.exit ?_ | refine Blk.here ?_ | refine Blk.other (by decide) ?_ | refine ⟨.inl rfl, _, RetOk.ev tabOk Zc, ?_⟩ | fail)
  refine AWp.loopU (fun i : Nat => [(3, .ic (.lit (.int .i64 (hid A (cN (B + sumL P i)))))), (4, .ic (.lit (.int .i64 (hid A (cN i)))))]) (fun _ => _) (fun i => P.length - i) (fun i => i ≤ P.length ∧ B + sumL P i ≤ 10000000000000000) 0 (by conv => lhs; cbv) ⟨Nat.zero_le _, by simp only [sumL]; omega⟩ (by ((repeat' (first | exact subE.nil | refine subE.cons rfl ?_ | refine subE.int rfl ?_ ?_ | refine subE.bool rfl ?_ ?_ | refine subE.str rfl ?_ ?_ | refine subE.sl rfl ?_ ?_))) <;> first | (exact Zd) | (simp only [sumL]; exact Zd)) rfl ?_
  rintro i ⟨hi, hb⟩
  have hmi := sumL_mono P hi
  by_cases hlt : i < P.length ∧ B + sumL P i ≤ 1000
  · have hr := hpm i hlt.1
    have es : sumL P (i + 1) = sumL P i + (P.getD i default).length := rfl
    generalize hs2 : sumL P (i + 1) = s2 at *
    generalize sumL P i = s1 at *
    try first | refine AOLg.of [] ?_ | refine QSg.of [] ?_
    repeat' (first | (refine AWp.pass ?_; first | refine AWp.seq ?_ | refine AWp.block ?_ | refine AWp.skip ?_ | refine AWp.regG [] Zc ?_ | refine AWp.cond_t rfl ?_ | refine AWp.cond_f rfl ?_ | (refine AWp.cond rfl ?_ ?_ <;> intro hc <;> (try rw [hc]) <;> ((try simp only [zn] at hc) <;> (try simp (disch := omega) only [zz hA, zb, zy, reduceCtorEq, Bool.false_eq_true, Int.reduceLT, Int.reduceLE, Int.reduceNeg] at hc) <;> (try simp only [zw] at hc)) <;> (try (exfalso; omega))) | refine AWp.exit ?_ | refine AWp.ret ⟨.inr rfl, _, RetOk.ev tabOk Zc, ?_⟩) | (refine AOLg.pass ?_; refine AOLg.nx hA tabOk Zc ?_; first | refine NX.done ?_ | refine NX.gt ?_ | refine NX.gf ?_ | (refine NX.gs ?_ ?_ <;> intro hc <;> rw [hc] <;> ((try simp only [zn] at hc) <;> (try simp (disch := omega) only [zz hA, zb, zy, reduceCtorEq, Bool.false_eq_true, Int.reduceLT, Int.reduceLE, Int.reduceNeg] at hc) <;> (try simp only [zw] at hc)) <;> (try (exfalso; omega))) | refine NX.k 1 (NX.one Z1 ?_) | refine NX.k 7 (NX.one Z7 ?_) | refine NX.k 10 (NX.one Z10 ?_) | refine NX.k 14 (NX.one Z14 ?_) | refine NX.k 18 (NX.one Z18 ?_) | refine NX.raw ?_) | refine Thn.exit ?_ | refine Blk.here ?_ | refine Blk.other (by decide) ?_ | refine ⟨.inl rfl, _, RetOk.ev tabOk Zc, ?_⟩ | fail)
    all_goals try (exfalso; omega)
    refine ⟨i + 1, ?_, ?_, rfl, rfl, ?_, Zk⟩ <;> (try omega)
    repeat' (first | exact subE.nil | refine subE.cons rfl ?_ | refine subE.int rfl ?_ ?_ | refine subE.bool rfl ?_ ?_ | refine subE.str rfl ?_ ?_ | refine subE.sl rfl ?_ ?_)
    all_goals first | (rw [hs2]; omega) | (rw [hs2]; exact Zd) | exact Zd
  · try first | refine AOLg.of [] ?_ | refine QSg.of [] ?_
    repeat' (first | (refine AWp.pass ?_; first | refine AWp.seq ?_ | refine AWp.block ?_ | refine AWp.skip ?_ | refine AWp.regG [] Zc ?_ | refine AWp.cond_t rfl ?_ | refine AWp.cond_f rfl ?_ | (refine AWp.cond rfl ?_ ?_ <;> intro hc <;> (try rw [hc]) <;> ((try simp only [zn] at hc) <;> (try simp (disch := omega) only [zz hA, zb, zy, reduceCtorEq, Bool.false_eq_true, Int.reduceLT, Int.reduceLE, Int.reduceNeg] at hc) <;> (try simp only [zw] at hc)) <;> (try (exfalso; omega))) | refine AWp.exit ?_ | refine AWp.ret ⟨.inr rfl, _, RetOk.ev tabOk Zc, ?_⟩) | (refine AOLg.pass ?_; refine AOLg.nx hA tabOk Zc ?_; first | refine NX.done ?_ | refine NX.gt ?_ | refine NX.gf ?_ | (refine NX.gs ?_ ?_ <;> intro hc <;> rw [hc] <;> ((try simp only [zn] at hc) <;> (try simp (disch := omega) only [zz hA, zb, zy, reduceCtorEq, Bool.false_eq_true, Int.reduceLT, Int.reduceLE, Int.reduceNeg] at hc) <;> (try simp only [zw] at hc)) <;> (try (exfalso; omega))) | refine NX.k 1 (NX.one Z1 ?_) | refine NX.k 7 (NX.one Z7 ?_) | refine NX.k 10 (NX.one Z10 ?_) | refine NX.k 14 (NX.one Z14 ?_) | refine NX.k 18 (NX.one Z18 ?_) | refine NX.raw ?_) | refine Thn.exit ?_ | refine Blk.here ?_ | refine Blk.other (by decide) ?_ | refine ⟨.inl rfl, _, RetOk.ev tabOk Zc, ?_⟩ | fail)
    all_goals try (exfalso; omega)
    all_goals
      have hex : i = P.length ∨ 1000 < B + sumL P i := by omega
      clear hpm hlt hc
      refine AWp.loopU (fun j : Nat => [(3, .ic (.lit (.int .i64 (hid A (cN (B + sumL P i + sumL Q j)))))), (5, .ic (.lit (.int .i64 (hid A (cN j)))))]) (fun _ => _) (fun j => Q.length - j) (fun j => j ≤ Q.length ∧ B + sumL P i + sumL Q j ≤ 20000000000000000) 0 (by conv => lhs; cbv) ⟨Nat.zero_le _, by simp only [sumL]; omega⟩ (by ((repeat' (first | exact subE.nil | refine subE.cons rfl ?_ | refine subE.int rfl ?_ ?_ | refine subE.bool rfl ?_ ?_ | refine subE.str rfl ?_ ?_ | refine subE.sl rfl ?_ ?_))) <;> first | (exact Zd) | (simp only [sumL]; exact Zd)) rfl ?_
      rintro j ⟨hj, hb2⟩
      have hmj := sumL_mono Q hj
      by_cases hlt2 : j < Q.length ∧ B + sumL P i + sumL Q j ≤ 1000
      · have hr2 := hqm j hlt2.1
        have es2 : sumL Q (j + 1) = sumL Q j + (Q.getD j default).length := rfl
        generalize hs4 : sumL Q (j + 1) = s4 at *
        generalize sumL Q j = s3 at *
        try first | refine AOLg.of [] ?_ | refine QSg.of [] ?_
        repeat' (first | (refine AWp.pass ?_; first | refine AWp.seq ?_ | refine AWp.block ?_ | refine AWp.skip ?_ | refine AWp.regG [] Zc ?_ | refine AWp.cond_t rfl ?_ | refine AWp.cond_f rfl ?_ | (refine AWp.cond rfl ?_ ?_ <;> intro hc <;> (try rw [hc]) <;> ((try simp only [zn] at hc) <;> (try simp (disch := omega) only [zz hA, zb, zy, reduceCtorEq, Bool.false_eq_true, Int.reduceLT, Int.reduceLE, Int.reduceNeg] at hc) <;> (try simp only [zw] at hc)) <;> (try (exfalso; omega))) | refine AWp.exit ?_ | refine AWp.ret ⟨.inr rfl, _, RetOk.ev tabOk Zc, ?_⟩) | (refine AOLg.pass ?_; refine AOLg.nx hA tabOk Zc ?_; first | refine NX.done ?_ | refine NX.gt ?_ | refine NX.gf ?_ | (refine NX.gs ?_ ?_ <;> intro hc <;> rw [hc] <;> ((try simp only [zn] at hc) <;> (try simp (disch := omega) only [zz hA, zb, zy, reduceCtorEq, Bool.false_eq_true, Int.reduceLT, Int.reduceLE, Int.reduceNeg] at hc) <;> (try simp only [zw] at hc)) <;> (try (exfalso; omega))) | refine NX.k 1 (NX.one Z1 ?_) | refine NX.k 7 (NX.one Z7 ?_) | refine NX.k 10 (NX.one Z10 ?_) | refine NX.k 14 (NX.one Z14 ?_) | refine NX.k 18 (NX.one Z18 ?_) | refine NX.raw ?_) | refine Thn.exit ?_ | refine Blk.here ?_ | refine Blk.other (by decide) ?_ | refine ⟨.inl rfl, _, RetOk.ev tabOk Zc, ?_⟩ | fail)
        all_goals try (exfalso; omega)
        all_goals
          refine ⟨j + 1, ?_, ?_, rfl, rfl, ?_, Zk⟩ <;> (try omega)
          repeat' (first | exact subE.nil | refine subE.cons rfl ?_ | refine subE.int rfl ?_ ?_ | refine subE.bool rfl ?_ ?_ | refine subE.str rfl ?_ ?_ | refine subE.sl rfl ?_ ?_)
          all_goals first | (rw [hs4]; omega) | (rw [hs4]; exact Zd) | exact Zd
      · have hex2 : j = Q.length ∨ 1000 < B + sumL P i + sumL Q j := by omega
        have hfin : (B + sumL P i + sumL Q j ≤ 1000) ↔ (B + sumL P P.length + sumL Q Q.length ≤ 1000) := by
          rcases hex with rfl | h1
          · rcases hex2 with rfl | h2
            · exact Iff.rfl
            · exact ⟨fun h => by omega, fun h => by omega⟩
          · exact ⟨fun h => by omega, fun h => by omega⟩
        try first | refine AOLg.of [] ?_ | refine QSg.of [] ?_
        repeat' (first | (refine AWp.pass ?_; first | refine AWp.seq ?_ | refine AWp.block ?_ | refine AWp.skip ?_ | refine AWp.regG [] Zc ?_ | refine AWp.cond_t rfl ?_ | refine AWp.cond_f rfl ?_ | (refine AWp.cond rfl ?_ ?_ <;> intro hc <;> (try rw [hc]) <;> ((try simp only [zn] at hc) <;> (try simp (disch := omega) only [zz hA, zb, zy, reduceCtorEq, Bool.false_eq_true, Int.reduceLT, Int.reduceLE, Int.reduceNeg] at hc) <;> (try simp only [zw] at hc)) <;> (try (exfalso; omega))) | refine AWp.exit ?_ | refine AWp.ret ⟨.inr rfl, _, RetOk.ev tabOk Zc, ?_⟩) | (refine AOLg.pass ?_; refine AOLg.nx hA tabOk Zc ?_; first | refine NX.done ?_ | refine NX.gt ?_ | refine NX.gf ?_ | (refine NX.gs ?_ ?_ <;> intro hc <;> rw [hc] <;> ((try simp only [zn] at hc) <;> (try simp (disch := omega) only [zz hA, zb, zy, reduceCtorEq, Bool.false_eq_true, Int.reduceLT, Int.reduceLE, Int.reduceNeg] at hc) <;> (try simp only [zw] at hc)) <;> (try (exfalso; omega))) | refine NX.k 1 (NX.one Z1 ?_) | refine NX.k 7 (NX.one Z7 ?_) | refine NX.k 10 (NX.one Z10 ?_) | refine NX.k 14 (NX.one Z14 ?_) | refine NX.k 18 (NX.one Z18 ?_) | refine NX.raw ?_) | refine Thn.exit ?_ | refine Blk.here ?_ | refine Blk.other (by decide) ?_ | refine ⟨.inl rfl, _, RetOk.ev tabOk Zc, ?_⟩ | fail)
        all_goals try (exfalso; omega)
        all_goals (refine rPV_then (by conv => lhs; cbv) ?_; simp only [hid_eq hA, cN, ← hfin]; refine congrArg (fun b => PV.c (IC.lit (Value.bool b))) ?_; rw [Bool.eq_iff_iff]; simp [hA, real]; omega)
/-- What all laws ask of a store and a graph. -/
structure OfG (l : List Sg) (K : List (List Int)) (S R V : List Int) (N : List (Int × Int)) (M : List Int) (P Q : List (List Int)) : Prop where
  st : StK K S
  ru : RightU V R
  all : allV K V.length = true
  few : baseG R V N M P Q + sumL P P.length + sumL Q Q.length ≤ 1000
  right : rightGr K R V N M P Q = true
omit hA in
theorem OfG.len {l : List Sg} {K : List (List Int)} {S R V : List Int} {N : List (Int × Int)} {M : List Int} {P Q : List (List Int)} (h : OfG l K S R V N M P Q) : R.length ≤ 1000 ∧ V.length ≤ 1000 ∧ N.length ≤ 1000 ∧ M.length = 0 ∧ P.length = V.length ∧ Q.length = V.length ∧ (∀ x ∈ P, x.length ≤ 1000) ∧ (∀ x ∈ Q, x.length ≤ 1000) := by
  have h1 := h.few
  have h2 := h.right
  unfold baseG at h1
  unfold rightGr at h2
  simp only [Bool.and_eq_true, decide_eq_true_eq] at h2
  refine ⟨by omega, by omega, by omega, h2.2.1.1, h2.2.1.2.1, h2.2.1.2.2, fun x hx => ?_, fun x hx => ?_⟩
  · have := sumL_mem P hx; omega
  · have := sumL_mem Q hx; omega
set_option maxHeartbeats 2000000 in
theorem of_c (l : List Sg) (hl : FitG l) (K : List (List Int)) (S : List Int) (hk : FitsK K S) (R V : List Int) (N : List (Int × Int)) (M : List Int) (P Q : List (List Int)) (hg : FitGr R V N M P Q) :
    ∃ b : Bool, PureCalls Tryz.prog 6 [slP A 2 (encG A) l, keyedPV A K S, grP A R V N M P Q] (BP b) ∧ (b = true → OfG l K S R V N M P Q) := by
  obtain ⟨k1, k2, k3⟩ := hk
  by_cases h64 : l.length ≤ 64
  · have c1 := sigRight_c hA l hl
    cases e1 : rightG l with
    | false =>
      rw [e1, hid_eq hA (α := Bool)] at c1
      refine ⟨false, ?_, fun h => by cases h⟩
      refine PureCalls.of Tryz.func6 rfl (by kernel_rfl) rfl ?_
      try first | refine AOLg.of [] ?_ | refine QSg.of [] ?_
      repeat' (first | (refine AWp.pass ?_; first | refine AWp.seq ?_ | refine AWp.block ?_ | refine AWp.skip ?_ | refine AWp.regG [] Zc ?_ | refine AWp.cond_t rfl ?_ | refine AWp.cond_f rfl ?_ | (refine AWp.cond rfl ?_ ?_ <;> intro hc <;> (try rw [hc]) <;> ((try simp only [zn] at hc) <;> (try simp (disch := omega) only [zz hA, zb, zy, reduceCtorEq, Bool.false_eq_true, Int.reduceLT, Int.reduceLE, Int.reduceNeg] at hc) <;> (try simp only [zw] at hc)) <;> (try (exfalso; omega))) | refine AWp.exit ?_ | refine AWp.ret ⟨.inr rfl, _, RetOk.ev tabOk Zc, ?_⟩) | (refine AOLg.pass ?_; refine AOLg.nx hA tabOk Zc ?_; first | refine NX.done ?_ | refine NX.gt ?_ | refine NX.gf ?_ | (refine NX.gs ?_ ?_ <;> intro hc <;> rw [hc] <;> ((try simp only [zn] at hc) <;> (try simp (disch := omega) only [zz hA, zb, zy, reduceCtorEq, Bool.false_eq_true, Int.reduceLT, Int.reduceLE, Int.reduceNeg] at hc) <;> (try simp only [zw] at hc)) <;> (try (exfalso; omega))) | (refine NX.kC ?_; first | (with_reducible refine NX.call (c1) ?_) | ((first | refine NX.call (c1) ?_)) | fail) | (refine NX.kO ?_; (first | refine NX.callO (c1) (by simp [allEq]) rfl ?_)) | refine NX.k 10 (NX.one Z10 ?_) | refine NX.k 14 (NX.one Z14 ?_) | refine NX.raw ?_) | refine Thn.exit ?_ | refine Blk.here ?_ | refine Blk.other (by decide) ?_ | refine ⟨.inl rfl, _, RetOk.ev tabOk Zc, ?_⟩ | fail)
      all_goals exact Ze
    | true =>
      rw [e1, hid_eq hA (α := Bool)] at c1
      have c2 := refFew_c hA K S k1 k2 k3
      cases e2 : fewM K S with
      | false =>
        rw [e2, hid_eq hA (α := Bool)] at c2
        refine ⟨false, ?_, fun h => by cases h⟩
        refine PureCalls.of Tryz.func6 rfl (by kernel_rfl) rfl ?_
        try first | refine AOLg.of [] ?_ | refine QSg.of [] ?_
        repeat' (first | (refine AWp.pass ?_; first | refine AWp.seq ?_ | refine AWp.block ?_ | refine AWp.skip ?_ | refine AWp.regG [] Zc ?_ | refine AWp.cond_t rfl ?_ | refine AWp.cond_f rfl ?_ | (refine AWp.cond rfl ?_ ?_ <;> intro hc <;> (try rw [hc]) <;> ((try simp only [zn] at hc) <;> (try simp (disch := omega) only [zz hA, zb, zy, reduceCtorEq, Bool.false_eq_true, Int.reduceLT, Int.reduceLE, Int.reduceNeg] at hc) <;> (try simp only [zw] at hc)) <;> (try (exfalso; omega))) | refine AWp.exit ?_ | refine AWp.ret ⟨.inr rfl, _, RetOk.ev tabOk Zc, ?_⟩) | (refine AOLg.pass ?_; refine AOLg.nx hA tabOk Zc ?_; first | refine NX.done ?_ | refine NX.gt ?_ | refine NX.gf ?_ | (refine NX.gs ?_ ?_ <;> intro hc <;> rw [hc] <;> ((try simp only [zn] at hc) <;> (try simp (disch := omega) only [zz hA, zb, zy, reduceCtorEq, Bool.false_eq_true, Int.reduceLT, Int.reduceLE, Int.reduceNeg] at hc) <;> (try simp only [zw] at hc)) <;> (try (exfalso; omega))) | (refine NX.kC ?_; first | (with_reducible refine NX.call (c1) ?_) | (with_reducible refine NX.call (c2) ?_) | ((first | refine NX.call (c1) ?_ | refine NX.call (c2) ?_)) | fail) | (refine NX.kO ?_; (first | refine NX.callO (c1) (by simp [allEq]) rfl ?_ | refine NX.callO (c2) (by simp [allEq]) rfl ?_)) | refine NX.k 10 (NX.one Z10 ?_) | refine NX.k 14 (NX.one Z14 ?_) | refine NX.raw ?_) | refine Thn.exit ?_ | refine Blk.here ?_ | refine Blk.other (by decide) ?_ | refine ⟨.inl rfl, _, RetOk.ev tabOk Zc, ?_⟩ | fail)
        all_goals exact Ze
      | true =>
        rw [e2, hid_eq hA (α := Bool)] at c2
        obtain ⟨b1, b2, b3⟩ := few_bounds e2
        have c3 := refTRight_c hA l K S (by omega) hl (by omega) (fun x hx => by have := b3 x hx; omega)
        cases e3 : rightT l K S with
        | false =>
          rw [e3, hid_eq hA (α := Bool)] at c3
          refine ⟨false, ?_, fun h => by cases h⟩
          refine PureCalls.of Tryz.func6 rfl (by kernel_rfl) rfl ?_
          try first | refine AOLg.of [] ?_ | refine QSg.of [] ?_
          repeat' (first | (refine AWp.pass ?_; first | refine AWp.seq ?_ | refine AWp.block ?_ | refine AWp.skip ?_ | refine AWp.regG [] Zc ?_ | refine AWp.cond_t rfl ?_ | refine AWp.cond_f rfl ?_ | (refine AWp.cond rfl ?_ ?_ <;> intro hc <;> (try rw [hc]) <;> ((try simp only [zn] at hc) <;> (try simp (disch := omega) only [zz hA, zb, zy, reduceCtorEq, Bool.false_eq_true, Int.reduceLT, Int.reduceLE, Int.reduceNeg] at hc) <;> (try simp only [zw] at hc)) <;> (try (exfalso; omega))) | refine AWp.exit ?_ | refine AWp.ret ⟨.inr rfl, _, RetOk.ev tabOk Zc, ?_⟩) | (refine AOLg.pass ?_; refine AOLg.nx hA tabOk Zc ?_; first | refine NX.done ?_ | refine NX.gt ?_ | refine NX.gf ?_ | (refine NX.gs ?_ ?_ <;> intro hc <;> rw [hc] <;> ((try simp only [zn] at hc) <;> (try simp (disch := omega) only [zz hA, zb, zy, reduceCtorEq, Bool.false_eq_true, Int.reduceLT, Int.reduceLE, Int.reduceNeg] at hc) <;> (try simp only [zw] at hc)) <;> (try (exfalso; omega))) | (refine NX.kC ?_; first | (with_reducible refine NX.call (c1) ?_) | (with_reducible refine NX.call (c2) ?_) | (with_reducible refine NX.call (c3) ?_) | ((first | refine NX.call (c1) ?_ | refine NX.call (c2) ?_ | refine NX.call (c3) ?_)) | fail) | (refine NX.kO ?_; (first | refine NX.callO (c1) (by simp [allEq]) rfl ?_ | refine NX.callO (c2) (by simp [allEq]) rfl ?_ | refine NX.callO (c3) (by simp [allEq]) rfl ?_)) | refine NX.k 10 (NX.one Z10 ?_) | refine NX.k 14 (NX.one Z14 ?_) | refine NX.raw ?_) | refine Thn.exit ?_ | refine Blk.here ?_ | refine Blk.other (by decide) ?_ | refine ⟨.inl rfl, _, RetOk.ev tabOk Zc, ?_⟩ | fail)
          all_goals exact Ze
        | true =>
          rw [e3, hid_eq hA (α := Bool)] at c3
          obtain ⟨o1, o2, o3⟩ := okK e3
          have hst : StK K S := ⟨o1, o2, by omega, fun x hx => by have := b3 x hx; omega⟩
          have c4 := refGFew_c hA R V N M P Q hg
          cases e4 : fewGr R V N M P Q with
          | false =>
            rw [e4, hid_eq hA (α := Bool)] at c4
            refine ⟨false, ?_, fun h => by cases h⟩
            refine PureCalls.of Tryz.func6 rfl (by kernel_rfl) rfl ?_
            try first | refine AOLg.of [] ?_ | refine QSg.of [] ?_
            repeat' (first | (refine AWp.pass ?_; first | refine AWp.seq ?_ | refine AWp.block ?_ | refine AWp.skip ?_ | refine AWp.regG [] Zc ?_ | refine AWp.cond_t rfl ?_ | refine AWp.cond_f rfl ?_ | (refine AWp.cond rfl ?_ ?_ <;> intro hc <;> (try rw [hc]) <;> ((try simp only [zn] at hc) <;> (try simp (disch := omega) only [zz hA, zb, zy, reduceCtorEq, Bool.false_eq_true, Int.reduceLT, Int.reduceLE, Int.reduceNeg] at hc) <;> (try simp only [zw] at hc)) <;> (try (exfalso; omega))) | refine AWp.exit ?_ | refine AWp.ret ⟨.inr rfl, _, RetOk.ev tabOk Zc, ?_⟩) | (refine AOLg.pass ?_; refine AOLg.nx hA tabOk Zc ?_; first | refine NX.done ?_ | refine NX.gt ?_ | refine NX.gf ?_ | (refine NX.gs ?_ ?_ <;> intro hc <;> rw [hc] <;> ((try simp only [zn] at hc) <;> (try simp (disch := omega) only [zz hA, zb, zy, reduceCtorEq, Bool.false_eq_true, Int.reduceLT, Int.reduceLE, Int.reduceNeg] at hc) <;> (try simp only [zw] at hc)) <;> (try (exfalso; omega))) | (refine NX.kC ?_; first | (with_reducible refine NX.call (c1) ?_) | (with_reducible refine NX.call (c2) ?_) | (with_reducible refine NX.call (c3) ?_) | (with_reducible refine NX.call (c4) ?_) | ((first | refine NX.call (c1) ?_ | refine NX.call (c2) ?_ | refine NX.call (c3) ?_ | refine NX.call (c4) ?_)) | fail) | (refine NX.kO ?_; (first | refine NX.callO (c1) (by simp [allEq]) rfl ?_ | refine NX.callO (c2) (by simp [allEq]) rfl ?_ | refine NX.callO (c3) (by simp [allEq]) rfl ?_ | refine NX.callO (c4) (by simp [allEq]) rfl ?_)) | refine NX.k 10 (NX.one Z10 ?_) | refine NX.k 14 (NX.one Z14 ?_) | refine NX.raw ?_) | refine Thn.exit ?_ | refine Blk.here ?_ | refine Blk.other (by decide) ?_ | refine ⟨.inl rfl, _, RetOk.ev tabOk Zc, ?_⟩ | fail)
            all_goals exact Ze
          | true =>
            rw [e4, hid_eq hA (α := Bool)] at c4
            have hfew : baseG R V N M P Q + sumL P P.length + sumL Q Q.length ≤ 1000 := by simpa [fewGr] using e4
            have hbs := hfew
            unfold baseG at hbs
            have hps : ∀ x ∈ P, x.length ≤ 1000000 := fun x hx => by have := sumL_mem P hx; omega
            have hqs : ∀ x ∈ Q, x.length ≤ 1000000 := fun x hx => by have := sumL_mem Q hx; omega
            have c5 := refGRight_c hA K S hst R V N M P Q (by omega) ⟨by simp only; omega, by simp only; omega, by simp only; omega⟩ ⟨by omega, hps⟩ ⟨by omega, hqs⟩
            cases e5 : rightGr K R V N M P Q with
            | false =>
              rw [e5, hid_eq hA (α := Bool)] at c5
              refine ⟨false, ?_, fun h => by cases h⟩
              refine PureCalls.of Tryz.func6 rfl (by kernel_rfl) rfl ?_
              try first | refine AOLg.of [] ?_ | refine QSg.of [] ?_
              repeat' (first | (refine AWp.pass ?_; first | refine AWp.seq ?_ | refine AWp.block ?_ | refine AWp.skip ?_ | refine AWp.regG [] Zc ?_ | refine AWp.cond_t rfl ?_ | refine AWp.cond_f rfl ?_ | (refine AWp.cond rfl ?_ ?_ <;> intro hc <;> (try rw [hc]) <;> ((try simp only [zn] at hc) <;> (try simp (disch := omega) only [zz hA, zb, zy, reduceCtorEq, Bool.false_eq_true, Int.reduceLT, Int.reduceLE, Int.reduceNeg] at hc) <;> (try simp only [zw] at hc)) <;> (try (exfalso; omega))) | refine AWp.exit ?_ | refine AWp.ret ⟨.inr rfl, _, RetOk.ev tabOk Zc, ?_⟩) | (refine AOLg.pass ?_; refine AOLg.nx hA tabOk Zc ?_; first | refine NX.done ?_ | refine NX.gt ?_ | refine NX.gf ?_ | (refine NX.gs ?_ ?_ <;> intro hc <;> rw [hc] <;> ((try simp only [zn] at hc) <;> (try simp (disch := omega) only [zz hA, zb, zy, reduceCtorEq, Bool.false_eq_true, Int.reduceLT, Int.reduceLE, Int.reduceNeg] at hc) <;> (try simp only [zw] at hc)) <;> (try (exfalso; omega))) | (refine NX.kC ?_; first | (with_reducible refine NX.call (c1) ?_) | (with_reducible refine NX.call (c2) ?_) | (with_reducible refine NX.call (c3) ?_) | (with_reducible refine NX.call (c4) ?_) | (with_reducible refine NX.call (c5) ?_) | ((first | refine NX.call (c1) ?_ | refine NX.call (c2) ?_ | refine NX.call (c3) ?_ | refine NX.call (c4) ?_ | refine NX.call (c5) ?_)) | fail) | (refine NX.kO ?_; (first | refine NX.callO (c1) (by simp [allEq]) rfl ?_ | refine NX.callO (c2) (by simp [allEq]) rfl ?_ | refine NX.callO (c3) (by simp [allEq]) rfl ?_ | refine NX.callO (c4) (by simp [allEq]) rfl ?_ | refine NX.callO (c5) (by simp [allEq]) rfl ?_)) | refine NX.k 10 (NX.one Z10 ?_) | refine NX.k 14 (NX.one Z14 ?_) | refine NX.raw ?_) | refine Thn.exit ?_ | refine Blk.here ?_ | refine Blk.other (by decide) ?_ | refine ⟨.inl rfl, _, RetOk.ev tabOk Zc, ?_⟩ | fail)
              all_goals exact Ze
            | true =>
              rw [e5, hid_eq hA (α := Bool)] at c5
              have c6 := refAll_c hA K S R V N M P Q (by omega)
              have hru : RightU V R := by
                have := e5
                unfold rightGr at this
                simp only [Bool.and_eq_true] at this
                exact (rightB_iff V R).1 this.1.1
              refine ⟨allV K V.length, ?_, fun h => ⟨hst, hru, h, hfew, e5⟩⟩
              rw [hid_eq hA (α := Bool)] at c6
              generalize allV K V.length = b at *
              refine PureCalls.of Tryz.func6 rfl (by kernel_rfl) rfl ?_
              try first | refine AOLg.of [] ?_ | refine QSg.of [] ?_
              repeat' (first | (refine AWp.pass ?_; first | refine AWp.seq ?_ | refine AWp.block ?_ | refine AWp.skip ?_ | refine AWp.regG [] Zc ?_ | refine AWp.cond_t rfl ?_ | refine AWp.cond_f rfl ?_ | (refine AWp.cond rfl ?_ ?_ <;> intro hc <;> (try rw [hc]) <;> ((try simp only [zn] at hc) <;> (try simp (disch := omega) only [zz hA, zb, zy, reduceCtorEq, Bool.false_eq_true, Int.reduceLT, Int.reduceLE, Int.reduceNeg] at hc) <;> (try simp only [zw] at hc)) <;> (try (exfalso; omega))) | refine AWp.exit ?_ | refine AWp.ret ⟨.inr rfl, _, RetOk.ev tabOk Zc, ?_⟩) | (refine AOLg.pass ?_; refine AOLg.nx hA tabOk Zc ?_; first | refine NX.done ?_ | refine NX.gt ?_ | refine NX.gf ?_ | (refine NX.gs ?_ ?_ <;> intro hc <;> rw [hc] <;> ((try simp only [zn] at hc) <;> (try simp (disch := omega) only [zz hA, zb, zy, reduceCtorEq, Bool.false_eq_true, Int.reduceLT, Int.reduceLE, Int.reduceNeg] at hc) <;> (try simp only [zw] at hc)) <;> (try (exfalso; omega))) | (refine NX.kC ?_; first | (with_reducible refine NX.call (c1) ?_) | (with_reducible refine NX.call (c2) ?_) | (with_reducible refine NX.call (c3) ?_) | (with_reducible refine NX.call (c4) ?_) | (with_reducible refine NX.call (c5) ?_) | (with_reducible refine NX.call (c6) ?_) | ((first | refine NX.call (c1) ?_ | refine NX.call (c2) ?_ | refine NX.call (c3) ?_ | refine NX.call (c4) ?_ | refine NX.call (c5) ?_ | refine NX.call (c6) ?_)) | fail) | (refine NX.kO ?_; (first | refine NX.callO (c1) (by simp [allEq]) rfl ?_ | refine NX.callO (c2) (by simp [allEq]) rfl ?_ | refine NX.callO (c3) (by simp [allEq]) rfl ?_ | refine NX.callO (c4) (by simp [allEq]) rfl ?_ | refine NX.callO (c5) (by simp [allEq]) rfl ?_ | refine NX.callO (c6) (by simp [allEq]) rfl ?_)) | refine NX.k 10 (NX.one Z10 ?_) | refine NX.k 14 (NX.one Z14 ?_) | refine NX.raw ?_) | refine Thn.exit ?_ | refine Blk.here ?_ | refine Blk.other (by decide) ?_ | refine ⟨.inl rfl, _, RetOk.ev tabOk Zc, ?_⟩ | fail)
              all_goals first | exact Ze | (refine rPV_then (by conv => lhs; cbv) ?_; simp_all) | (refine rPV_then (by conv => lhs; cbv) ?_; rfl)
  · refine ⟨false, ?_, fun h => by cases h⟩
    refine PureCalls.of Tryz.func6 rfl (by kernel_rfl) rfl ?_
    try first | refine AOLg.of [] ?_ | refine QSg.of [] ?_
    repeat' (first | (refine AWp.pass ?_; first | refine AWp.seq ?_ | refine AWp.block ?_ | refine AWp.skip ?_ | refine AWp.regG [] Zc ?_ | refine AWp.cond_t rfl ?_ | refine AWp.cond_f rfl ?_ | (refine AWp.cond rfl ?_ ?_ <;> intro hc <;> (try rw [hc]) <;> ((try simp only [zn] at hc) <;> (try simp (disch := omega) only [zz hA, zb, zy, reduceCtorEq, Bool.false_eq_true, Int.reduceLT, Int.reduceLE, Int.reduceNeg] at hc) <;> (try simp only [zw] at hc)) <;> (try (exfalso; omega))) | refine AWp.exit ?_ | refine AWp.ret ⟨.inr rfl, _, RetOk.ev tabOk Zc, ?_⟩) | (refine AOLg.pass ?_; refine AOLg.nx hA tabOk Zc ?_; first | refine NX.done ?_ | refine NX.gt ?_ | refine NX.gf ?_ | (refine NX.gs ?_ ?_ <;> intro hc <;> rw [hc] <;> ((try simp only [zn] at hc) <;> (try simp (disch := omega) only [zz hA, zb, zy, reduceCtorEq, Bool.false_eq_true, Int.reduceLT, Int.reduceLE, Int.reduceNeg] at hc) <;> (try simp only [zw] at hc)) <;> (try (exfalso; omega))) | refine NX.k 10 (NX.one Z10 ?_) | refine NX.k 14 (NX.one Z14 ?_) | refine NX.raw ?_) | refine Thn.exit ?_ | refine Blk.here ?_ | refine Blk.other (by decide) ?_ | refine ⟨.inl rfl, _, RetOk.ev tabOk Zc, ?_⟩ | fail)
    all_goals exact Ze
end Go.Proofs.YtkkjlmcnfoncdaaGreat.Aw

/- The abstract walk, part 49: nothing appended; an exact nil of another size. -/
set_option linter.unusedVariables false
set_option linter.unusedSimpArgs false
namespace Go.Proofs.YtkkjlmcnfoncdaaGreat.Aw
open Go Go.RowKit
theorem does_appendNil {P : Program} {s : St} (t ty e : TypeId) (x y : Operand) (sz sz' : Nat) (ex : Bool) (xs : List (List IC)) (ht : (tyi P t).there = true) (hk : (tyi P t).k = .slice e) (hsz : (tyi P e).size = sz) (hz : (tyi P e).zero.isSome = true)
    (hx : s.ev x = .ic (.sl sz' true xs)) (hs' : sz' = sz ∨ xs = []) (hy : s.ev y = .ic (.sl sz ex [])) :
    Does P s (bcall (call1 .append #[x, y] #[t, t]) ty) (.ic (.sl sz true xs)) s.st := fun G g w a hrel => by
  have h1 := hrel.ev x
  rw [hx] at h1
  have h2 := hrel.ev y
  rw [hy] at h2
  have hu := tk_slice hk
  have hthere := there_elem ht hu
  obtain ⟨i0, hi0⟩ := info_there hthere
  have hsize : i0.size = sz := by have : P.cellsOf e = sz := hsz; simpa [Program.cellsOf, hi0] using this
  obtain ⟨z, hz0⟩ : ∃ z, i0.zero = some z := by
    simp only [tyi, hi0, Option.bind_some, Option.isSome_map] at hz
    exact Option.isSome_iff_exists.1 hz
  have i1 : IR w (Good G s.st g) (.sl sz true xs) (a.eval x) := by
    rcases hs' with rfl | rfl
    · exact h1.ic_inv
    · exact h1.ic_inv.nil_sz
  obtain ⟨A, c, cs, ev, hlc, hcm, hcx, hf, hcell⟩ := i1.flat
  obtain ⟨ds, hsrc, hfd⟩ := src_of (s := s.st) (g := g) hu h2.ic_inv
  obtain rfl := hcx rfl
  have hds : ds = [] := by have := hfd.len; simp at this; exact this
  subst hds
  refine ⟨.value (.slice A xs.length xs.length), _, g, w, ?_, .inl rfl, .refl _ _ _, hrel.sr, ?_⟩
  · have hcells := hsrc.cells
    simp only [List.length_nil] at hcells
    cases A with
    | none => simp [bcall, resolve, invoke, builtin, ev, Builtin.append_, run_underlying hu, sizeOf, typeInfo, hi0, hsrc.len, hsize, hcells]
    | some ad => simp [bcall, resolve, invoke, builtin, ev, Builtin.append_, run_underlying hu, sizeOf, typeInfo, hi0, hsrc.len, hsize, hcells, storeCells]
  · rw [← ev]
    exact .ic _ _ i1
theorem One.appendNil {r : Option Nat} {P : Program} {ops : Array Oper} {i : Nat} {s : St} {tab : List TI} (hT : TabOk P tab) {t e : TypeId} {j : TI} {x y : Operand} {ex : Bool} {sz' : Nat} {ys : List (List IC)} (h : opAt ops i s = some (.call { callee := .builtin .append, args := #[x, y], argTypes := #[t, t] })) (ht : slT tab t = some (e, j))
    (hj : j.zero.isSome = true) (hx : s.ev x = .ic (.sl sz' true [])) (hy : s.ev y = .ic (.sl j.size ex ys)) (hr : ys = []) :
    One r P ops i s (.ic (.sl j.size true [])) s.st := by
  subst hr
  obtain ⟨g1, g2, rfl⟩ := slT_ok hT ht
  exact .does h rfl fun o hop => (does_appendNil t o.type e x y _ sz' ex [] g1 g2 rfl hj hx (.inr rfl) hy).congr fun ρ => by simp only [execOp, hop, bcall, call1]
theorem One.weakE {r : Option Nat} {P : Program} {ops : Array Oper} {i : Nat} {s : St} {sz : Nat} {ex : Bool} {xs : List (List IC)} {st : List AObj} (h : One r P ops i s (.ic (.sl sz ex xs)) st) : One r P ops i s (.ic (.sl sz false xs)) st := by
  intro rest Q hq
  refine h rest Q ?_
  generalize dstOf ops i = d at hq
  cases d with
  | none => exact hq
  | some d =>
    intro G g w a QQ hr kk
    refine hq G g w a QQ ⟨fun t => ?_, hr.size, hr.sr⟩ kk
    have ht := hr.slots t
    simp only [putS, St.get, look] at ht ⊢
    cases hb : Nat.beq d t with
    | true =>
      simp only [hb, cond_true] at ht ⊢
      exact .ic _ _ (ht.ic_inv.lx (.ex _ _ _))
    | false =>
      simp only [hb, cond_false] at ht ⊢
      exact ht
theorem One.weakN {r : Option Nat} {P : Program} {ops : Array Oper} {i : Nat} {s : St} {a : Nat} (c : Nat) {st : List AObj} (h : One r P ops i s (.ic (.sl a true [])) st) : One r P ops i s (.ic (.sl c true [])) st := by
  intro rest Q hq
  refine h rest Q ?_
  generalize dstOf ops i = d at hq
  cases d with
  | none => exact hq
  | some d =>
    intro G g w a QQ hr kk
    refine hq G g w a QQ ⟨fun t => ?_, hr.size, hr.sr⟩ kk
    have ht := hr.slots t
    simp only [putS, St.get, look] at ht ⊢
    cases hb : Nat.beq d t with
    | true =>
      simp only [hb, cond_true] at ht ⊢
      exact .ic _ _ ht.ic_inv.nil_sz
    | false =>
      simp only [hb, cond_false] at ht ⊢
      exact ht
end Go.Proofs.YtkkjlmcnfoncdaaGreat.Aw

/- The document's example of layer 12, part 1: its store; what lays a place into an empty row. -/
set_option linter.unusedVariables false
set_option linter.unusedSimpArgs false
set_option linter.unusedSectionVars false
namespace Go.Proofs.YtkkjlmcnfoncdaaGreat.Aw
open Go Go.RowKit
set_option maxRecDepth 10000
attribute [local irreducible] AWp AOL QS One AOLg QSg NX QX TRg TX AllO Fin3
attribute [local irreducible] W.TRg W.TX W.AllO W.Fin3
def K4 : List (List Int) := [[0, 0, 0], [1, 0, 0], [2, 0, 0], [2, 1, 0]]
theorem k4_ok : StK K4 (layM K4) where
  ok := ⟨by decide +kernel, by decide +kernel, by decide +kernel⟩
  lay := rfl
  len := by decide +kernel
  keys := by decide +kernel
theorem v2_right : RightU [0, 1] [] := (rightB_iff _ _).1 (by decide +kernel)
variable {A : Ar} (hA : A = real)
include hA
theorem k4_rows : ILxr [[.sl 1 true [[.lit (.int .i64 0)], [.lit (.int .i64 0)], [.lit (.int .i64 0)]]], [.sl 1 true [[.lit (.int .i64 1)], [.lit (.int .i64 0)], [.lit (.int .i64 0)]]], [.sl 1 true [[.lit (.int .i64 2)], [.lit (.int .i64 0)], [.lit (.int .i64 0)]]], [.sl 1 true [[.lit (.int .i64 2)], [.lit (.int .i64 1)], [.lit (.int .i64 0)]]]] (hid A (List.map (encK A) K4)) := by
  rw [hid_eq hA, show List.map (encK A) K4 = [[.sl 1 false (List.map encI [0, 0, 0])], [.sl 1 false (List.map encI [1, 0, 0])], [.sl 1 false (List.map encI [2, 0, 0])], [.sl 1 false (List.map encI [2, 1, 0])]] by simp only [K4, List.map, encK, hid_eq hA]]
  exact .cons (.cons (.ex _ _ _) .nil) (.cons (.cons (.ex _ _ _) .nil) (.cons (.cons (.ex _ _ _) .nil) (.cons (.cons (.ex _ _ _) .nil) .nil)))
theorem two_c : PureCalls Tryz.prog 22 [] (keyedPV A K4 (layM K4)) := by
  have hl := refLay_c hA K4 (by decide +kernel)
  refine PureCalls.of Tryz.func22 rfl (by kernel_rfl) rfl ?_
  try first | refine AOLg.of [6] ?_ | refine QSg.of [6] ?_
  repeat' (first | (refine AWp.pass ?_; first | refine AWp.seq ?_ | refine AWp.block ?_ | refine AWp.skip ?_ | refine AWp.regG [6] Zc ?_ | refine AWp.cond_t rfl ?_ | refine AWp.cond_f rfl ?_ | (refine AWp.cond rfl ?_ ?_ <;> intro hc <;> (try rw [hc]) <;> ((try simp only [zn] at hc) <;> (try simp (disch := omega) only [zz hA, zb, zy, reduceCtorEq, Bool.false_eq_true, Int.reduceLT, Int.reduceLE, Int.reduceNeg] at hc) <;> (try simp only [zw] at hc)) <;> (try (exfalso; omega))) | refine AWp.exit ?_ | refine AWp.ret ⟨.inr rfl, _, RetOk.ev tabOk Zc, ?_⟩) | (refine AOLg.pass ?_; refine AOLg.nx hA tabOk Zc ?_; first | refine NX.done ?_ | refine NX.gt ?_ | refine NX.gf ?_ | (refine NX.gs ?_ ?_ <;> intro hc <;> rw [hc] <;> ((try simp only [zn] at hc) <;> (try simp (disch := omega) only [zz hA, zb, zy, reduceCtorEq, Bool.false_eq_true, Int.reduceLT, Int.reduceLE, Int.reduceNeg] at hc) <;> (try simp only [zw] at hc)) <;> (try (exfalso; omega))) | (refine NX.kC ?_; first | (with_reducible refine NX.call (hl) ?_) | ((first | refine NX.call (hl) ?_)) | fail) | (refine NX.kO ?_; (first | refine NX.callO (hl) (by simp [allEq]) rfl ?_)) | refine NX.k 15 (NX.one Z15 ?_) | refine NX.k 17 (NX.one Z17 ?_) | (refine NX.one (One.weakE (One.weakX (One.ev hA tabOk Zc) (k4_rows hA))) ?_) | refine NX.raw ?_) | refine Thn.exit ?_ | refine Blk.here ?_ | refine Blk.other (by decide) ?_ | refine ⟨.inl rfl, _, RetOk.ev tabOk Zc, ?_⟩ | fail)
  all_goals (refine rPV_then (by conv => lhs; cbv) ?_; rfl)
theorem cloneE_c (st : List AObj) : ACalls Tryz.prog 63 [.ic (.sl 1 false (hid A (List.map encI [])))] st (fun x st' => x = .ic (.sl 1 true []) ∧ st' = st) := by
  refine ACalls.of Tryz.func63 rfl (by kernel_rfl) rfl ?_
  try first | refine AOLg.of [] ?_ | refine QSg.of [] ?_
  repeat' (first | (refine AWp.pass ?_; first | refine AWp.seq ?_ | refine AWp.block ?_ | refine AWp.skip ?_ | refine AWp.regG [] Zc ?_ | refine AWp.cond_t rfl ?_ | refine AWp.cond_f rfl ?_ | (refine AWp.cond rfl ?_ ?_ <;> intro hc <;> (try rw [hc]) <;> ((try simp only [zn] at hc) <;> (try simp (disch := omega) only [zz hA, zb, zy, reduceCtorEq, Bool.false_eq_true, Int.reduceLT, Int.reduceLE, Int.reduceNeg] at hc) <;> (try simp only [zw] at hc)) <;> (try (exfalso; omega))) | refine AWp.exit ?_ | refine AWp.ret ⟨.inr rfl, _, RetOk.ev tabOk Zc, ?_⟩) | (refine AOLg.pass ?_; refine AOLg.nx hA tabOk Zc ?_; first | refine NX.done ?_ | refine NX.gt ?_ | refine NX.gf ?_ | (refine NX.gs ?_ ?_ <;> intro hc <;> rw [hc] <;> ((try simp only [zn] at hc) <;> (try simp (disch := omega) only [zz hA, zb, zy, reduceCtorEq, Bool.false_eq_true, Int.reduceLT, Int.reduceLE, Int.reduceNeg] at hc) <;> (try simp only [zw] at hc)) <;> (try (exfalso; omega))) | refine NX.k 8 (NX.one Z8 ?_) | refine NX.k 11 (NX.one Z11 ?_) | refine NX.k 17 (NX.one Z17 ?_) | refine NX.raw ?_) | refine Thn.exit ?_ | refine Blk.here ?_ | refine Blk.other (by decide) ?_ | refine ⟨.inl rfl, _, RetOk.ev tabOk Zc, ?_⟩ | fail)
  refine AOL.eqNil tabOk rfl rfl rfl ?_
  intro b hb
  cases b with
  | true =>
    try first | refine AOLg.of [2] ?_ | refine QSg.of [2] ?_
    repeat' (first | (refine AWp.pass ?_; first | refine AWp.seq ?_ | refine AWp.block ?_ | refine AWp.skip ?_ | refine AWp.regG [2] Zc ?_ | refine AWp.cond_t rfl ?_ | refine AWp.cond_f rfl ?_ | (refine AWp.cond rfl ?_ ?_ <;> intro hc <;> (try rw [hc]) <;> ((try simp only [zn] at hc) <;> (try simp (disch := omega) only [zz hA, zb, zy, reduceCtorEq, Bool.false_eq_true, Int.reduceLT, Int.reduceLE, Int.reduceNeg] at hc) <;> (try simp only [zw] at hc)) <;> (try (exfalso; omega))) | refine AWp.exit ?_ | refine AWp.ret ⟨.inr rfl, _, RetOk.ev tabOk Zc, ?_⟩) | (refine AOLg.pass ?_; refine AOLg.nx hA tabOk Zc ?_; first | refine NX.done ?_ | refine NX.gt ?_ | refine NX.gf ?_ | (refine NX.gs ?_ ?_ <;> intro hc <;> rw [hc] <;> ((try simp only [zn] at hc) <;> (try simp (disch := omega) only [zz hA, zb, zy, reduceCtorEq, Bool.false_eq_true, Int.reduceLT, Int.reduceLE, Int.reduceNeg] at hc) <;> (try simp only [zw] at hc)) <;> (try (exfalso; omega))) | refine NX.k 8 (NX.one Z8 ?_) | refine NX.k 11 (NX.one Z11 ?_) | refine NX.k 17 (NX.one Z17 ?_) | (refine NX.one (One.weakN 1 (One.ev hA tabOk Zc)) ?_) | refine NX.raw ?_) | refine Thn.exit ?_ | refine Blk.here ?_ | refine Blk.other (by decide) ?_ | refine ⟨.inl rfl, _, RetOk.ev tabOk Zc, ?_⟩ | fail)
    exact ⟨rfl, rfl⟩
  | false =>
    try first | refine AOLg.of [5, 7] ?_ | refine QSg.of [5, 7] ?_
    repeat' (first | (refine AWp.pass ?_; first | refine AWp.seq ?_ | refine AWp.block ?_ | refine AWp.skip ?_ | refine AWp.regG [5, 7] Zc ?_ | refine AWp.cond_t rfl ?_ | refine AWp.cond_f rfl ?_ | (refine AWp.cond rfl ?_ ?_ <;> intro hc <;> (try rw [hc]) <;> ((try simp only [zn] at hc) <;> (try simp (disch := omega) only [zz hA, zb, zy, reduceCtorEq, Bool.false_eq_true, Int.reduceLT, Int.reduceLE, Int.reduceNeg] at hc) <;> (try simp only [zw] at hc)) <;> (try (exfalso; omega))) | refine AWp.exit ?_ | refine AWp.ret ⟨.inr rfl, _, RetOk.ev tabOk Zc, ?_⟩) | (refine AOLg.pass ?_; refine AOLg.nx hA tabOk Zc ?_; first | refine NX.done ?_ | refine NX.gt ?_ | refine NX.gf ?_ | (refine NX.gs ?_ ?_ <;> intro hc <;> rw [hc] <;> ((try simp only [zn] at hc) <;> (try simp (disch := omega) only [zz hA, zb, zy, reduceCtorEq, Bool.false_eq_true, Int.reduceLT, Int.reduceLE, Int.reduceNeg] at hc) <;> (try simp only [zw] at hc)) <;> (try (exfalso; omega))) | refine NX.k 8 (NX.one Z8 ?_) | refine NX.k 11 (NX.one Z11 ?_) | refine NX.k 17 (NX.one Z17 ?_) | (refine NX.one (One.build0I tabOk rfl rfl) ?_) | (refine NX.one (One.appendNil tabOk rfl rfl rfl rfl rfl (by simp [hid_eq hA])) ?_) | refine NX.raw ?_) | refine Thn.exit ?_ | refine Blk.here ?_ | refine Blk.other (by decide) ?_ | refine ⟨.inl rfl, _, RetOk.ev tabOk Zc, ?_⟩ | fail)
    exact ⟨rfl, rfl⟩
theorem search_c (n : Int) : PureCalls Tryz.prog 121 [intsP A [], IP n] (.tup [IP 0, BP false]) := by
  refine PureCalls.of Tryz.func121 rfl (by kernel_rfl) rfl ?_
  try first | refine AOLg.of [] ?_ | refine QSg.of [] ?_
  repeat' (first | (refine AWp.pass ?_; first | refine AWp.seq ?_ | refine AWp.block ?_ | refine AWp.skip ?_ | refine AWp.regG [] Zc ?_ | refine AWp.cond_t rfl ?_ | refine AWp.cond_f rfl ?_ | (refine AWp.cond rfl ?_ ?_ <;> intro hc <;> (try rw [hc]) <;> ((try simp only [zn] at hc) <;> (try simp (disch := omega) only [zz hA, zb, zy, reduceCtorEq, Bool.false_eq_true, Int.reduceLT, Int.reduceLE, Int.reduceNeg] at hc) <;> (try simp only [zw] at hc)) <;> (try (exfalso; omega))) | refine AWp.exit ?_ | refine AWp.ret ⟨.inr rfl, _, RetOk.ev tabOk Zc, ?_⟩) | (refine AOLg.pass ?_; refine AOLg.nx hA tabOk Zc ?_; first | refine NX.done ?_ | refine NX.gt ?_ | refine NX.gf ?_ | (refine NX.gs ?_ ?_ <;> intro hc <;> rw [hc] <;> ((try simp only [zn] at hc) <;> (try simp (disch := omega) only [zz hA, zb, zy, reduceCtorEq, Bool.false_eq_true, Int.reduceLT, Int.reduceLE, Int.reduceNeg] at hc) <;> (try simp only [zw] at hc)) <;> (try (exfalso; omega))) | refine NX.k 1 (NX.one Z1 ?_) | refine NX.k 5 (NX.one Z5 ?_) | refine NX.k 7 (NX.one Z7 ?_) | refine NX.k 8 (NX.one Z8 ?_) | refine NX.k 10 (NX.one Z10 ?_) | refine NX.k 14 (NX.one Z14 ?_) | refine NX.raw ?_) | refine Thn.exit ?_ | refine Blk.here ?_ | refine Blk.other (by decide) ?_ | refine ⟨.inl rfl, _, RetOk.ev tabOk Zc, ?_⟩ | fail)
  refine AWp.loopU (fun k : Nat => [(7, .ic (.lit (.int .i64 0))), (8, .ic (.lit (.int .i64 0)))]) (fun _ => _) (fun k => 0) (fun k => True) 0 (by conv => lhs; cbv) trivial (by ((repeat' (first | exact subE.nil | refine subE.cons rfl ?_ | refine subE.int rfl ?_ ?_ | refine subE.bool rfl ?_ ?_ | refine subE.str rfl ?_ ?_ | refine subE.sl rfl ?_ ?_))) <;> simp [hA, real, hid, cN]) rfl ?_
  intro k _
  try first | refine AOLg.of [] ?_ | refine QSg.of [] ?_
  repeat' (first | (refine AWp.pass ?_; first | refine AWp.seq ?_ | refine AWp.block ?_ | refine AWp.skip ?_ | refine AWp.regG [] Zc ?_ | refine AWp.cond_t rfl ?_ | refine AWp.cond_f rfl ?_ | (refine AWp.cond rfl ?_ ?_ <;> intro hc <;> (try rw [hc]) <;> ((try simp only [zn] at hc) <;> (try simp (disch := omega) only [zz hA, zb, zy, reduceCtorEq, Bool.false_eq_true, Int.reduceLT, Int.reduceLE, Int.reduceNeg] at hc) <;> (try simp only [zw] at hc)) <;> (try (exfalso; omega))) | refine AWp.exit ?_ | refine AWp.ret ⟨.inr rfl, _, RetOk.ev tabOk Zc, ?_⟩) | (refine AOLg.pass ?_; refine AOLg.nx hA tabOk Zc ?_; first | refine NX.done ?_ | refine NX.gt ?_ | refine NX.gf ?_ | (refine NX.gs ?_ ?_ <;> intro hc <;> rw [hc] <;> ((try simp only [zn] at hc) <;> (try simp (disch := omega) only [zz hA, zb, zy, reduceCtorEq, Bool.false_eq_true, Int.reduceLT, Int.reduceLE, Int.reduceNeg] at hc) <;> (try simp only [zw] at hc)) <;> (try (exfalso; omega))) | refine NX.k 1 (NX.one Z1 ?_) | refine NX.k 5 (NX.one Z5 ?_) | refine NX.k 7 (NX.one Z7 ?_) | refine NX.k 8 (NX.one Z8 ?_) | refine NX.k 10 (NX.one Z10 ?_) | refine NX.k 14 (NX.one Z14 ?_) | refine NX.raw ?_) | refine Thn.exit ?_ | refine Blk.here ?_ | refine Blk.other (by decide) ?_ | refine ⟨.inl rfl, _, RetOk.ev tabOk Zc, ?_⟩ | fail)
  all_goals first | (exfalso; omega) | (refine rPV_then (by conv => lhs; cbv) ?_; rfl) | fail
theorem insert_c (st : List AObj) (n : Int) : ACalls Tryz.prog 122 [.ic (.sl 1 true []), .ic (.lit (.int .i64 0)), .ic (.sl 1 true [[.lit (.int .i64 n)]])] st (fun x st' => x = .ic (.sl 1 false (hid A (List.map encI [n]))) ∧ st' = st) := by
  refine ACalls.of Tryz.func122 rfl (by kernel_rfl) rfl ?_
  try first | refine AOLg.of [12, 25] ?_ | refine QSg.of [12, 25] ?_
  repeat' (first | (refine AWp.pass ?_; first | refine AWp.seq ?_ | refine AWp.block ?_ | refine AWp.skip ?_ | refine AWp.regG [12, 25] Zc ?_ | refine AWp.cond_t rfl ?_ | refine AWp.cond_f rfl ?_ | (refine AWp.cond rfl ?_ ?_ <;> intro hc <;> (try rw [hc]) <;> ((try simp only [zn] at hc) <;> (try simp (disch := omega) only [zz hA, zb, zy, reduceCtorEq, Bool.false_eq_true, Int.reduceLT, Int.reduceLE, Int.reduceNeg] at hc) <;> (try simp only [zw] at hc)) <;> (try (exfalso; omega))) | refine AWp.exit ?_ | refine AWp.ret ⟨.inr rfl, _, RetOk.ev tabOk Zc, ?_⟩ | refine AWp.drawVG [12, 25] rfl (by decide +kernel) Zc ?_) | (refine AOLg.pass ?_; refine AOLg.nx hA tabOk Zc ?_; first | refine NX.done ?_ | refine NX.gt ?_ | refine NX.gf ?_ | (refine NX.gs ?_ ?_ <;> intro hc <;> rw [hc] <;> ((try simp only [zn] at hc) <;> (try simp (disch := omega) only [zz hA, zb, zy, reduceCtorEq, Bool.false_eq_true, Int.reduceLT, Int.reduceLE, Int.reduceNeg] at hc) <;> (try simp only [zw] at hc)) <;> (try (exfalso; omega))) | refine NX.k 2 (NX.one Z2 ?_) | refine NX.k 7 (NX.one Z7 ?_) | refine NX.k 8 (NX.one Z8 ?_) | refine NX.k 10 (NX.one Z10 ?_) | refine NX.k 11 (NX.one Z11 ?_) | (refine NX.one (One.cut_l tabOk rfl rfl rfl rfl (by decide) (by decide)) ?_) | (refine NX.one (One.append tabOk rfl rfl rfl rfl (.inr rfl) rfl (Nat.le_of_ble_eq_true rfl) (Nat.le_of_ble_eq_true rfl)) ?_) | refine NX.raw ?_) | (refine TRg.pass ?_; refine TRg.nx hA tabOk Zc ?_; first | refine TX.done ?_ | refine TX.gt ?_ | refine TX.gf ?_ | (refine TX.gs ?_ ?_ <;> intro hc <;> rw [hc] <;> ((try simp only [zn] at hc) <;> (try simp (disch := omega) only [zz hA, zb, zy, reduceCtorEq, Bool.false_eq_true, Int.reduceLT, Int.reduceLE, Int.reduceNeg] at hc) <;> (try simp only [zw] at hc)) <;> (try (exfalso; omega))) | refine TX.k 2 (TX.one Z2 ?_) | refine TX.k 7 (TX.one Z7 ?_) | refine TX.k 8 (TX.one Z8 ?_) | refine TX.k 10 (TX.one Z10 ?_) | refine TX.k 11 (TX.one Z11 ?_) | (refine TX.one (One.cut_l tabOk rfl rfl rfl rfl (by decide) (by decide)) ?_) | (refine TX.one (One.append tabOk rfl rfl rfl rfl (.inr rfl) rfl (Nat.le_of_ble_eq_true rfl) (Nat.le_of_ble_eq_true rfl)) ?_) | refine TX.raw ?_) | refine Fin3.of Zc (by repeat' (first | exact True.intro | exact rfl | refine And.intro ?_ ?_)) ?_ ?_ | (refine AllO.pass ?_; first | exact AllO.nil | (refine AllO.cons (One.ev hA tabOk ?_) ?_ <;> (first | refine AllO.pass ?_ | ((conv => lhs; cbv); done))) | (refine AllO.cons (One.skipB ?_) ?_ <;> (first | refine AllO.pass ?_ | ((conv => lhs; cbv); done))) | refine AllO.consX ZX rfl rfl ?_ | ((refine AllO.consX (One.cut_l tabOk rfl rfl rfl rfl (by decide) (by decide)) rfl rfl ?_) <;> (first | refine AllO.pass ?_ | exact Zd))) | refine Thn.exit ?_ | refine Blk.here ?_ | refine Blk.other (by decide) ?_ | refine ⟨.inl rfl, _, RetOk.ev tabOk Zc, ?_⟩ | fail)
  all_goals first | (exfalso; omega) | exact ⟨by simp [hid_eq hA, encI], rfl⟩ | fail
def K2 : List (List Int) := [[], []]
def K2' : List (List Int) := [[], [2]]
theorem laid_c : PureCalls Tryz.prog 93 [slP A 1 (encK A) K2, IP 1, IP 2] (.tup [slP A 1 (encK A) K2', BP true]) := by
  have hs : ∀ q : List (List IC), q = hid A (List.map encI []) → PureCalls Tryz.prog 121 [.c (.sl 1 false q), IP 2] (.tup [IP 0, BP false]) := by rintro q rfl; exact search_c hA 2
  have hcl : ∀ (st : List AObj) (q : List (List IC)), q = hid A (List.map encI []) → ACalls Tryz.prog 63 [.ic (.sl 1 false q)] st (fun x st' => x = .ic (.sl 1 true []) ∧ st' = st) := by rintro st q rfl; exact cloneE_c hA st
  have hK2 : K2.length = 2 := rfl
  refine PureCalls.of Tryz.func93 rfl (by kernel_rfl) rfl ?_
  try first | refine AOLg.of [24, 27] ?_ | refine QSg.of [24, 27] ?_
  repeat' (first | (refine AWp.pass ?_; first | refine AWp.seq ?_ | refine AWp.block ?_ | refine AWp.skip ?_ | refine AWp.regG [24, 27] Zc ?_ | refine AWp.cond_t rfl ?_ | refine AWp.cond_f rfl ?_ | (refine AWp.cond rfl ?_ ?_ <;> intro hc <;> (try rw [hc]) <;> ((try simp only [zn] at hc) <;> (try simp (disch := omega) only [zz hA, zb, zy, reduceCtorEq, Bool.false_eq_true, Int.reduceLT, Int.reduceLE, Int.reduceNeg] at hc) <;> (try simp only [zw] at hc)) <;> (try (exfalso; omega))) | refine AWp.exit ?_ | refine AWp.ret ⟨.inr rfl, _, RetOk.ev tabOk Zc, ?_⟩) | (refine AOLg.pass ?_; refine AOLg.nx hA tabOk Zc ?_; first | refine NX.done ?_ | refine NX.gt ?_ | refine NX.gf ?_ | (refine NX.gs ?_ ?_ <;> intro hc <;> rw [hc] <;> ((try simp only [zn] at hc) <;> (try simp (disch := omega) only [zz hA, zb, zy, reduceCtorEq, Bool.false_eq_true, Int.reduceLT, Int.reduceLE, Int.reduceNeg] at hc) <;> (try simp only [zw] at hc)) <;> (try (exfalso; omega))) | (refine NX.kC ?_; first | (with_reducible refine NX.call (hs _ (by simp only [hid_eq hA]; rfl)) ?_) | ((first | refine NX.call (hs _ (by simp only [hid_eq hA]; rfl)) ?_)) | fail) | (refine NX.kO ?_; (first | refine NX.callO (hs _ (by simp only [hid_eq hA]; rfl)) (by simp [allEq]) rfl ?_)) | refine NX.k 1 (NX.one Z1 ?_) | refine NX.k 10 (NX.one Z10 ?_) | refine NX.k 14 (NX.one Z14 ?_) | refine NX.k 15 (NX.one Z15 ?_) | refine NX.k 16 (NX.one Z16 ?_) | refine NX.k 17 (NX.one Z17 ?_) | (refine NX.one (One.makeM hA tabOk (fun _ : Unit => [IC.sl 0 true []]) () rfl rfl rfl rfl rfl rfl rfl Zd Zd Zd) ?_) | (refine NX.one (One.copyOwnM hA tabOk rfl rfl rfl rfl rfl rfl (by simp [hid_eq hA, hA, real, K2])) ?_) | (refine NX.one (One.scallT rfl rfl (hcl _ _ (by simp only [hid_eq hA]; rfl))) ?_) | (refine NX.one (One.scallT rfl rfl (insert_c hA _ 2)) ?_) | refine NX.raw ?_) | refine Thn.exit ?_ | refine Blk.here ?_ | refine Blk.other (by decide) ?_ | refine ⟨.inl rfl, _, RetOk.ev tabOk Zc, ?_⟩ | fail)
  refine rPV_then (by conv => lhs; cbv) ?_
  simp only [hid_eq hA]
  show _ = PV.tup [.c (.sl 1 false (hid A (List.map (encK A) K2'))), _]
  rw [hid_eq hA]
  rfl
end Go.Proofs.YtkkjlmcnfoncdaaGreat.Aw

/- The document's example of layer 12, part 2: its constraint. -/
set_option linter.unusedVariables false
set_option linter.unusedSimpArgs false
set_option linter.unusedSectionVars false
namespace Go.Proofs.YtkkjlmcnfoncdaaGreat.Aw
open Go Go.RowKit
set_option maxRecDepth 10000
attribute [local irreducible] AWp AOL QS One AOLg QSg NX QX TRg TX AllO Fin3
attribute [local irreducible] W.TRg W.TX W.AllO W.Fin3
abbrev gP2 (A : Ar) (P : List (List Int)) : PV := grP A [] [0, 1] [(-1, 0), (-1, 0)] [] P K2
variable {A : Ar} (hA : A = real)
include hA
theorem below_c : PureCalls Tryz.prog 56 [keyedPV A K4 (layM K4), gP2 A K2, IP 2, IP 1] (.tup [gP2 A K2', .c (.sl 0 true []), BP true]) := by
  have hl := laid_c hA
  have e1 : (K2.getD (Int.toNat 1) default).length = 0 := rfl
  have hK2 : K2.length = 2 := rfl
  refine PureCalls.of Tryz.func56 rfl (by kernel_rfl) rfl ?_
  try first | refine AOLg.of [] ?_ | refine QSg.of [] ?_
  repeat' (first | (refine AWp.pass ?_; first | refine AWp.seq ?_ | refine AWp.block ?_ | refine AWp.skip ?_ | refine AWp.regG [] Zc ?_ | refine AWp.cond_t rfl ?_ | refine AWp.cond_f rfl ?_ | (refine AWp.cond rfl ?_ ?_ <;> intro hc <;> (try rw [hc]) <;> ((try simp only [zn] at hc) <;> (try simp (disch := omega) only [zz hA, zb, zy, reduceCtorEq, Bool.false_eq_true, Int.reduceLT, Int.reduceLE, Int.reduceNeg] at hc) <;> (try simp only [zw] at hc)) <;> (try (exfalso; omega))) | refine AWp.exit ?_ | refine AWp.ret ⟨.inr rfl, _, RetOk.ev tabOk Zc, ?_⟩) | (refine AOLg.pass ?_; refine AOLg.nx hA tabOk Zc ?_; first | refine NX.done ?_ | refine NX.gt ?_ | refine NX.gf ?_ | (refine NX.gs ?_ ?_ <;> intro hc <;> rw [hc] <;> ((try simp only [zn] at hc) <;> (try simp (disch := omega) only [zz hA, zb, zy, reduceCtorEq, Bool.false_eq_true, Int.reduceLT, Int.reduceLE, Int.reduceNeg] at hc) <;> (try simp only [zw] at hc)) <;> (try (exfalso; omega))) | (refine NX.kC ?_; first | (with_reducible refine NX.call (hl) ?_) | ((first | refine NX.call (hl) ?_)) | fail) | (refine NX.kO ?_; (first | refine NX.callO (hl) (by simp [allEq]) rfl ?_)) | refine NX.k 1 (NX.one Z1 ?_) | refine NX.k 7 (NX.one Z7 ?_) | refine NX.k 10 (NX.one Z10 ?_) | refine NX.k 11 (NX.one Z11 ?_) | refine NX.k 14 (NX.one Z14 ?_) | refine NX.k 15 (NX.one Z15 ?_) | refine NX.k 17 (NX.one Z17 ?_) | refine NX.k 18 (NX.one Z18 ?_) | refine NX.raw ?_) | refine Thn.exit ?_ | refine Blk.here ?_ | refine Blk.other (by decide) ?_ | refine ⟨.inl rfl, _, RetOk.ev tabOk Zc, ?_⟩ | fail)
  refine AWp.loopU (fun k : Nat => [(35, .ic (.lit (.int .i64 0))), (13, .ic (.sl 0 true []))]) (fun _ => _) (fun k => 0) (fun k => True) 0 (by conv => lhs; cbv) trivial (by ((repeat' (first | exact subE.nil | refine subE.cons rfl ?_ | refine subE.int rfl ?_ ?_ | refine subE.bool rfl ?_ ?_ | refine subE.str rfl ?_ ?_ | refine subE.sl rfl ?_ ?_))) <;> simp [hA, real, hid, cN]) rfl ?_
  intro k _
  try first | refine AOLg.of [] ?_ | refine QSg.of [] ?_
  repeat' (first | (refine AWp.pass ?_; first | refine AWp.seq ?_ | refine AWp.block ?_ | refine AWp.skip ?_ | refine AWp.regG [] Zc ?_ | refine AWp.cond_t rfl ?_ | refine AWp.cond_f rfl ?_ | (refine AWp.cond rfl ?_ ?_ <;> intro hc <;> (try rw [hc]) <;> ((try simp only [zn] at hc) <;> (try simp (disch := omega) only [zz hA, zb, zy, reduceCtorEq, Bool.false_eq_true, Int.reduceLT, Int.reduceLE, Int.reduceNeg] at hc) <;> (try simp only [zw] at hc)) <;> (try (exfalso; omega))) | refine AWp.exit ?_ | refine AWp.ret ⟨.inr rfl, _, RetOk.ev tabOk Zc, ?_⟩) | (refine AOLg.pass ?_; refine AOLg.nx hA tabOk Zc ?_; first | refine NX.done ?_ | refine NX.gt ?_ | refine NX.gf ?_ | (refine NX.gs ?_ ?_ <;> intro hc <;> rw [hc] <;> ((try simp only [zn] at hc) <;> (try simp (disch := omega) only [zz hA, zb, zy, reduceCtorEq, Bool.false_eq_true, Int.reduceLT, Int.reduceLE, Int.reduceNeg] at hc) <;> (try simp only [zw] at hc)) <;> (try (exfalso; omega))) | refine NX.k 1 (NX.one Z1 ?_) | refine NX.k 7 (NX.one Z7 ?_) | refine NX.k 10 (NX.one Z10 ?_) | refine NX.k 11 (NX.one Z11 ?_) | refine NX.k 14 (NX.one Z14 ?_) | refine NX.k 15 (NX.one Z15 ?_) | refine NX.k 17 (NX.one Z17 ?_) | refine NX.k 18 (NX.one Z18 ?_) | refine NX.raw ?_) | refine Thn.exit ?_ | refine Blk.here ?_ | refine Blk.other (by decide) ?_ | refine ⟨.inl rfl, _, RetOk.ev tabOk Zc, ?_⟩ | fail)
  all_goals first | (exfalso; omega) | (refine rPV_then (by conv => lhs; cbv) ?_; rfl) | fail
theorem new_c : PureCalls Tryz.prog 23 [intsP A [], IP 2] (gP2 A K2) := by
  have hm := more_c hA [] [] [] [] [] [] 2 (by decide) (by decide) (by decide) (by decide) (by decide)
  have e : (grP A [] (moreV [] (2 - (([] : List Int).length : Int)).toNat) (moreN [] (2 - (([] : List Int).length : Int)).toNat) [] (moreP [] (2 - (([] : List Int).length : Int)).toNat) (moreP [] (2 - (([] : List Int).length : Int)).toNat)) = gP2 A K2 := rfl
  rw [e] at hm
  refine PureCalls.of Tryz.func23 rfl (by kernel_rfl) rfl ?_
  try first | refine AOLg.of [] ?_ | refine QSg.of [] ?_
  repeat' (first | (refine AWp.pass ?_; first | refine AWp.seq ?_ | refine AWp.block ?_ | refine AWp.skip ?_ | refine AWp.regG [] Zc ?_ | refine AWp.cond_t rfl ?_ | refine AWp.cond_f rfl ?_ | (refine AWp.cond rfl ?_ ?_ <;> intro hc <;> (try rw [hc]) <;> ((try simp only [zn] at hc) <;> (try simp (disch := omega) only [zz hA, zb, zy, reduceCtorEq, Bool.false_eq_true, Int.reduceLT, Int.reduceLE, Int.reduceNeg] at hc) <;> (try simp only [zw] at hc)) <;> (try (exfalso; omega))) | refine AWp.exit ?_ | refine AWp.ret ⟨.inr rfl, _, RetOk.ev tabOk Zc, ?_⟩) | (refine AOLg.pass ?_; refine AOLg.nx hA tabOk Zc ?_; first | refine NX.done ?_ | refine NX.gt ?_ | refine NX.gf ?_ | (refine NX.gs ?_ ?_ <;> intro hc <;> rw [hc] <;> ((try simp only [zn] at hc) <;> (try simp (disch := omega) only [zz hA, zb, zy, reduceCtorEq, Bool.false_eq_true, Int.reduceLT, Int.reduceLE, Int.reduceNeg] at hc) <;> (try simp only [zw] at hc)) <;> (try (exfalso; omega))) | (refine NX.kC ?_; first | (with_reducible refine NX.call (hm) ?_) | (refine NX.call (PureCalls.weaken (hm) ?_) ?_ <;> (first | refine AOLg.pass ?_ | ((with_reducible repeat' (first | exact PLes.nil | exact ILes.nil | refine PLes.cons (PLe.refl _) ?_ | refine PLes.cons (PLe.c (ILe.nilM hA _ _ _ _)) ?_ | refine PLes.cons (PLe.agg ?_) ?_ | refine ILes.cons (ILe.refl _) ?_ | refine ILes.cons (ILe.nilM hA _ _ _ _) ?_)); done) | exact Zd)) | ((first | refine NX.call (hm) ?_)) | fail) | (refine NX.kO ?_; (first | refine NX.callO (hm) (by simp [allEq]) rfl ?_)) | refine NX.k 15 (NX.one Z15 ?_) | refine NX.raw ?_) | refine Thn.exit ?_ | refine Blk.here ?_ | refine Blk.other (by decide) ?_ | refine ⟨.inl rfl, _, RetOk.ev tabOk Zc, ?_⟩ | fail)
  all_goals first | (refine rPV_then (by conv => lhs; cbv) ?_; rfl) | fail
theorem add_c2 : PureCalls Tryz.prog 21 [keyedPV A K4 (layM K4), gP2 A K2, .agg [.lit (.int .i64 2), .lit (.int .i64 3)]] (.tup [gP2 A K2', .c (.sl 0 true []), BP true]) := by
  have hb := below_c hA
  have r2 := rep_c hA K4 (layM K4) k4_ok [] [0, 1] [(-1, 0), (-1, 0)] [] K2 K2 v2_right 2
  have r3 := rep_c hA K4 (layM K4) k4_ok [] [0, 1] [(-1, 0), (-1, 0)] [] K2 K2 v2_right 3
  have v2 := variable_c hA K4 (layM K4) k4_ok [] [0, 1] [(-1, 0), (-1, 0)] [] K2 K2 2
  have v3 := variable_c hA K4 (layM K4) k4_ok [] [0, 1] [(-1, 0), (-1, 0)] [] K2 K2 3
  have hls := less_c hA [] 1 0 (by decide)
  rw [show repM K4 [0, 1] 2 = 2 by decide +kernel, hid_eq hA (α := Int)] at r2
  rw [show repM K4 [0, 1] 3 = 3 by decide +kernel, hid_eq hA (α := Int)] at r3
  rw [show symM K4 2 = 0 by decide +kernel, show decide (0 ≤ numM K4 ([0, 1] : List Int).length 2) = true by decide +kernel, hid_eq hA (α := Int), hid_eq hA (α := Bool)] at v2
  rw [show symM K4 3 = 1 by decide +kernel, show decide (0 ≤ numM K4 ([0, 1] : List Int).length 3) = true by decide +kernel, hid_eq hA (α := Int), hid_eq hA (α := Bool)] at v3
  rw [show lessM [] 1 0 = false by decide +kernel, hid_eq hA (α := Bool)] at hls
  refine PureCalls.of Tryz.func21 rfl (by kernel_rfl) rfl ?_
  try first | refine AOLg.of [] ?_ | refine QSg.of [] ?_
  repeat' (first | (refine AWp.pass ?_; first | refine AWp.seq ?_ | refine AWp.block ?_ | refine AWp.skip ?_ | refine AWp.regG [] Zc ?_ | refine AWp.cond_t rfl ?_ | refine AWp.cond_f rfl ?_ | (refine AWp.cond rfl ?_ ?_ <;> intro hc <;> (try rw [hc]) <;> ((try simp only [zn] at hc) <;> (try simp (disch := omega) only [zz hA, zb, zy, reduceCtorEq, Bool.false_eq_true, Int.reduceLT, Int.reduceLE, Int.reduceNeg] at hc) <;> (try simp only [zw] at hc)) <;> (try (exfalso; omega))) | refine AWp.exit ?_ | refine AWp.ret ⟨.inr rfl, _, RetOk.ev tabOk Zc, ?_⟩ | refine AWp.drawVG [] rfl (by decide +kernel) Zc ?_) | (refine AOLg.pass ?_; refine AOLg.nx hA tabOk Zc ?_; first | refine NX.done ?_ | refine NX.gt ?_ | refine NX.gf ?_ | (refine NX.gs ?_ ?_ <;> intro hc <;> rw [hc] <;> ((try simp only [zn] at hc) <;> (try simp (disch := omega) only [zz hA, zb, zy, reduceCtorEq, Bool.false_eq_true, Int.reduceLT, Int.reduceLE, Int.reduceNeg] at hc) <;> (try simp only [zw] at hc)) <;> (try (exfalso; omega))) | (refine NX.kC ?_; first | (with_reducible refine NX.call (hb) ?_) | (with_reducible refine NX.call (r2) ?_) | (with_reducible refine NX.call (r3) ?_) | (with_reducible refine NX.call (v2) ?_) | (with_reducible refine NX.call (v3) ?_) | (with_reducible refine NX.call (hls) ?_) | ((first | refine NX.call (hb) ?_ | refine NX.call (r2) ?_ | refine NX.call (r3) ?_ | refine NX.call (v2) ?_ | refine NX.call (v3) ?_ | refine NX.call (hls) ?_)) | fail) | (refine NX.kO ?_; (first | refine NX.callO (hb) (by simp [allEq]) rfl ?_ | refine NX.callO (r2) (by simp [allEq]) rfl ?_ | refine NX.callO (r3) (by simp [allEq]) rfl ?_ | refine NX.callO (v2) (by simp [allEq]) rfl ?_ | refine NX.callO (v3) (by simp [allEq]) rfl ?_ | refine NX.callO (hls) (by simp [allEq]) rfl ?_)) | refine NX.k 1 (NX.one Z1 ?_) | refine NX.k 8 (NX.one Z8 ?_) | refine NX.k 14 (NX.one Z14 ?_) | refine NX.k 15 (NX.one Z15 ?_) | refine NX.k 18 (NX.one Z18 ?_) | (refine NX.one (One.indexPtr tabOk rfl rfl rfl rfl rfl (by decide) (by decide)) ?_) | refine NX.raw ?_) | (refine TRg.pass ?_; refine TRg.nx hA tabOk Zc ?_; first | refine TX.done ?_ | refine TX.gt ?_ | refine TX.gf ?_ | (refine TX.gs ?_ ?_ <;> intro hc <;> rw [hc] <;> ((try simp only [zn] at hc) <;> (try simp (disch := omega) only [zz hA, zb, zy, reduceCtorEq, Bool.false_eq_true, Int.reduceLT, Int.reduceLE, Int.reduceNeg] at hc) <;> (try simp only [zw] at hc)) <;> (try (exfalso; omega))) | (refine TX.kC ?_; first | (with_reducible refine TX.call (hb) ?_) | (with_reducible refine TX.call (r2) ?_) | (with_reducible refine TX.call (r3) ?_) | (with_reducible refine TX.call (v2) ?_) | (with_reducible refine TX.call (v3) ?_) | (with_reducible refine TX.call (hls) ?_) | ((first | refine TX.call (hb) ?_ | refine TX.call (r2) ?_ | refine TX.call (r3) ?_ | refine TX.call (v2) ?_ | refine TX.call (v3) ?_ | refine TX.call (hls) ?_)) | fail) | (refine TX.kO ?_; (first | refine TX.callO (hb) (by simp [allEq]) rfl ?_ | refine TX.callO (r2) (by simp [allEq]) rfl ?_ | refine TX.callO (r3) (by simp [allEq]) rfl ?_ | refine TX.callO (v2) (by simp [allEq]) rfl ?_ | refine TX.callO (v3) (by simp [allEq]) rfl ?_ | refine TX.callO (hls) (by simp [allEq]) rfl ?_)) | refine TX.k 1 (TX.one Z1 ?_) | refine TX.k 8 (TX.one Z8 ?_) | refine TX.k 14 (TX.one Z14 ?_) | refine TX.k 15 (TX.one Z15 ?_) | refine TX.k 18 (TX.one Z18 ?_) | (refine TX.one (One.indexPtr tabOk rfl rfl rfl rfl rfl (by decide) (by decide)) ?_) | refine TX.raw ?_) | refine Fin3.of Zc (by repeat' (first | exact True.intro | exact rfl | refine And.intro ?_ ?_)) ?_ ?_ | (refine AllO.pass ?_; first | exact AllO.nil | (refine AllO.cons (One.ev hA tabOk ?_) ?_ <;> (first | refine AllO.pass ?_ | ((conv => lhs; cbv); done))) | (refine AllO.cons (One.skipB ?_) ?_ <;> (first | refine AllO.pass ?_ | ((conv => lhs; cbv); done))) | ((with_reducible refine AllO.call Zc (hb) ?_ ?_) <;> (first | refine AllO.pass ?_ | exact rfl | exact Zd)) | ((with_reducible refine AllO.call Zc (r2) ?_ ?_) <;> (first | refine AllO.pass ?_ | exact rfl | exact Zd)) | ((with_reducible refine AllO.call Zc (r3) ?_ ?_) <;> (first | refine AllO.pass ?_ | exact rfl | exact Zd)) | ((with_reducible refine AllO.call Zc (v2) ?_ ?_) <;> (first | refine AllO.pass ?_ | exact rfl | exact Zd)) | ((with_reducible refine AllO.call Zc (v3) ?_ ?_) <;> (first | refine AllO.pass ?_ | exact rfl | exact Zd)) | ((with_reducible refine AllO.call Zc (hls) ?_ ?_) <;> (first | refine AllO.pass ?_ | exact rfl | exact Zd)) | refine AllO.consX ZX rfl rfl ?_ | ((refine AllO.consX (One.indexPtr tabOk rfl rfl rfl rfl rfl (by decide) (by decide)) rfl rfl ?_) <;> (first | refine AllO.pass ?_ | exact Zd))) | refine Thn.exit ?_ | refine Blk.here ?_ | refine Blk.other (by decide) ?_ | refine ⟨.inl rfl, _, RetOk.ev tabOk Zc, ?_⟩ | fail)
  all_goals first | (exfalso; omega) | (refine rPV_then (by conv => lhs; cbv) ?_; rfl) | fail
end Go.Proofs.YtkkjlmcnfoncdaaGreat.Aw

/- The document's example of layer 12, part 3: it is right. -/
set_option linter.unusedVariables false
set_option linter.unusedSimpArgs false
set_option linter.unusedSectionVars false
namespace Go.Proofs.YtkkjlmcnfoncdaaGreat.Aw
open Go Go.RowKit
set_option maxRecDepth 10000
attribute [local irreducible] AWp AOL QS One AOLg QSg NX QX TRg TX AllO Fin3
attribute [local irreducible] W.TRg W.TX W.AllO W.Fin3
abbrev st3 (A : Ar) (f : AV) : List AObj := [.var true 26 [.ic (.sl 1 false (hid A (List.map (encK A) K4))), .ic (.sl 1 false (hid A (List.map encI (layM K4))))], .var true 31 [.ic (.sl 1 false (hid A (List.map encI []))), .ic (.sl 1 false (hid A (List.map encI [0, 1]))), .ic (.sl 2 false (hid A (List.map encN [(-1, 0), (-1, 0)]))), .ic (.sl 1 false (hid A (List.map encI []))), .ic (.sl 1 false (hid A (List.map (encK A) K2'))), .ic (.sl 1 false (hid A (List.map (encK A) K2)))], .var true 3 [.ic (.lit (.int .i64 1))], .var true 81 [f]]
variable {A : Ar} (hA : A = real)
include hA
theorem noneIdx_c (l : List Int) (g : FuncId) (caps : List AV) (st : List AObj) (hl : l.length ≤ 1000000) (hg : ∀ n ∈ l, ACalls Tryz.prog g (.ic (.lit (.int .i64 n)) :: caps) st (fun x s' => x = .ic (.lit (.bool false)) ∧ s' = st)) :
    ACalls Tryz.prog 99 [.ic (.sl 1 false (hid A (List.map encI l))), .fn (.func g) [] caps] st (fun x s' => x = .ic (.lit (.int .i64 (-1))) ∧ s' = st) := by
  refine ACalls.of Tryz.func99 rfl (by kernel_rfl) rfl ?_
  try first | refine AOLg.of [] ?_ | refine QSg.of [] ?_
  repeat' (first | (refine AWp.pass ?_; first | refine AWp.seq ?_ | refine AWp.block ?_ | refine AWp.skip ?_ | refine AWp.regG [] Zc ?_ | refine AWp.cond_t rfl ?_ | refine AWp.cond_f rfl ?_ | (refine AWp.cond rfl ?_ ?_ <;> intro hc <;> (try rw [hc]) <;> ((try simp only [zn] at hc) <;> (try simp (disch := omega) only [zz hA, zb, zy, reduceCtorEq, Bool.false_eq_true, Int.reduceLT, Int.reduceLE, Int.reduceNeg] at hc) <;> (try simp only [zw] at hc)) <;> (try (exfalso; omega))) | refine AWp.exit ?_ | refine AWp.ret ⟨.inr rfl, _, RetOk.ev tabOk Zc, ?_⟩) | (refine AOLg.pass ?_; refine AOLg.nx hA tabOk Zc ?_; first | refine NX.done ?_ | refine NX.gt ?_ | refine NX.gf ?_ | (refine NX.gs ?_ ?_ <;> intro hc <;> rw [hc] <;> ((try simp only [zn] at hc) <;> (try simp (disch := omega) only [zz hA, zb, zy, reduceCtorEq, Bool.false_eq_true, Int.reduceLT, Int.reduceLE, Int.reduceNeg] at hc) <;> (try simp only [zw] at hc)) <;> (try (exfalso; omega))) | refine NX.k 1 (NX.one Z1 ?_) | refine NX.k 7 (NX.one Z7 ?_) | refine NX.k 10 (NX.one Z10 ?_) | refine NX.k 14 (NX.one Z14 ?_) | refine NX.raw ?_) | refine Thn.exit ?_ | refine Blk.here ?_ | refine Blk.other (by decide) ?_ | refine ⟨.inl rfl, _, RetOk.ev tabOk Zc, ?_⟩ | fail)
  refine AWp.loopU (fun k : Nat => [(8, .ic (.lit (.int .i64 (hid A (cN k)))))]) (fun _ => st) (fun k => l.length - k) (fun k => k ≤ l.length) 0 (by conv => lhs; cbv) (Nat.zero_le _) (by (repeat' (first | exact subE.nil | refine subE.cons rfl ?_ | refine subE.int rfl ?_ ?_ | refine subE.bool rfl ?_ ?_ | refine subE.str rfl ?_ ?_ | refine subE.sl rfl ?_ ?_)) <;> simp [hA, real, hid, cN]) rfl ?_
  intro k hk
  by_cases hlt : k < l.length
  · have hm : ∀ q, q = l.getD k default → ACalls Tryz.prog g (.ic (.lit (.int .i64 q)) :: caps) st (fun x s' => x = .ic (.lit (.bool false)) ∧ s' = st) := by
      rintro q rfl
      exact hg _ (by rw [List.getD_eq_getElem?_getD, List.getElem?_eq_getElem hlt]; exact List.getElem_mem _)
    try first | refine AOLg.of [] ?_ | refine QSg.of [] ?_
    repeat' (first | (refine AWp.pass ?_; first | refine AWp.seq ?_ | refine AWp.block ?_ | refine AWp.skip ?_ | refine AWp.regG [] Zc ?_ | refine AWp.cond_t rfl ?_ | refine AWp.cond_f rfl ?_ | (refine AWp.cond rfl ?_ ?_ <;> intro hc <;> (try rw [hc]) <;> ((try simp only [zn] at hc) <;> (try simp (disch := omega) only [zz hA, zb, zy, reduceCtorEq, Bool.false_eq_true, Int.reduceLT, Int.reduceLE, Int.reduceNeg] at hc) <;> (try simp only [zw] at hc)) <;> (try (exfalso; omega))) | refine AWp.exit ?_ | refine AWp.ret ⟨.inr rfl, _, RetOk.ev tabOk Zc, ?_⟩) | (refine AOLg.pass ?_; refine AOLg.nx hA tabOk Zc ?_; first | refine NX.done ?_ | refine NX.gt ?_ | refine NX.gf ?_ | (refine NX.gs ?_ ?_ <;> intro hc <;> rw [hc] <;> ((try simp only [zn] at hc) <;> (try simp (disch := omega) only [zz hA, zb, zy, reduceCtorEq, Bool.false_eq_true, Int.reduceLT, Int.reduceLE, Int.reduceNeg] at hc) <;> (try simp only [zw] at hc)) <;> (try (exfalso; omega))) | refine NX.k 1 (NX.one Z1 ?_) | refine NX.k 7 (NX.one Z7 ?_) | refine NX.k 10 (NX.one Z10 ?_) | refine NX.k 14 (NX.one Z14 ?_) | refine NX.raw ?_) | refine Thn.exit ?_ | refine Blk.here ?_ | refine Blk.other (by decide) ?_ | refine ⟨.inl rfl, _, RetOk.ev tabOk Zc, ?_⟩ | fail)
    refine AOL.scall rfl rfl (hm _ (by simp only [hid_eq hA, cN, Int.toNat_natCast])) ?_
    rintro y st' ⟨rfl, rfl⟩
    refine AOL.norm (by conv => lhs; cbv) ?_
    try first | refine AOLg.of [] ?_ | refine QSg.of [] ?_
    repeat' (first | (refine AWp.pass ?_; first | refine AWp.seq ?_ | refine AWp.block ?_ | refine AWp.skip ?_ | refine AWp.regG [] Zc ?_ | refine AWp.cond_t rfl ?_ | refine AWp.cond_f rfl ?_ | (refine AWp.cond rfl ?_ ?_ <;> intro hc <;> (try rw [hc]) <;> ((try simp only [zn] at hc) <;> (try simp (disch := omega) only [zz hA, zb, zy, reduceCtorEq, Bool.false_eq_true, Int.reduceLT, Int.reduceLE, Int.reduceNeg] at hc) <;> (try simp only [zw] at hc)) <;> (try (exfalso; omega))) | refine AWp.exit ?_ | refine AWp.ret ⟨.inr rfl, _, RetOk.ev tabOk Zc, ?_⟩) | (refine AOLg.pass ?_; refine AOLg.nx hA tabOk Zc ?_; first | refine NX.done ?_ | refine NX.gt ?_ | refine NX.gf ?_ | (refine NX.gs ?_ ?_ <;> intro hc <;> rw [hc] <;> ((try simp only [zn] at hc) <;> (try simp (disch := omega) only [zz hA, zb, zy, reduceCtorEq, Bool.false_eq_true, Int.reduceLT, Int.reduceLE, Int.reduceNeg] at hc) <;> (try simp only [zw] at hc)) <;> (try (exfalso; omega))) | refine NX.k 1 (NX.one Z1 ?_) | refine NX.k 7 (NX.one Z7 ?_) | refine NX.k 10 (NX.one Z10 ?_) | refine NX.k 14 (NX.one Z14 ?_) | refine NX.raw ?_) | refine Thn.exit ?_ | refine Blk.here ?_ | refine Blk.other (by decide) ?_ | refine ⟨.inl rfl, _, RetOk.ev tabOk Zc, ?_⟩ | fail)
    refine ⟨k + 1, ?_, ?_, rfl, rfl, ?_, Zk⟩ <;> (try omega)
    repeat' (first | exact subE.nil | refine subE.cons rfl ?_ | refine subE.int rfl ?_ ?_ | refine subE.bool rfl ?_ ?_ | refine subE.str rfl ?_ ?_ | refine subE.sl rfl ?_ ?_)
    all_goals exact Zd
  · try first | refine AOLg.of [] ?_ | refine QSg.of [] ?_
    repeat' (first | (refine AWp.pass ?_; first | refine AWp.seq ?_ | refine AWp.block ?_ | refine AWp.skip ?_ | refine AWp.regG [] Zc ?_ | refine AWp.cond_t rfl ?_ | refine AWp.cond_f rfl ?_ | (refine AWp.cond rfl ?_ ?_ <;> intro hc <;> (try rw [hc]) <;> ((try simp only [zn] at hc) <;> (try simp (disch := omega) only [zz hA, zb, zy, reduceCtorEq, Bool.false_eq_true, Int.reduceLT, Int.reduceLE, Int.reduceNeg] at hc) <;> (try simp only [zw] at hc)) <;> (try (exfalso; omega))) | refine AWp.exit ?_ | refine AWp.ret ⟨.inr rfl, _, RetOk.ev tabOk Zc, ?_⟩) | (refine AOLg.pass ?_; refine AOLg.nx hA tabOk Zc ?_; first | refine NX.done ?_ | refine NX.gt ?_ | refine NX.gf ?_ | (refine NX.gs ?_ ?_ <;> intro hc <;> rw [hc] <;> ((try simp only [zn] at hc) <;> (try simp (disch := omega) only [zz hA, zb, zy, reduceCtorEq, Bool.false_eq_true, Int.reduceLT, Int.reduceLE, Int.reduceNeg] at hc) <;> (try simp only [zw] at hc)) <;> (try (exfalso; omega))) | refine NX.k 1 (NX.one Z1 ?_) | refine NX.k 7 (NX.one Z7 ?_) | refine NX.k 10 (NX.one Z10 ?_) | refine NX.k 14 (NX.one Z14 ?_) | refine NX.raw ?_) | refine Thn.exit ?_ | refine Blk.here ?_ | refine Blk.other (by decide) ?_ | refine ⟨.inl rfl, _, RetOk.ev tabOk Zc, ?_⟩ | fail)
    exact ⟨rfl, rfl⟩
theorem noneFunc_c (l : List Int) (g : FuncId) (caps : List AV) (st : List AObj) (hl : l.length ≤ 1000000) (hg : ∀ n ∈ l, ACalls Tryz.prog g (.ic (.lit (.int .i64 n)) :: caps) st (fun x s' => x = .ic (.lit (.bool false)) ∧ s' = st)) :
    ACalls Tryz.prog 66 [.ic (.sl 1 false (hid A (List.map encI l))), .fn (.func g) [] caps] st (fun x s' => x = .ic (.lit (.bool false)) ∧ s' = st) := by
  refine ACalls.of Tryz.func66 rfl (by kernel_rfl) rfl ?_
  try first | refine AOLg.of [] ?_ | refine QSg.of [] ?_
  repeat' (first | (refine AWp.pass ?_; first | refine AWp.seq ?_ | refine AWp.block ?_ | refine AWp.skip ?_ | refine AWp.regG [] Zc ?_ | refine AWp.cond_t rfl ?_ | refine AWp.cond_f rfl ?_ | (refine AWp.cond rfl ?_ ?_ <;> intro hc <;> (try rw [hc]) <;> ((try simp only [zn] at hc) <;> (try simp (disch := omega) only [zz hA, zb, zy, reduceCtorEq, Bool.false_eq_true, Int.reduceLT, Int.reduceLE, Int.reduceNeg] at hc) <;> (try simp only [zw] at hc)) <;> (try (exfalso; omega))) | refine AWp.exit ?_ | refine AWp.ret ⟨.inr rfl, _, RetOk.ev tabOk Zc, ?_⟩) | (refine AOLg.pass ?_; refine AOLg.nx hA tabOk Zc ?_; first | refine NX.done ?_ | refine NX.gt ?_ | refine NX.gf ?_ | (refine NX.gs ?_ ?_ <;> intro hc <;> rw [hc] <;> ((try simp only [zn] at hc) <;> (try simp (disch := omega) only [zz hA, zb, zy, reduceCtorEq, Bool.false_eq_true, Int.reduceLT, Int.reduceLE, Int.reduceNeg] at hc) <;> (try simp only [zw] at hc)) <;> (try (exfalso; omega))) | refine NX.raw ?_) | refine Thn.exit ?_ | refine Blk.here ?_ | refine Blk.other (by decide) ?_ | refine ⟨.inl rfl, _, RetOk.ev tabOk Zc, ?_⟩ | fail)
  refine AOL.scall rfl rfl (noneIdx_c hA l g caps st hl hg) ?_
  rintro y st' ⟨rfl, rfl⟩
  refine AOL.norm (by conv => lhs; cbv) ?_
  try first | refine AOLg.of [] ?_ | refine QSg.of [] ?_
  repeat' (first | (refine AWp.pass ?_; first | refine AWp.seq ?_ | refine AWp.block ?_ | refine AWp.skip ?_ | refine AWp.regG [] Zc ?_ | refine AWp.cond_t rfl ?_ | refine AWp.cond_f rfl ?_ | (refine AWp.cond rfl ?_ ?_ <;> intro hc <;> (try rw [hc]) <;> ((try simp only [zn] at hc) <;> (try simp (disch := omega) only [zz hA, zb, zy, reduceCtorEq, Bool.false_eq_true, Int.reduceLT, Int.reduceLE, Int.reduceNeg] at hc) <;> (try simp only [zw] at hc)) <;> (try (exfalso; omega))) | refine AWp.exit ?_ | refine AWp.ret ⟨.inr rfl, _, RetOk.ev tabOk Zc, ?_⟩) | (refine AOLg.pass ?_; refine AOLg.nx hA tabOk Zc ?_; first | refine NX.done ?_ | refine NX.gt ?_ | refine NX.gf ?_ | (refine NX.gs ?_ ?_ <;> intro hc <;> rw [hc] <;> ((try simp only [zn] at hc) <;> (try simp (disch := omega) only [zz hA, zb, zy, reduceCtorEq, Bool.false_eq_true, Int.reduceLT, Int.reduceLE, Int.reduceNeg] at hc) <;> (try simp only [zw] at hc)) <;> (try (exfalso; omega))) | refine NX.raw ?_) | refine Thn.exit ?_ | refine Blk.here ?_ | refine Blk.other (by decide) ?_ | refine ⟨.inl rfl, _, RetOk.ev tabOk Zc, ?_⟩ | fail)
  exact ⟨by simp [hA, real], rfl⟩
theorem sorted_c (l : List Int) (hl : l.length < 2) : PureCalls Tryz.prog 62 [intsP A l] (BP true) := by
  refine PureCalls.of Tryz.func62 rfl (by kernel_rfl) rfl ?_
  try first | refine AOLg.of [] ?_ | refine QSg.of [] ?_
  repeat' (first | (refine AWp.pass ?_; first | refine AWp.seq ?_ | refine AWp.block ?_ | refine AWp.skip ?_ | refine AWp.regG [] Zc ?_ | refine AWp.cond_t rfl ?_ | refine AWp.cond_f rfl ?_ | (refine AWp.cond rfl ?_ ?_ <;> intro hc <;> (try rw [hc]) <;> ((try simp only [zn] at hc) <;> (try simp (disch := omega) only [zz hA, zb, zy, reduceCtorEq, Bool.false_eq_true, Int.reduceLT, Int.reduceLE, Int.reduceNeg] at hc) <;> (try simp only [zw] at hc)) <;> (try (exfalso; omega))) | refine AWp.exit ?_ | refine AWp.ret ⟨.inr rfl, _, RetOk.ev tabOk Zc, ?_⟩ | refine AWp.drawVG [] rfl (by decide +kernel) Zc ?_) | (refine AOLg.pass ?_; refine AOLg.nx hA tabOk Zc ?_; first | refine NX.done ?_ | refine NX.gt ?_ | refine NX.gf ?_ | (refine NX.gs ?_ ?_ <;> intro hc <;> rw [hc] <;> ((try simp only [zn] at hc) <;> (try simp (disch := omega) only [zz hA, zb, zy, reduceCtorEq, Bool.false_eq_true, Int.reduceLT, Int.reduceLE, Int.reduceNeg] at hc) <;> (try simp only [zw] at hc)) <;> (try (exfalso; omega))) | refine NX.k 1 (NX.one Z1 ?_) | refine NX.k 10 (NX.one Z10 ?_) | refine NX.k 14 (NX.one Z14 ?_) | refine NX.raw ?_) | (refine TRg.pass ?_; refine TRg.nx hA tabOk Zc ?_; first | refine TX.done ?_ | refine TX.gt ?_ | refine TX.gf ?_ | (refine TX.gs ?_ ?_ <;> intro hc <;> rw [hc] <;> ((try simp only [zn] at hc) <;> (try simp (disch := omega) only [zz hA, zb, zy, reduceCtorEq, Bool.false_eq_true, Int.reduceLT, Int.reduceLE, Int.reduceNeg] at hc) <;> (try simp only [zw] at hc)) <;> (try (exfalso; omega))) | refine TX.k 1 (TX.one Z1 ?_) | refine TX.k 10 (TX.one Z10 ?_) | refine TX.k 14 (TX.one Z14 ?_) | refine TX.raw ?_) | refine Fin3.of Zc (by repeat' (first | exact True.intro | exact rfl | refine And.intro ?_ ?_)) ?_ ?_ | (refine AllO.pass ?_; first | exact AllO.nil | (refine AllO.cons (One.ev hA tabOk ?_) ?_ <;> (first | refine AllO.pass ?_ | ((conv => lhs; cbv); done))) | (refine AllO.cons (One.skipB ?_) ?_ <;> (first | refine AllO.pass ?_ | ((conv => lhs; cbv); done))) | refine AllO.consX ZX rfl rfl ?_) | refine Thn.exit ?_ | refine Blk.here ?_ | refine Blk.other (by decide) ?_ | refine ⟨.inl rfl, _, RetOk.ev tabOk Zc, ?_⟩ | fail)
  refine AWp.loopU (fun k : Nat => [(3, .ic (.lit (.int .i64 (A .sub .i64 (A .len (hid A (List.map encI l))) 1))))]) (fun _ => _) (fun k => 0) (fun k => True) 0 (by conv => lhs; cbv) trivial (by ((repeat' (first | exact subE.nil | refine subE.cons rfl ?_ | refine subE.int rfl ?_ ?_ | refine subE.bool rfl ?_ ?_ | refine subE.str rfl ?_ ?_ | refine subE.sl rfl ?_ ?_))) <;> simp [hA, real, hid, cN]) rfl ?_
  intro k _
  try first | refine AOLg.of [] ?_ | refine QSg.of [] ?_
  repeat' (first | (refine AWp.pass ?_; first | refine AWp.seq ?_ | refine AWp.block ?_ | refine AWp.skip ?_ | refine AWp.regG [] Zc ?_ | refine AWp.cond_t rfl ?_ | refine AWp.cond_f rfl ?_ | (refine AWp.cond rfl ?_ ?_ <;> intro hc <;> (try rw [hc]) <;> ((try simp only [zn] at hc) <;> (try simp (disch := omega) only [zz hA, zb, zy, reduceCtorEq, Bool.false_eq_true, Int.reduceLT, Int.reduceLE, Int.reduceNeg] at hc) <;> (try simp only [zw] at hc)) <;> (try (exfalso; omega))) | refine AWp.exit ?_ | refine AWp.ret ⟨.inr rfl, _, RetOk.ev tabOk Zc, ?_⟩ | refine AWp.drawVG [] rfl (by decide +kernel) Zc ?_) | (refine AOLg.pass ?_; refine AOLg.nx hA tabOk Zc ?_; first | refine NX.done ?_ | refine NX.gt ?_ | refine NX.gf ?_ | (refine NX.gs ?_ ?_ <;> intro hc <;> rw [hc] <;> ((try simp only [zn] at hc) <;> (try simp (disch := omega) only [zz hA, zb, zy, reduceCtorEq, Bool.false_eq_true, Int.reduceLT, Int.reduceLE, Int.reduceNeg] at hc) <;> (try simp only [zw] at hc)) <;> (try (exfalso; omega))) | refine NX.k 1 (NX.one Z1 ?_) | refine NX.k 10 (NX.one Z10 ?_) | refine NX.k 14 (NX.one Z14 ?_) | refine NX.raw ?_) | (refine TRg.pass ?_; refine TRg.nx hA tabOk Zc ?_; first | refine TX.done ?_ | refine TX.gt ?_ | refine TX.gf ?_ | (refine TX.gs ?_ ?_ <;> intro hc <;> rw [hc] <;> ((try simp only [zn] at hc) <;> (try simp (disch := omega) only [zz hA, zb, zy, reduceCtorEq, Bool.false_eq_true, Int.reduceLT, Int.reduceLE, Int.reduceNeg] at hc) <;> (try simp only [zw] at hc)) <;> (try (exfalso; omega))) | refine TX.k 1 (TX.one Z1 ?_) | refine TX.k 10 (TX.one Z10 ?_) | refine TX.k 14 (TX.one Z14 ?_) | refine TX.raw ?_) | refine Fin3.of Zc (by repeat' (first | exact True.intro | exact rfl | refine And.intro ?_ ?_)) ?_ ?_ | (refine AllO.pass ?_; first | exact AllO.nil | (refine AllO.cons (One.ev hA tabOk ?_) ?_ <;> (first | refine AllO.pass ?_ | ((conv => lhs; cbv); done))) | (refine AllO.cons (One.skipB ?_) ?_ <;> (first | refine AllO.pass ?_ | ((conv => lhs; cbv); done))) | refine AllO.consX ZX rfl rfl ?_) | refine Thn.exit ?_ | refine Blk.here ?_ | refine Blk.other (by decide) ?_ | refine ⟨.inl rfl, _, RetOk.ev tabOk Zc, ?_⟩ | fail)
  all_goals first | (exfalso; omega) | (refine rPV_then (by conv => lhs; cbv) ?_; rfl) | fail
theorem compact_c (l : List Int) (hl : l.length < 2) : PureCalls Tryz.prog 49 [intsP A l] (intsP A l) := by
  refine PureCalls.of Tryz.func49 rfl (by kernel_rfl) rfl ?_
  try first | refine AOLg.of [] ?_ | refine QSg.of [] ?_
  repeat' (first | (refine AWp.pass ?_; first | refine AWp.seq ?_ | refine AWp.block ?_ | refine AWp.skip ?_ | refine AWp.regG [] Zc ?_ | refine AWp.cond_t rfl ?_ | refine AWp.cond_f rfl ?_ | (refine AWp.cond rfl ?_ ?_ <;> intro hc <;> (try rw [hc]) <;> ((try simp only [zn] at hc) <;> (try simp (disch := omega) only [zz hA, zb, zy, reduceCtorEq, Bool.false_eq_true, Int.reduceLT, Int.reduceLE, Int.reduceNeg] at hc) <;> (try simp only [zw] at hc)) <;> (try (exfalso; omega))) | refine AWp.exit ?_ | refine AWp.ret ⟨.inr rfl, _, RetOk.ev tabOk Zc, ?_⟩ | refine AWp.drawVG [] rfl (by decide +kernel) Zc ?_) | (refine AOLg.pass ?_; refine AOLg.nx hA tabOk Zc ?_; first | refine NX.done ?_ | refine NX.gt ?_ | refine NX.gf ?_ | (refine NX.gs ?_ ?_ <;> intro hc <;> rw [hc] <;> ((try simp only [zn] at hc) <;> (try simp (disch := omega) only [zz hA, zb, zy, reduceCtorEq, Bool.false_eq_true, Int.reduceLT, Int.reduceLE, Int.reduceNeg] at hc) <;> (try simp only [zw] at hc)) <;> (try (exfalso; omega))) | refine NX.k 1 (NX.one Z1 ?_) | refine NX.k 2 (NX.one Z2 ?_) | refine NX.k 7 (NX.one Z7 ?_) | refine NX.k 8 (NX.one Z8 ?_) | refine NX.k 9 (NX.one Z9 ?_) | refine NX.k 10 (NX.one Z10 ?_) | refine NX.k 14 (NX.one Z14 ?_) | refine NX.k 15 (NX.one Z15 ?_) | refine NX.raw ?_) | (refine TRg.pass ?_; refine TRg.nx hA tabOk Zc ?_; first | refine TX.done ?_ | refine TX.gt ?_ | refine TX.gf ?_ | (refine TX.gs ?_ ?_ <;> intro hc <;> rw [hc] <;> ((try simp only [zn] at hc) <;> (try simp (disch := omega) only [zz hA, zb, zy, reduceCtorEq, Bool.false_eq_true, Int.reduceLT, Int.reduceLE, Int.reduceNeg] at hc) <;> (try simp only [zw] at hc)) <;> (try (exfalso; omega))) | refine TX.k 1 (TX.one Z1 ?_) | refine TX.k 2 (TX.one Z2 ?_) | refine TX.k 7 (TX.one Z7 ?_) | refine TX.k 8 (TX.one Z8 ?_) | refine TX.k 9 (TX.one Z9 ?_) | refine TX.k 10 (TX.one Z10 ?_) | refine TX.k 14 (TX.one Z14 ?_) | refine TX.k 15 (TX.one Z15 ?_) | refine TX.raw ?_) | refine Fin3.of Zc (by repeat' (first | exact True.intro | exact rfl | refine And.intro ?_ ?_)) ?_ ?_ | (refine AllO.pass ?_; first | exact AllO.nil | (refine AllO.cons (One.ev hA tabOk ?_) ?_ <;> (first | refine AllO.pass ?_ | ((conv => lhs; cbv); done))) | (refine AllO.cons (One.skipB ?_) ?_ <;> (first | refine AllO.pass ?_ | ((conv => lhs; cbv); done))) | refine AllO.consX ZX rfl rfl ?_) | refine Thn.exit ?_ | refine Blk.here ?_ | refine Blk.other (by decide) ?_ | refine ⟨.inl rfl, _, RetOk.ev tabOk Zc, ?_⟩ | fail)
  all_goals first | (exfalso; omega) | (refine rPV_then (by conv => lhs; cbv) ?_; rfl) | fail
theorem rises_c (l : List Int) (hl : l.length < 2) : PureCalls Tryz.prog 61 [intsP A l] (BP true) := by
  have h1 := sorted_c hA l hl
  have h2 := clone_c hA (hid A (List.map encI l)) (by simp [hid_eq hA]; omega)
  have h3 := compact_c hA l hl
  refine PureCalls.of Tryz.func61 rfl (by kernel_rfl) rfl ?_
  try first | refine AOLg.of [] ?_ | refine QSg.of [] ?_
  repeat' (first | (refine AWp.pass ?_; first | refine AWp.seq ?_ | refine AWp.block ?_ | refine AWp.skip ?_ | refine AWp.regG [] Zc ?_ | refine AWp.cond_t rfl ?_ | refine AWp.cond_f rfl ?_ | (refine AWp.cond rfl ?_ ?_ <;> intro hc <;> (try rw [hc]) <;> ((try simp only [zn] at hc) <;> (try simp (disch := omega) only [zz hA, zb, zy, reduceCtorEq, Bool.false_eq_true, Int.reduceLT, Int.reduceLE, Int.reduceNeg] at hc) <;> (try simp only [zw] at hc)) <;> (try (exfalso; omega))) | refine AWp.exit ?_ | refine AWp.ret ⟨.inr rfl, _, RetOk.ev tabOk Zc, ?_⟩) | (refine AOLg.pass ?_; refine AOLg.nx hA tabOk Zc ?_; first | refine NX.done ?_ | refine NX.gt ?_ | refine NX.gf ?_ | (refine NX.gs ?_ ?_ <;> intro hc <;> rw [hc] <;> ((try simp only [zn] at hc) <;> (try simp (disch := omega) only [zz hA, zb, zy, reduceCtorEq, Bool.false_eq_true, Int.reduceLT, Int.reduceLE, Int.reduceNeg] at hc) <;> (try simp only [zw] at hc)) <;> (try (exfalso; omega))) | (refine NX.kC ?_; first | (with_reducible refine NX.call (h1) ?_) | (with_reducible refine NX.call (h2) ?_) | (with_reducible refine NX.call (h3) ?_) | ((first | refine NX.call (h1) ?_ | refine NX.call (h2) ?_ | refine NX.call (h3) ?_)) | fail) | (refine NX.kO ?_; (first | refine NX.callO (h1) (by simp [allEq]) rfl ?_ | refine NX.callO (h2) (by simp [allEq]) rfl ?_ | refine NX.callO (h3) (by simp [allEq]) rfl ?_)) | refine NX.k 8 (NX.one Z8 ?_) | refine NX.k 10 (NX.one Z10 ?_) | refine NX.raw ?_) | refine Thn.exit ?_ | refine Blk.here ?_ | refine Blk.other (by decide) ?_ | refine ⟨.inl rfl, _, RetOk.ev tabOk Zc, ?_⟩ | fail)
  all_goals first | (exfalso; omega) | (refine rPV_then (by conv => lhs; cbv) ?_; rfl) | (refine rPV_then (by conv => lhs; cbv) ?_; simp [hA, real]; done) | fail
theorem odd_3 (p0 p1 p2 : AObj) (f a b c : AV) (hf : ∃ i, f = .fn (.func i) [] []) : ACalls Tryz.prog 64 [f, a, b, c] [p0, p1, p2] (fun x s' => x = .fn (.func 65) [] [a, b, c, .ptr 3 0] ∧ s' = [p0, p1, p2, .var true 81 [f]]) := by
  obtain ⟨i, rfl⟩ := hf
  refine ACalls.of Tryz.func64 rfl (by kernel_rfl) rfl ?_
  try first | refine AOLg.of [] ?_ | refine QSg.of [] ?_
  repeat' (first | (refine AWp.pass ?_; first | refine AWp.seq ?_ | refine AWp.block ?_ | refine AWp.skip ?_ | refine AWp.regG [] Zc ?_ | refine AWp.cond_t rfl ?_ | refine AWp.cond_f rfl ?_ | (refine AWp.cond rfl ?_ ?_ <;> intro hc <;> (try rw [hc]) <;> ((try simp only [zn] at hc) <;> (try simp (disch := omega) only [zz hA, zb, zy, reduceCtorEq, Bool.false_eq_true, Int.reduceLT, Int.reduceLE, Int.reduceNeg] at hc) <;> (try simp only [zw] at hc)) <;> (try (exfalso; omega))) | refine AWp.exit ?_ | refine AWp.ret ⟨.inr rfl, _, RetOk.ev tabOk Zc, ?_⟩) | (refine AOLg.pass ?_; refine AOLg.nx hA tabOk Zc ?_; first | refine NX.done ?_ | refine NX.gt ?_ | refine NX.gf ?_ | (refine NX.gs ?_ ?_ <;> intro hc <;> rw [hc] <;> ((try simp only [zn] at hc) <;> (try simp (disch := omega) only [zz hA, zb, zy, reduceCtorEq, Bool.false_eq_true, Int.reduceLT, Int.reduceLE, Int.reduceNeg] at hc) <;> (try simp only [zw] at hc)) <;> (try (exfalso; omega))) | refine NX.raw ?_) | refine Thn.exit ?_ | refine Blk.here ?_ | refine Blk.other (by decide) ?_ | refine ⟨.inl rfl, _, RetOk.ev tabOk Zc, ?_⟩ | fail)
  all_goals first | exact ⟨rfl, rfl⟩ | fail
theorem odd_4 (p0 p1 p2 p3 : AObj) (f a b c : AV) (hf : ∃ i, f = .fn (.func i) [] []) : ACalls Tryz.prog 64 [f, a, b, c] [p0, p1, p2, p3] (fun x s' => x = .fn (.func 65) [] [a, b, c, .ptr 4 0] ∧ s' = [p0, p1, p2, p3, .var true 81 [f]]) := by
  obtain ⟨i, rfl⟩ := hf
  refine ACalls.of Tryz.func64 rfl (by kernel_rfl) rfl ?_
  try first | refine AOLg.of [] ?_ | refine QSg.of [] ?_
  repeat' (first | (refine AWp.pass ?_; first | refine AWp.seq ?_ | refine AWp.block ?_ | refine AWp.skip ?_ | refine AWp.regG [] Zc ?_ | refine AWp.cond_t rfl ?_ | refine AWp.cond_f rfl ?_ | (refine AWp.cond rfl ?_ ?_ <;> intro hc <;> (try rw [hc]) <;> ((try simp only [zn] at hc) <;> (try simp (disch := omega) only [zz hA, zb, zy, reduceCtorEq, Bool.false_eq_true, Int.reduceLT, Int.reduceLE, Int.reduceNeg] at hc) <;> (try simp only [zw] at hc)) <;> (try (exfalso; omega))) | refine AWp.exit ?_ | refine AWp.ret ⟨.inr rfl, _, RetOk.ev tabOk Zc, ?_⟩) | (refine AOLg.pass ?_; refine AOLg.nx hA tabOk Zc ?_; first | refine NX.done ?_ | refine NX.gt ?_ | refine NX.gf ?_ | (refine NX.gs ?_ ?_ <;> intro hc <;> rw [hc] <;> ((try simp only [zn] at hc) <;> (try simp (disch := omega) only [zz hA, zb, zy, reduceCtorEq, Bool.false_eq_true, Int.reduceLT, Int.reduceLE, Int.reduceNeg] at hc) <;> (try simp only [zw] at hc)) <;> (try (exfalso; omega))) | refine NX.raw ?_) | refine Thn.exit ?_ | refine Blk.here ?_ | refine Blk.other (by decide) ?_ | refine ⟨.inl rfl, _, RetOk.ev tabOk Zc, ?_⟩ | fail)
  all_goals first | exact ⟨rfl, rfl⟩ | fail
theorem pred_c (f : AV) : ACalls Tryz.prog 65 [.ic (.lit (.int .i64 2)), .ptr 0 0, .ptr 1 0, .ptr 2 0, .ptr 3 0]
    (st3 A f)
    (fun x s' => x = .ic (.lit (.bool false)) ∧ s' = (st3 A f)) := by
  have v2 := variable_c hA K4 (layM K4) k4_ok [] [0, 1] [(-1, 0), (-1, 0)] [] K2' K2 2
  have hls := less_c hA [] 0 1 (by decide)
  rw [show symM K4 2 = 0 by decide +kernel, show decide (0 ≤ numM K4 ([0, 1] : List Int).length 2) = true by decide +kernel, hid_eq hA (α := Int), hid_eq hA (α := Bool)] at v2
  rw [show lessM [] 0 1 = true by decide +kernel, hid_eq hA (α := Bool)] at hls
  refine ACalls.of Tryz.func65 rfl (by kernel_rfl) rfl ?_
  try first | refine AOLg.of [] ?_ | refine QSg.of [] ?_
  repeat' (first | (refine AWp.pass ?_; first | refine AWp.seq ?_ | refine AWp.block ?_ | refine AWp.skip ?_ | refine AWp.regG [] Zc ?_ | refine AWp.cond_t rfl ?_ | refine AWp.cond_f rfl ?_ | (refine AWp.cond rfl ?_ ?_ <;> intro hc <;> (try rw [hc]) <;> ((try simp only [zn] at hc) <;> (try simp (disch := omega) only [zz hA, zb, zy, reduceCtorEq, Bool.false_eq_true, Int.reduceLT, Int.reduceLE, Int.reduceNeg] at hc) <;> (try simp only [zw] at hc)) <;> (try (exfalso; omega))) | refine AWp.exit ?_ | refine AWp.ret ⟨.inr rfl, _, RetOk.ev tabOk Zc, ?_⟩) | (refine AOLg.pass ?_; refine AOLg.nx hA tabOk Zc ?_; first | refine NX.done ?_ | refine NX.gt ?_ | refine NX.gf ?_ | (refine NX.gs ?_ ?_ <;> intro hc <;> rw [hc] <;> ((try simp only [zn] at hc) <;> (try simp (disch := omega) only [zz hA, zb, zy, reduceCtorEq, Bool.false_eq_true, Int.reduceLT, Int.reduceLE, Int.reduceNeg] at hc) <;> (try simp only [zw] at hc)) <;> (try (exfalso; omega))) | (refine NX.kC ?_; first | (with_reducible refine NX.call (v2) ?_) | (with_reducible refine NX.call (hls) ?_) | ((first | refine NX.call (v2) ?_ | refine NX.call (hls) ?_)) | fail) | (refine NX.kO ?_; (first | refine NX.callO (v2) (by simp [allEq]) rfl ?_ | refine NX.callO (hls) (by simp [allEq]) rfl ?_)) | refine NX.k 14 (NX.one Z14 ?_) | refine NX.k 18 (NX.one Z18 ?_) | refine NX.raw ?_) | refine Thn.exit ?_ | refine Blk.here ?_ | refine Blk.other (by decide) ?_ | refine ⟨.inl rfl, _, RetOk.ev tabOk Zc, ?_⟩ | fail)
  all_goals first | exact ⟨rfl, rfl⟩ | fail
set_option maxHeartbeats 2000000 in
theorem iright_c : PureCalls Tryz.prog 25 [keyedPV A K4 (layM K4), gP2 A K2'] (BP true) := by
  have hu := uright_c hA ⟨[0, 1], [(-1, 0), (-1, 0)], []⟩ ⟨by decide, by decide, by decide⟩ [] (by decide)
  simp only at hu
  rw [show (rightB [0, 1] [] && (⟨[0, 1], [(-1, 0), (-1, 0)], []⟩ : Cl).right) = true by decide +kernel, hid_eq hA (α := Bool)] at hu
  have hK : K2'.length = 2 := rfl
  have hK2 : K2.length = 2 := rfl
  refine PureCalls.of Tryz.func25 rfl (by kernel_rfl) rfl ?_
  try first | refine AOLg.of [] ?_ | refine QSg.of [] ?_
  repeat' (first | (refine AWp.pass ?_; first | refine AWp.seq ?_ | refine AWp.block ?_ | refine AWp.skip ?_ | refine AWp.regG [] Zc ?_ | refine AWp.cond_t rfl ?_ | refine AWp.cond_f rfl ?_ | (refine AWp.cond rfl ?_ ?_ <;> intro hc <;> (try rw [hc]) <;> ((try simp only [zn] at hc) <;> (try simp (disch := omega) only [zz hA, zb, zy, reduceCtorEq, Bool.false_eq_true, Int.reduceLT, Int.reduceLE, Int.reduceNeg] at hc) <;> (try simp only [zw] at hc)) <;> (try (exfalso; omega))) | refine AWp.exit ?_ | refine AWp.ret ⟨.inr rfl, _, RetOk.ev tabOk Zc, ?_⟩ | refine AWp.drawVG [] rfl (by decide +kernel) Zc ?_) | (refine AOLg.pass ?_; refine AOLg.nx hA tabOk Zc ?_; first | refine NX.done ?_ | refine NX.gt ?_ | refine NX.gf ?_ | (refine NX.gs ?_ ?_ <;> intro hc <;> rw [hc] <;> ((try simp only [zn] at hc) <;> (try simp (disch := omega) only [zz hA, zb, zy, reduceCtorEq, Bool.false_eq_true, Int.reduceLT, Int.reduceLE, Int.reduceNeg] at hc) <;> (try simp only [zw] at hc)) <;> (try (exfalso; omega))) | (refine NX.kC ?_; first | (with_reducible refine NX.call (hu) ?_) | ((first | refine NX.call (hu) ?_)) | fail) | (refine NX.kO ?_; (first | refine NX.callO (hu) (by simp [allEq]) rfl ?_)) | refine NX.k 1 (NX.one Z1 ?_) | refine NX.k 7 (NX.one Z7 ?_) | refine NX.k 9 (NX.one Z9 ?_) | refine NX.k 10 (NX.one Z10 ?_) | refine NX.k 14 (NX.one Z14 ?_) | refine NX.k 15 (NX.one Z15 ?_) | refine NX.k 18 (NX.one Z18 ?_) | refine NX.raw ?_) | (refine TRg.pass ?_; refine TRg.nx hA tabOk Zc ?_; first | refine TX.done ?_ | refine TX.gt ?_ | refine TX.gf ?_ | (refine TX.gs ?_ ?_ <;> intro hc <;> rw [hc] <;> ((try simp only [zn] at hc) <;> (try simp (disch := omega) only [zz hA, zb, zy, reduceCtorEq, Bool.false_eq_true, Int.reduceLT, Int.reduceLE, Int.reduceNeg] at hc) <;> (try simp only [zw] at hc)) <;> (try (exfalso; omega))) | (refine TX.kC ?_; first | (with_reducible refine TX.call (hu) ?_) | ((first | refine TX.call (hu) ?_)) | fail) | (refine TX.kO ?_; (first | refine TX.callO (hu) (by simp [allEq]) rfl ?_)) | refine TX.k 1 (TX.one Z1 ?_) | refine TX.k 7 (TX.one Z7 ?_) | refine TX.k 9 (TX.one Z9 ?_) | refine TX.k 10 (TX.one Z10 ?_) | refine TX.k 14 (TX.one Z14 ?_) | refine TX.k 15 (TX.one Z15 ?_) | refine TX.k 18 (TX.one Z18 ?_) | refine TX.raw ?_) | refine Fin3.of Zc (by repeat' (first | exact True.intro | exact rfl | refine And.intro ?_ ?_)) ?_ ?_ | (refine AllO.pass ?_; first | exact AllO.nil | (refine AllO.cons (One.ev hA tabOk ?_) ?_ <;> (first | refine AllO.pass ?_ | ((conv => lhs; cbv); done))) | (refine AllO.cons (One.skipB ?_) ?_ <;> (first | refine AllO.pass ?_ | ((conv => lhs; cbv); done))) | ((with_reducible refine AllO.call Zc (hu) ?_ ?_) <;> (first | refine AllO.pass ?_ | exact rfl | exact Zd)) | refine AllO.consX ZX rfl rfl ?_) | refine Thn.exit ?_ | refine Blk.here ?_ | refine Blk.other (by decide) ?_ | refine ⟨.inl rfl, _, RetOk.ev tabOk Zc, ?_⟩ | fail)
  all_goals try (exfalso; simp at *; omega)
  have noneE : ∀ (q : List Int) (g : FuncId) (caps : List AV) (st : List AObj), q = [] → ACalls Tryz.prog 66 [.ic (.sl 1 false (hid A (List.map encI q))), .fn (.func g) [] caps] st (fun x s' => x = .ic (.lit (.bool false)) ∧ s' = st) := by
    rintro q g caps st rfl
    exact noneFunc_c hA [] g caps st (by decide) (fun n hn => by simp at hn)
  have hr : ∀ q : List Int, q.length < 2 → PureCalls Tryz.prog 61 [intsP A q] (BP true) := fun q h => rises_c hA q h
  have none2 : ∀ q : List Int, q = [2] → ACalls Tryz.prog 66 [.ic (.sl 1 false (hid A (List.map encI q))), .fn (.func 65) [] [.ptr 0 0, .ptr 1 0, .ptr 2 0, .ptr 3 0]] (st3 A (.fn (.func 58) [] [])) (fun x s' => x = .ic (.lit (.bool false)) ∧ s' = st3 A (.fn (.func 58) [] [])) := by
    rintro q rfl
    refine noneFunc_c hA [2] 65 [.ptr 0 0, .ptr 1 0, .ptr 2 0, .ptr 3 0] _ (by decide) (fun n hn => ?_)
    obtain rfl : n = 2 := List.mem_singleton.1 hn
    exact pred_c hA _
  refine AWp.loopT 2 (fun k : Int => [(43, .ic (.lit (.int .i64 k)))]) (fun _ => _) (fun k => (2 - k).toNat) (fun k => k = 0 ∨ k = 1 ∨ k = 2) 0 (by conv => lhs; cbv) (.inl rfl) (.int rfl rfl .nil) rfl (fun _ => rfl) (fun _ => rfl) ?_
  intro k hk
  have n0 : (K2'.getD (Int.toNat 0) default).length = 0 := rfl
  have n1 : (K2'.getD (Int.toNat 1) default).length = 1 := rfl
  have m0 : (K2.getD (Int.toNat 0) default).length = 0 := rfl
  have m1 : (K2.getD (Int.toNat 1) default).length = 0 := rfl
  have w0 : ([0, 1] : List Int).getD (Int.toNat 0) default = 0 := rfl
  have w1 : ([0, 1] : List Int).getD (Int.toNat 1) default = 1 := rfl
  rcases hk with rfl | rfl | rfl
  · try first | refine AOLg.of [] ?_ | refine QSg.of [] ?_
    repeat' (first | (refine AWp.pass ?_; first | refine AWp.seq ?_ | refine AWp.block ?_ | refine AWp.skip ?_ | refine AWp.regG [] Zc ?_ | refine AWp.cond_t rfl ?_ | refine AWp.cond_f rfl ?_ | (refine AWp.cond rfl ?_ ?_ <;> intro hc <;> (try rw [hc]) <;> ((try simp only [zn] at hc) <;> (try simp (disch := omega) only [zz hA, zb, zy, reduceCtorEq, Bool.false_eq_true, Int.reduceLT, Int.reduceLE, Int.reduceNeg] at hc) <;> (try simp only [zw] at hc)) <;> (try (exfalso; omega))) | refine AWp.exit ?_ | refine AWp.ret ⟨.inr rfl, _, RetOk.ev tabOk Zc, ?_⟩ | refine W.AWp.drawVG [] rfl (by decide +kernel) Zc ?_) | (refine AOLg.pass ?_; refine AOLg.nx hA tabOk Zc ?_; first | refine NX.done ?_ | refine NX.gt ?_ | refine NX.gf ?_ | (refine NX.gs ?_ ?_ <;> intro hc <;> rw [hc] <;> ((try simp only [zn] at hc) <;> (try simp (disch := omega) only [zz hA, zb, zy, reduceCtorEq, Bool.false_eq_true, Int.reduceLT, Int.reduceLE, Int.reduceNeg] at hc) <;> (try simp only [zw] at hc)) <;> (try (exfalso; omega))) | (refine NX.kC ?_; first | ((with_reducible refine NX.call (hr _ ?_) ?_) <;> (first | refine AOLg.pass ?_ | exact Zd)) | ((first | refine NX.call (hr _ ?_) ?_) <;> (first | refine AOLg.pass ?_ | exact Zd)) | fail) | (refine NX.kO ?_; (first | refine NX.callO (hr _ ?_) (by simp [allEq]) rfl ?_) <;> (first | refine AOLg.pass ?_ | exact Zd)) | refine NX.k 1 (NX.one Z1 ?_) | refine NX.k 7 (NX.one Z7 ?_) | refine NX.k 9 (NX.one Z9 ?_) | refine NX.k 10 (NX.one Z10 ?_) | refine NX.k 14 (NX.one Z14 ?_) | refine NX.k 15 (NX.one Z15 ?_) | refine NX.k 18 (NX.one Z18 ?_) | (refine NX.one (One.scallT rfl rfl (odd_3 hA _ _ _ _ _ _ _ ⟨_, rfl⟩)) ?_) | (refine NX.one (One.scallT rfl rfl (odd_4 hA _ _ _ _ _ _ _ _ ⟨_, rfl⟩)) ?_) | (refine NX.one (One.scallT rfl rfl (noneE _ _ _ _ (by simp only [hid_eq hA]; rfl))) ?_) | refine NX.raw ?_) | (refine W.TRg.pass ?_; refine W.TRg.nx hA tabOk Zc ?_; first | refine W.TX.done ?_ | refine W.TX.gt ?_ | refine W.TX.gf ?_ | (refine W.TX.gs ?_ ?_ <;> intro hc <;> rw [hc] <;> ((try simp only [zn] at hc) <;> (try simp (disch := omega) only [zz hA, zb, zy, reduceCtorEq, Bool.false_eq_true, Int.reduceLT, Int.reduceLE, Int.reduceNeg] at hc) <;> (try simp only [zw] at hc)) <;> (try (exfalso; omega))) | (refine W.TX.kC ?_; first | ((with_reducible refine W.TX.call (hr _ ?_) ?_) <;> (first | refine W.TRg.pass ?_ | exact Zd)) | ((first | refine W.TX.call (hr _ ?_) ?_) <;> (first | refine W.TRg.pass ?_ | exact Zd)) | fail) | (refine W.TX.kO ?_; (first | refine W.TX.callO (hr _ ?_) (by simp [allEq]) rfl ?_) <;> (first | refine W.TRg.pass ?_ | exact Zd)) | refine W.TX.k 1 (W.TX.one Z1 ?_) | refine W.TX.k 7 (W.TX.one Z7 ?_) | refine W.TX.k 9 (W.TX.one Z9 ?_) | refine W.TX.k 10 (W.TX.one Z10 ?_) | refine W.TX.k 14 (W.TX.one Z14 ?_) | refine W.TX.k 15 (W.TX.one Z15 ?_) | refine W.TX.k 18 (W.TX.one Z18 ?_) | (refine W.TX.one (One.scallT rfl rfl (odd_3 hA _ _ _ _ _ _ _ ⟨_, rfl⟩)) ?_) | (refine W.TX.one (One.scallT rfl rfl (odd_4 hA _ _ _ _ _ _ _ _ ⟨_, rfl⟩)) ?_) | (refine W.TX.one (One.scallT rfl rfl (noneE _ _ _ _ (by simp only [hid_eq hA]; rfl))) ?_) | refine W.TX.raw ?_) | refine W.Fin3.of Zc (by repeat' (first | exact True.intro | exact rfl | refine And.intro ?_ ?_)) ?_ ?_ | (refine W.AllO.pass ?_; first | exact W.AllO.nil | (refine W.AllO.cons (One.ev hA tabOk ?_) ?_ <;> (first | refine W.AllO.pass ?_ | ((conv => lhs; cbv); done))) | (refine W.AllO.cons (One.skipB ?_) ?_ <;> (first | refine W.AllO.pass ?_ | ((conv => lhs; cbv); done))) | ((with_reducible refine W.AllO.call Zc (hr _ ?_) ?_ ?_) <;> (first | refine W.AllO.pass ?_ | exact rfl | exact Zd)) | refine W.AllO.consX ZX rfl rfl ?_) | refine Thn.exit ?_ | refine Blk.here ?_ | refine Blk.other (by decide) ?_ | refine ⟨.inl rfl, _, RetOk.ev tabOk Zc, ?_⟩ | fail)
    all_goals try (exfalso; omega)
    refine ⟨1, .inr (.inl rfl), by decide, rfl, rfl, (by repeat' (first | exact trimOk.nil | refine trimOk.same ?_ | refine trimOk.turn rfl ?_)), rfl, rfl, .int rfl (by simp [hA, real]; decide) .nil, Zk⟩
  · try first | refine AOLg.of [] ?_ | refine QSg.of [] ?_
    repeat' (first | (refine AWp.pass ?_; first | refine AWp.seq ?_ | refine AWp.block ?_ | refine AWp.skip ?_ | refine AWp.regG [] Zc ?_ | refine AWp.cond_t rfl ?_ | refine AWp.cond_f rfl ?_ | (refine AWp.cond rfl ?_ ?_ <;> intro hc <;> (try rw [hc]) <;> ((try simp only [zn] at hc) <;> (try simp (disch := omega) only [zz hA, zb, zy, reduceCtorEq, Bool.false_eq_true, Int.reduceLT, Int.reduceLE, Int.reduceNeg] at hc) <;> (try simp only [zw] at hc)) <;> (try (exfalso; omega))) | refine AWp.exit ?_ | refine AWp.ret ⟨.inr rfl, _, RetOk.ev tabOk Zc, ?_⟩ | refine W.AWp.drawVG [] rfl (by decide +kernel) Zc ?_) | (refine AOLg.pass ?_; refine AOLg.nx hA tabOk Zc ?_; first | refine NX.done ?_ | refine NX.gt ?_ | refine NX.gf ?_ | (refine NX.gs ?_ ?_ <;> intro hc <;> rw [hc] <;> ((try simp only [zn] at hc) <;> (try simp (disch := omega) only [zz hA, zb, zy, reduceCtorEq, Bool.false_eq_true, Int.reduceLT, Int.reduceLE, Int.reduceNeg] at hc) <;> (try simp only [zw] at hc)) <;> (try (exfalso; omega))) | (refine NX.kC ?_; first | ((with_reducible refine NX.call (hr _ ?_) ?_) <;> (first | refine AOLg.pass ?_ | exact Zd)) | ((first | refine NX.call (hr _ ?_) ?_) <;> (first | refine AOLg.pass ?_ | exact Zd)) | fail) | (refine NX.kO ?_; (first | refine NX.callO (hr _ ?_) (by simp [allEq]) rfl ?_) <;> (first | refine AOLg.pass ?_ | exact Zd)) | refine NX.k 1 (NX.one Z1 ?_) | refine NX.k 7 (NX.one Z7 ?_) | refine NX.k 9 (NX.one Z9 ?_) | refine NX.k 10 (NX.one Z10 ?_) | refine NX.k 14 (NX.one Z14 ?_) | refine NX.k 15 (NX.one Z15 ?_) | refine NX.k 18 (NX.one Z18 ?_) | (refine NX.one (One.scallT rfl rfl (odd_3 hA _ _ _ _ _ _ _ ⟨_, rfl⟩)) ?_) | (refine NX.one (One.scallT rfl rfl (odd_4 hA _ _ _ _ _ _ _ _ ⟨_, rfl⟩)) ?_) | (refine NX.one (One.scallT rfl rfl (none2 _ (by simp only [hid_eq hA]; rfl))) ?_) | (refine NX.one (One.scallT rfl rfl (noneE _ _ _ _ (by simp only [hid_eq hA]; rfl))) ?_) | refine NX.raw ?_) | (refine W.TRg.pass ?_; refine W.TRg.nx hA tabOk Zc ?_; first | refine W.TX.done ?_ | refine W.TX.gt ?_ | refine W.TX.gf ?_ | (refine W.TX.gs ?_ ?_ <;> intro hc <;> rw [hc] <;> ((try simp only [zn] at hc) <;> (try simp (disch := omega) only [zz hA, zb, zy, reduceCtorEq, Bool.false_eq_true, Int.reduceLT, Int.reduceLE, Int.reduceNeg] at hc) <;> (try simp only [zw] at hc)) <;> (try (exfalso; omega))) | (refine W.TX.kC ?_; first | ((with_reducible refine W.TX.call (hr _ ?_) ?_) <;> (first | refine W.TRg.pass ?_ | exact Zd)) | ((first | refine W.TX.call (hr _ ?_) ?_) <;> (first | refine W.TRg.pass ?_ | exact Zd)) | fail) | (refine W.TX.kO ?_; (first | refine W.TX.callO (hr _ ?_) (by simp [allEq]) rfl ?_) <;> (first | refine W.TRg.pass ?_ | exact Zd)) | refine W.TX.k 1 (W.TX.one Z1 ?_) | refine W.TX.k 7 (W.TX.one Z7 ?_) | refine W.TX.k 9 (W.TX.one Z9 ?_) | refine W.TX.k 10 (W.TX.one Z10 ?_) | refine W.TX.k 14 (W.TX.one Z14 ?_) | refine W.TX.k 15 (W.TX.one Z15 ?_) | refine W.TX.k 18 (W.TX.one Z18 ?_) | (refine W.TX.one (One.scallT rfl rfl (odd_3 hA _ _ _ _ _ _ _ ⟨_, rfl⟩)) ?_) | (refine W.TX.one (One.scallT rfl rfl (odd_4 hA _ _ _ _ _ _ _ _ ⟨_, rfl⟩)) ?_) | (refine W.TX.one (One.scallT rfl rfl (none2 _ (by simp only [hid_eq hA]; rfl))) ?_) | (refine W.TX.one (One.scallT rfl rfl (noneE _ _ _ _ (by simp only [hid_eq hA]; rfl))) ?_) | refine W.TX.raw ?_) | refine W.Fin3.of Zc (by repeat' (first | exact True.intro | exact rfl | refine And.intro ?_ ?_)) ?_ ?_ | (refine W.AllO.pass ?_; first | exact W.AllO.nil | (refine W.AllO.cons (One.ev hA tabOk ?_) ?_ <;> (first | refine W.AllO.pass ?_ | ((conv => lhs; cbv); done))) | (refine W.AllO.cons (One.skipB ?_) ?_ <;> (first | refine W.AllO.pass ?_ | ((conv => lhs; cbv); done))) | ((with_reducible refine W.AllO.call Zc (hr _ ?_) ?_ ?_) <;> (first | refine W.AllO.pass ?_ | exact rfl | exact Zd)) | refine W.AllO.consX ZX rfl rfl ?_) | refine Thn.exit ?_ | refine Blk.here ?_ | refine Blk.other (by decide) ?_ | refine ⟨.inl rfl, _, RetOk.ev tabOk Zc, ?_⟩ | fail)
    all_goals try (exfalso; omega)
    refine ⟨2, .inr (.inr rfl), by decide, rfl, rfl, (by repeat' (first | exact trimOk.nil | refine trimOk.same ?_ | refine trimOk.turn rfl ?_)), rfl, rfl, .int rfl (by simp [hA, real]; decide) .nil, Zk⟩
  · try first | refine AOLg.of [] ?_ | refine QSg.of [] ?_
    repeat' (first | (refine AWp.pass ?_; first | refine AWp.seq ?_ | refine AWp.block ?_ | refine AWp.skip ?_ | refine AWp.regG [] Zc ?_ | refine AWp.cond_t rfl ?_ | refine AWp.cond_f rfl ?_ | (refine AWp.cond rfl ?_ ?_ <;> intro hc <;> (try rw [hc]) <;> ((try simp only [zn] at hc) <;> (try simp (disch := omega) only [zz hA, zb, zy, reduceCtorEq, Bool.false_eq_true, Int.reduceLT, Int.reduceLE, Int.reduceNeg] at hc) <;> (try simp only [zw] at hc)) <;> (try (exfalso; omega))) | refine AWp.exit ?_ | refine AWp.ret ⟨.inr rfl, _, RetOk.ev tabOk Zc, ?_⟩ | refine AWp.drawVG [] rfl (by decide +kernel) Zc ?_) | (refine AOLg.pass ?_; refine AOLg.nx hA tabOk Zc ?_; first | refine NX.done ?_ | refine NX.gt ?_ | refine NX.gf ?_ | (refine NX.gs ?_ ?_ <;> intro hc <;> rw [hc] <;> ((try simp only [zn] at hc) <;> (try simp (disch := omega) only [zz hA, zb, zy, reduceCtorEq, Bool.false_eq_true, Int.reduceLT, Int.reduceLE, Int.reduceNeg] at hc) <;> (try simp only [zw] at hc)) <;> (try (exfalso; omega))) | refine NX.k 1 (NX.one Z1 ?_) | refine NX.k 7 (NX.one Z7 ?_) | refine NX.k 9 (NX.one Z9 ?_) | refine NX.k 10 (NX.one Z10 ?_) | refine NX.k 14 (NX.one Z14 ?_) | refine NX.k 15 (NX.one Z15 ?_) | refine NX.k 18 (NX.one Z18 ?_) | refine NX.raw ?_) | (refine TRg.pass ?_; refine TRg.nx hA tabOk Zc ?_; first | refine TX.done ?_ | refine TX.gt ?_ | refine TX.gf ?_ | (refine TX.gs ?_ ?_ <;> intro hc <;> rw [hc] <;> ((try simp only [zn] at hc) <;> (try simp (disch := omega) only [zz hA, zb, zy, reduceCtorEq, Bool.false_eq_true, Int.reduceLT, Int.reduceLE, Int.reduceNeg] at hc) <;> (try simp only [zw] at hc)) <;> (try (exfalso; omega))) | refine TX.k 1 (TX.one Z1 ?_) | refine TX.k 7 (TX.one Z7 ?_) | refine TX.k 9 (TX.one Z9 ?_) | refine TX.k 10 (TX.one Z10 ?_) | refine TX.k 14 (TX.one Z14 ?_) | refine TX.k 15 (TX.one Z15 ?_) | refine TX.k 18 (TX.one Z18 ?_) | refine TX.raw ?_) | refine Fin3.of Zc (by repeat' (first | exact True.intro | exact rfl | refine And.intro ?_ ?_)) ?_ ?_ | (refine AllO.pass ?_; first | exact AllO.nil | (refine AllO.cons (One.ev hA tabOk ?_) ?_ <;> (first | refine AllO.pass ?_ | ((conv => lhs; cbv); done))) | (refine AllO.cons (One.skipB ?_) ?_ <;> (first | refine AllO.pass ?_ | ((conv => lhs; cbv); done))) | refine AllO.consX ZX rfl rfl ?_) | refine Thn.exit ?_ | refine Blk.here ?_ | refine Blk.other (by decide) ?_ | refine ⟨.inl rfl, _, RetOk.ev tabOk Zc, ?_⟩ | fail)
    all_goals first | (exfalso; omega) | (refine rPV_then (by conv => lhs; cbv) ?_; rfl) | fail
set_option maxHeartbeats 2000000 in
theorem shown12_c : PureCalls Tryz.prog 5 [] (BP true) := by
  have h1 := two_c hA
  have h2 := new_c hA
  have h3 := add_c2 hA
  have h4 := rep_c hA K4 (layM K4) k4_ok [] [0, 1] [(-1, 0), (-1, 0)] [] K2' K2 v2_right 3
  rw [show repM K4 [0, 1] 3 = 3 by decide +kernel, hid_eq hA (α := Int)] at h4
  have h5 := iright_c hA
  have n0 : K2'.length = 2 := rfl
  have n1 : (K2'.getD (Int.toNat 1) default).length = 1 := rfl
  have n2 : (K2'.getD (Int.toNat 1) default).getD (Int.toNat 0) default = 2 := rfl
  refine PureCalls.of Tryz.func5 rfl (by kernel_rfl) rfl ?_
  try first | refine AOLg.of [] ?_ | refine QSg.of [] ?_
  repeat' (first | (refine AWp.pass ?_; first | refine AWp.seq ?_ | refine AWp.block ?_ | refine AWp.skip ?_ | refine AWp.regG [] Zc ?_ | refine AWp.cond_t rfl ?_ | refine AWp.cond_f rfl ?_ | (refine AWp.cond rfl ?_ ?_ <;> intro hc <;> (try rw [hc]) <;> ((try simp only [zn] at hc) <;> (try simp (disch := omega) only [zz hA, zb, zy, reduceCtorEq, Bool.false_eq_true, Int.reduceLT, Int.reduceLE, Int.reduceNeg] at hc) <;> (try simp only [zw] at hc)) <;> (try (exfalso; omega))) | refine AWp.exit ?_ | refine AWp.ret ⟨.inr rfl, _, RetOk.ev tabOk Zc, ?_⟩ | refine AWp.drawVG [] rfl (by decide +kernel) Zc ?_) | (refine AOLg.pass ?_; refine AOLg.nx hA tabOk Zc ?_; first | refine NX.done ?_ | refine NX.gt ?_ | refine NX.gf ?_ | (refine NX.gs ?_ ?_ <;> intro hc <;> rw [hc] <;> ((try simp only [zn] at hc) <;> (try simp (disch := omega) only [zz hA, zb, zy, reduceCtorEq, Bool.false_eq_true, Int.reduceLT, Int.reduceLE, Int.reduceNeg] at hc) <;> (try simp only [zw] at hc)) <;> (try (exfalso; omega))) | (refine NX.kC ?_; first | (with_reducible refine NX.call (h1) ?_) | (with_reducible refine NX.call (h2) ?_) | (with_reducible refine NX.call (h3) ?_) | (with_reducible refine NX.call (h4) ?_) | (with_reducible refine NX.call (h5) ?_) | (refine NX.call (PureCalls.weaken (h2) ?_) ?_ <;> (first | refine AOLg.pass ?_ | ((with_reducible repeat' (first | exact PLes.nil | exact ILes.nil | refine PLes.cons (PLe.refl _) ?_ | refine PLes.cons (PLe.c (ILe.nilM hA _ _ _ _)) ?_ | refine PLes.cons (PLe.agg ?_) ?_ | refine ILes.cons (ILe.refl _) ?_ | refine ILes.cons (ILe.nilM hA _ _ _ _) ?_)); done) | exact Zd)) | ((first | refine NX.call (h1) ?_ | refine NX.call (h2) ?_ | refine NX.call (h3) ?_ | refine NX.call (h4) ?_ | refine NX.call (h5) ?_)) | fail) | (refine NX.kO ?_; (first | refine NX.callO (h1) (by simp [allEq]) rfl ?_ | refine NX.callO (h2) (by simp [allEq]) rfl ?_ | refine NX.callO (h3) (by simp [allEq]) rfl ?_ | refine NX.callO (h4) (by simp [allEq]) rfl ?_ | refine NX.callO (h5) (by simp [allEq]) rfl ?_)) | refine NX.k 1 (NX.one Z1 ?_) | refine NX.k 8 (NX.one Z8 ?_) | refine NX.k 10 (NX.one Z10 ?_) | refine NX.k 14 (NX.one Z14 ?_) | refine NX.k 15 (NX.one Z15 ?_) | refine NX.k 18 (NX.one Z18 ?_) | (refine NX.one (One.buildArr tabOk rfl rfl rfl rfl rfl rfl) ?_) | refine NX.raw ?_) | (refine TRg.pass ?_; refine TRg.nx hA tabOk Zc ?_; first | refine TX.done ?_ | refine TX.gt ?_ | refine TX.gf ?_ | (refine TX.gs ?_ ?_ <;> intro hc <;> rw [hc] <;> ((try simp only [zn] at hc) <;> (try simp (disch := omega) only [zz hA, zb, zy, reduceCtorEq, Bool.false_eq_true, Int.reduceLT, Int.reduceLE, Int.reduceNeg] at hc) <;> (try simp only [zw] at hc)) <;> (try (exfalso; omega))) | (refine TX.kC ?_; first | (with_reducible refine TX.call (h1) ?_) | (with_reducible refine TX.call (h2) ?_) | (with_reducible refine TX.call (h3) ?_) | (with_reducible refine TX.call (h4) ?_) | (with_reducible refine TX.call (h5) ?_) | (refine TX.call (PureCalls.weaken (h2) ?_) ?_ <;> (first | refine TRg.pass ?_ | ((with_reducible repeat' (first | exact PLes.nil | exact ILes.nil | refine PLes.cons (PLe.refl _) ?_ | refine PLes.cons (PLe.c (ILe.nilM hA _ _ _ _)) ?_ | refine PLes.cons (PLe.agg ?_) ?_ | refine ILes.cons (ILe.refl _) ?_ | refine ILes.cons (ILe.nilM hA _ _ _ _) ?_)); done) | exact Zd)) | ((first | refine TX.call (h1) ?_ | refine TX.call (h2) ?_ | refine TX.call (h3) ?_ | refine TX.call (h4) ?_ | refine TX.call (h5) ?_)) | fail) | (refine TX.kO ?_; (first | refine TX.callO (h1) (by simp [allEq]) rfl ?_ | refine TX.callO (h2) (by simp [allEq]) rfl ?_ | refine TX.callO (h3) (by simp [allEq]) rfl ?_ | refine TX.callO (h4) (by simp [allEq]) rfl ?_ | refine TX.callO (h5) (by simp [allEq]) rfl ?_)) | refine TX.k 1 (TX.one Z1 ?_) | refine TX.k 8 (TX.one Z8 ?_) | refine TX.k 10 (TX.one Z10 ?_) | refine TX.k 14 (TX.one Z14 ?_) | refine TX.k 15 (TX.one Z15 ?_) | refine TX.k 18 (TX.one Z18 ?_) | (refine TX.one (One.buildArr tabOk rfl rfl rfl rfl rfl rfl) ?_) | refine TX.raw ?_) | refine Fin3.of Zc (by repeat' (first | exact True.intro | exact rfl | refine And.intro ?_ ?_)) ?_ ?_ | (refine AllO.pass ?_; first | exact AllO.nil | (refine AllO.cons (One.ev hA tabOk ?_) ?_ <;> (first | refine AllO.pass ?_ | ((conv => lhs; cbv); done))) | (refine AllO.cons (One.skipB ?_) ?_ <;> (first | refine AllO.pass ?_ | ((conv => lhs; cbv); done))) | ((with_reducible refine AllO.call Zc (h1) ?_ ?_) <;> (first | refine AllO.pass ?_ | exact rfl | exact Zd)) | ((with_reducible refine AllO.call Zc (h2) ?_ ?_) <;> (first | refine AllO.pass ?_ | exact rfl | exact Zd)) | ((with_reducible refine AllO.call Zc (h3) ?_ ?_) <;> (first | refine AllO.pass ?_ | exact rfl | exact Zd)) | ((with_reducible refine AllO.call Zc (h4) ?_ ?_) <;> (first | refine AllO.pass ?_ | exact rfl | exact Zd)) | ((with_reducible refine AllO.call Zc (h5) ?_ ?_) <;> (first | refine AllO.pass ?_ | exact rfl | exact Zd)) | refine AllO.consX ZX rfl rfl ?_ | ((refine AllO.consX (One.buildArr tabOk rfl rfl rfl rfl rfl rfl) rfl rfl ?_) <;> (first | refine AllO.pass ?_ | exact Zd))) | refine Thn.exit ?_ | refine Blk.here ?_ | refine Blk.other (by decide) ?_ | refine ⟨.inl rfl, _, RetOk.ev tabOk Zc, ?_⟩ | fail)
  all_goals first | (exfalso; omega) | (refine rPV_then (by conv => lhs; cbv) ?_; rfl) | fail
end Go.Proofs.YtkkjlmcnfoncdaaGreat.Aw

/- Two variables made one: a plain law. -/
set_option linter.unusedVariables false
set_option linter.unusedSimpArgs false
set_option linter.unusedSectionVars false
namespace Go.Proofs.YtkkjlmcnfoncdaaGreat.Aw
open Go Go.RowKit
set_option maxRecDepth 10000
/-- What is so where two classes become one. -/
structure Joined (V R : List Int) (x y p q first gone : Int) (V' : List Int) : Prop where
  px : findU V x = p
  qy : findU V y = q
  ne : p ≠ q
  v' : joinV V R p q = V'
  fp : findU V' p = first
  fx : findU V' x = first
  fy : findU V' y = first
  go : gone = p + q - first
  own : first = p ∨ first = q
  p0 : 0 ≤ p ∧ p < V.length
  q0 : 0 ≤ q ∧ q < V.length
  f0 : 0 ≤ first ∧ first < V.length
  g0 : 0 ≤ gone ∧ gone < V.length
  ru : RightU V' R
  len : V'.length = V.length
  old : ∀ v : Nat, (v : Int) ≠ gone → V'.getD v default = V.getD v default
theorem joined {V R : List Int} (hR : RightU V R) {x y : Int} (x0 : 0 ≤ x) (x1 : x < V.length) (y0 : 0 ≤ y) (y1 : y < V.length) (hne : findU V x ≠ findU V y) :
    ∃ first gone, Joined V R x y (findU V x) (findU V y) first gone (joinV V R (findU V x) (findU V y)) := by
  have hp := find_range hR x0 x1
  have hq := find_range hR y0 y1
  have ep := find_find hR x0 x1
  have eq := find_find hR y0 y1
  generalize hpd : findU V x = p at *
  generalize hqd : findU V y = q at *
  have hne2 : findU V p ≠ findU V q := by rw [ep, eq]; exact hne
  have hj := joinP_ok hR hp.1 hp.2 hq.1 hq.2 hne2
  rw [ep, eq] at hj
  have hf := fun (n : Int) (n0 : 0 ≤ n) (n1 : n < V.length) => joinV_find hR hp.1 hp.2 hq.1 hq.2 n0 n1
  have hr := joinV_right hR hp.1 hp.2 hq.1 hq.2
  have hl := joinV_len V R p q
  have fp := hf p hp.1 hp.2
  have fx := hf x x0 x1
  have fy := hf y y0 y1
  rw [if_pos (.inl rfl)] at fp
  rw [hpd, ep, if_pos (.inl rfl)] at fx
  rw [hqd, eq, if_pos (.inr rfl)] at fy
  have hv : joinV V R p q = V.set (joinP V R p q).2.toNat (joinP V R p q).1 := by unfold joinV; rw [if_neg hne2]
  refine ⟨(joinP V R p q).1, (joinP V R p q).2, ⟨hpd, hqd, hne, rfl, fp, fx, fy, ?_, ?_, hp, hq, ?_, ?_, hr, hl, fun v hvg => ?_⟩⟩
  · rcases hj.2 with ⟨h1, h2⟩ | ⟨h1, h2⟩ <;> rw [h1, h2] <;> omega
  · rcases hj.2 with ⟨h1, h2⟩ | ⟨h1, h2⟩
    · exact .inl h1
    · exact .inr h1
  · rcases hj.2 with ⟨h1, h2⟩ | ⟨h1, h2⟩ <;> rw [h1] <;> assumption
  · rcases hj.2 with ⟨h1, h2⟩ | ⟨h1, h2⟩ <;> rw [h2] <;> assumption
  · have g0 : 0 ≤ (joinP V R p q).2 ∧ (joinP V R p q).2 < V.length := by rcases hj.2 with ⟨h1, h2⟩ | ⟨h1, h2⟩ <;> rw [h2] <;> assumption
    rw [hv, getD_setU _ _ _ (by omega), if_neg (by omega)]
def outs (K : List (List Int)) (V' : List Int) (first : Int) (pre suc : List Int) : List (Int × Int) := pre.map (fun id => (repM K V' id, atV K first)) ++ suc.map (fun id => (atV K first, repM K V' id))
theorem outs_len (K : List (List Int)) (V' : List Int) (first : Int) (pre suc : List Int) : (outs K V' first pre suc).length = pre.length + suc.length := by unfold outs; simp
end Go.Proofs.YtkkjlmcnfoncdaaGreat.Aw

/- The abstract walk, part 50: an own row told in other words; a nil stored into a row of rows. -/
set_option linter.unusedVariables false
set_option linter.unusedSimpArgs false
namespace Go.Proofs.YtkkjlmcnfoncdaaGreat.Aw
open Go Go.RowKit
theorem Flat.lx {w : World} {ok : Nat → Prop} {sz : Nat} {xs ys : List (List IC)} {cells : List Value} (h : Flat w ok sz xs cells) (k : ILxr xs ys) : Flat w ok sz ys cells := by
  obtain ⟨hl, hg⟩ := k.get
  refine ⟨by rw [← hl]; exact h.len, fun j r hj => ?_, fun j r i y hj hi => ?_, h.one⟩
  · obtain ⟨x, h1, h2⟩ := hg j r hj
    rw [← h2.get.1]; exact h.rows j x h1
  · obtain ⟨x, h1, h2⟩ := hg j r hj
    obtain ⟨u, h3, h4⟩ := h2.get.2 i y hi
    obtain ⟨v, h5, h6⟩ := h.rel j x i u h1 h3
    exact ⟨v, h5, h6.lx h4⟩
theorem SR.rerow {G : Nat → Prop} {s : List AObj} {g : Ghost} {w : World} (hr : SR G s g w) (i : Nat) {m : Bool} {v e sz : Nat} {xs ys : List (List IC)} (hi : s[i]? = some (.row m v e sz xs)) (hk : ILxr xs ys) :
    Evo s g w (s.set i (.row m v e sz ys)) g w ∧ SR G (s.set i (.row m v e sz ys)) g w := by
  have hil := (List.getElem?_eq_some_iff.1 hi).1
  have get : ∀ j o, (s.set i (.row m v e sz ys))[j]? = some o → (j = i ∧ o = .row m v e sz ys) ∨ (j ≠ i ∧ s[j]? = some o) := fun j o hj => by
    by_cases e : i = j
    · subst e
      rw [List.getElem?_set_self hil] at hj
      exact .inl ⟨rfl, (Option.some.inj hj).symm⟩
    · rw [List.getElem?_set_ne e] at hj
      exact .inr ⟨fun h => e h.symm, hj⟩
  have hev : Evo s g w (s.set i (.row m v e sz ys)) g w := by
    refine ⟨rfl, rfl, rfl, Nat.le_refl _, fun _ _ _ => rfl, fun b _ ⟨j, o, hj, hm, hg⟩ => ?_, by simp, fun j m1 t1 c1 _ hj => ?_, fun j m1 v1 e1 z1 x1 _ hj => ?_, fun j c1 _ hj => ?_⟩
    · rcases get j o hj with ⟨rfl, rfl⟩ | ⟨_, h⟩
      · exact ⟨j, _, hi, hm, hg⟩
      · exact ⟨j, o, h, hm, hg⟩
    · rcases get j _ hj with ⟨rfl, e⟩ | ⟨_, h⟩
      · cases e
      · exact ⟨⟨_, _, h⟩, rfl⟩
    · rcases get j _ hj with ⟨rfl, e⟩ | ⟨_, h⟩
      · simp only [AObj.row.injEq] at e
        obtain ⟨rfl, rfl, rfl, rfl, rfl⟩ := e
        exact ⟨_, _, _, hi, Nat.le_refl _, fun _ => rfl⟩
      · exact ⟨_, _, _, h, Nat.le_refl _, fun _ => rfl⟩
    · rcases get j _ hj with ⟨rfl, e⟩ | ⟨_, h⟩
      · cases e
      · exact ⟨⟨_, h⟩, rfl⟩
  refine ⟨hev, ⟨fun j o hj => ?_, fun j k o o' b hj hk' l1 l2 b1 b2 => ?_, hr.new⟩⟩
  · rcases get j o hj with ⟨rfl, rfl⟩ | ⟨_, h⟩
    · obtain ⟨cells, h1, h2, h3⟩ := hr.obj j _ hi
      have : OR G s g w j (.row m v e sz ys) := ⟨cells, by rw [← hk.get.1]; exact h1, h2, h3.lx hk⟩
      exact this.evo hev rfl fun _ _ => rfl
    · exact (hr.obj j o h).evo hev rfl fun _ _ => rfl
  · have f : ∀ (j : Nat) (o : AObj), (s.set i (.row m v e sz ys))[j]? = some o → o.live = true → ∃ o2 : AObj, s[j]? = some o2 ∧ o2.live = true := fun j o hj hl => by
      rcases get j o hj with ⟨rfl, rfl⟩ | ⟨_, h⟩
      · exact ⟨_, hi, hl⟩
      · exact ⟨o, h, hl⟩
    obtain ⟨o2, h2, l2'⟩ := f j o hj l1
    obtain ⟨o3, h3, l3'⟩ := f k o' hk' l2
    exact hr.inj j k o2 o3 b h2 h3 l2' l3' b1 b2
theorem AOL.rerow {r : Option Nat} {P : Program} {ops : Array Oper} {l : List Nat} {s : St} {Q : St → Prop} (i : Nat) {m : Bool} {v e sz : Nat} {xs : List (List IC)} (ys : List (List IC)) (hi : s.st[i]? = some (.row m v e sz xs)) (hc : ILxr xs ys) (h : AOL r P ops l ⟨s.nt, s.env, s.st.set i (.row m v e sz ys)⟩ Q) : AOL r P ops l s Q := fun G g w a QQ hr k => by
  obtain ⟨hev, hsr⟩ := hr.sr.rerow i hi hc
  exact h G g w a QQ ⟨fun t => (hr.slots t).evo hev, hr.size, hsr⟩ fun s' g' w' a' q hr' he hd hf => k s' g' w' a' q hr' (hev.trans he) hd hf
theorem One.rerow {r : Option Nat} {P : Program} {ops : Array Oper} {i : Nat} {s : St} {x : AV} {st st2 : List AObj} (h : One r P ops i s x st) (q : Nat) {m : Bool} {v e sz : Nat} {xs ys : List (List IC)} (hq : st[q]? = some (.row m v e sz xs)) (hk : ILxr xs ys) (e2 : st2 = st.set q (.row m v e sz ys)) : One r P ops i s x st2 := by
  subst e2
  intro rest Q k
  refine h rest Q ?_
  generalize dstOf ops i = d at k ⊢
  cases d with
  | none => exact AOL.rerow q ys hq hk k
  | some d => exact AOL.rerow q ys hq hk k
theorem ILxs.refl : ∀ l : List IC, ILxs l l
  | [] => .nil
  | x :: r => .cons (.le (.refl x)) (ILxs.refl r)
theorem ILxr.refl : ∀ l : List (List IC), ILxr l l
  | [] => .nil
  | x :: r => .cons (ILxs.refl x) (ILxr.refl r)
theorem ILxr.set {x y : List IC} (h : ILxs x y) : ∀ (l : List (List IC)) (n : Nat), ILxr (l.set n x) (l.set n y)
  | [], _ => .nil
  | a :: r, 0 => .cons h (ILxr.refl r)
  | a :: r, n + 1 => .cons (ILxs.refl a) (ILxr.set h r n)
theorem One.storeNilM {r : Option Nat} {P : Program} {ops : Array Oper} {i : Nat} {s : St} {tab : List TI} {A : Ar} (hA : A = real) (hT : TabOk P tab) {l : List (List Int)} {t : TypeId} {j : TI} {x y : Operand} {q ver n e a : Nat} (h : opAt ops i s = some (.store t x y)) (ht : tiAt tab t = some j) (hx : s.ev x = .rat q ver n 0)
    (hs : s.st[q]? = some (.row true ver e 1 (A (.hid _) fun _ => List.map (encK A) l))) (hy : s.ev y = .ic (.sl a true [])) (hj : j.size = 1) (hn : n < l.length) :
    One r P ops i s .any (s.st.set q (.row true ver e 1 (A (.hid _) fun _ => List.map (encK A) (l.set n [])))) := by
  have hl : ∀ z : List Int, (encK A z).length = 1 := fun z => rfl
  have h1 := One.storeRat (r := r) (row := encK A l[n]) (yc := [.sl a true []]) hT h ht hx hs (by rw [rhid hA]; simp [hn]) (by rw [hy]; rfl) rfl (by rw [hj]; rfl) (Nat.le_refl 1)
  have hq : q < s.st.length := (List.getElem?_eq_some_iff.1 hs).1
  have hk : ILxs [.sl a true []] (encK A []) := by
    unfold encK
    exact .cons (.le (ILe.nilM hA _ _ _ _)) .nil
  rw [rhid hA] at h1
  have e : (encK A l[n]).take 0 ++ [IC.sl a true []] ++ (encK A l[n]).drop (0 + [IC.sl a true []].length) = [IC.sl a true []] := rfl
  rw [e] at h1
  refine One.rerow h1 q (List.getElem?_set_self hq) (ys := List.map (encK A) (l.set n [])) ?_ ?_
  · rw [List.map_set]
    exact ILxr.set hk _ _
  · rw [List.set_set, rhid hA]
end Go.Proofs.YtkkjlmcnfoncdaaGreat.Aw

/- Contracts of package ifg, part 6: two variables made one. -/
set_option linter.unusedVariables false
set_option linter.unusedSimpArgs false
set_option linter.unusedSectionVars false
namespace Go.Proofs.YtkkjlmcnfoncdaaGreat.Aw
open Go Go.RowKit
set_option maxRecDepth 10000
attribute [local irreducible] AWp AOL QS One AOLg QSg NX QX TRg TX AllO Fin3
attribute [local irreducible] W.TRg W.TX W.AllO W.Fin3
theorem take_map {α β : Type} [Inhabited α] (f : α → β) (l : List α) (k : Nat) (h : k < l.length) : (l.take (k + 1)).map f = (l.take k).map f ++ [f (l.getD k default)] := by
  rw [List.take_add_one, List.map_append, List.getD_eq_getElem?_getD, List.getElem?_eq_getElem h]
  rfl
theorem rPV_gr2 {st : List AObj} {i j k v u w e e' e2 sz sz' s2 : Nat} {m m' m2 : Bool} {xs ys zs : List (List IC)} {a b c d : IC} (h2 : st[i]? = some (.row m v e sz xs)) (h3 : st[j]? = some (.row m' u e' sz' ys)) (h4 : st[k]? = some (.row m2 w e2 s2 zs)) :
    rPV st (.tup [.agg [.ic a, .ic b, .ic c, .ic d, .own i v, .own j u], .own k w]) = some (.tup [.agg [a, b, c, d, .sl sz false xs, .sl sz' false ys], .c (.sl s2 false zs)]) := by
  simp [rPV, rPVs, rICs, rIC, toIC, h2, h3, h4]
variable {A : Ar} (hA : A = real)
include hA
theorem cloneK_4 (p0 p1 p2 p3 : AObj) (P : List (List Int)) (hl : P.length ≤ 1000000) : ACalls Tryz.prog 34 [.ic (.sl 1 false (hid A (List.map (encK A) P)))] [p0, p1, p2, p3] (fun x st' => x = .own 4 1 ∧ st' = [p0, p1, p2, p3, .row true 1 24 1 (hid A (List.map (encK A) P))]) := by
  refine ACalls.of Tryz.func34 rfl (by kernel_rfl) rfl ?_
  try first | refine AOLg.of [] ?_ | refine QSg.of [] ?_
  repeat' (first | (refine AWp.pass ?_; first | refine AWp.seq ?_ | refine AWp.block ?_ | refine AWp.skip ?_ | refine AWp.regG [] Zc ?_ | refine AWp.cond_t rfl ?_ | refine AWp.cond_f rfl ?_ | (refine AWp.cond rfl ?_ ?_ <;> intro hc <;> (try rw [hc]) <;> ((try simp only [zn] at hc) <;> (try simp (disch := omega) only [zz hA, zb, zy, reduceCtorEq, Bool.false_eq_true, Int.reduceLT, Int.reduceLE, Int.reduceNeg] at hc) <;> (try simp only [zw] at hc)) <;> (try (exfalso; omega))) | refine AWp.exit ?_ | refine AWp.ret ⟨.inr rfl, _, RetOk.ev tabOk Zc, ?_⟩) | (refine AOLg.pass ?_; refine AOLg.nx hA tabOk Zc ?_; first | refine NX.done ?_ | refine NX.gt ?_ | refine NX.gf ?_ | (refine NX.gs ?_ ?_ <;> intro hc <;> rw [hc] <;> ((try simp only [zn] at hc) <;> (try simp (disch := omega) only [zz hA, zb, zy, reduceCtorEq, Bool.false_eq_true, Int.reduceLT, Int.reduceLE, Int.reduceNeg] at hc) <;> (try simp only [zw] at hc)) <;> (try (exfalso; omega))) | refine NX.k 8 (NX.one Z8 ?_) | refine NX.k 11 (NX.one Z11 ?_) | refine NX.k 17 (NX.one Z17 ?_) | refine NX.raw ?_) | refine Thn.exit ?_ | refine Blk.here ?_ | refine Blk.other (by decide) ?_ | refine ⟨.inl rfl, _, RetOk.ev tabOk Zc, ?_⟩ | fail)
  refine AOL.eqNil tabOk rfl rfl rfl ?_
  intro b hb
  cases b with
  | true =>
    have hP : P = [] := by have := hb rfl; simpa [hid_eq hA] using this
    subst hP
    try first | refine AOLg.of [2] ?_ | refine QSg.of [2] ?_
    repeat' (first | (refine AWp.pass ?_; first | refine AWp.seq ?_ | refine AWp.block ?_ | refine AWp.skip ?_ | refine AWp.regG [2] Zc ?_ | refine AWp.cond_t rfl ?_ | refine AWp.cond_f rfl ?_ | (refine AWp.cond rfl ?_ ?_ <;> intro hc <;> (try rw [hc]) <;> ((try simp only [zn] at hc) <;> (try simp (disch := omega) only [zz hA, zb, zy, reduceCtorEq, Bool.false_eq_true, Int.reduceLT, Int.reduceLE, Int.reduceNeg] at hc) <;> (try simp only [zw] at hc)) <;> (try (exfalso; omega))) | refine AWp.exit ?_ | refine AWp.ret ⟨.inr rfl, _, RetOk.ev tabOk Zc, ?_⟩) | (refine AOLg.pass ?_; refine AOLg.nx hA tabOk Zc ?_; first | refine NX.done ?_ | refine NX.gt ?_ | refine NX.gf ?_ | (refine NX.gs ?_ ?_ <;> intro hc <;> rw [hc] <;> ((try simp only [zn] at hc) <;> (try simp (disch := omega) only [zz hA, zb, zy, reduceCtorEq, Bool.false_eq_true, Int.reduceLT, Int.reduceLE, Int.reduceNeg] at hc) <;> (try simp only [zw] at hc)) <;> (try (exfalso; omega))) | refine NX.k 8 (NX.one Z8 ?_) | refine NX.k 11 (NX.one Z11 ?_) | refine NX.k 17 (NX.one Z17 ?_) | (refine NX.one (One.nilOwn1 tabOk 2 23 rfl rfl rfl) ?_) | refine NX.raw ?_) | refine Thn.exit ?_ | refine Blk.here ?_ | refine Blk.other (by decide) ?_ | refine ⟨.inl rfl, _, RetOk.ev tabOk Zc, ?_⟩ | fail)
    exact ⟨rfl, by simp [hid_eq hA]⟩
  | false =>
    try first | refine AOLg.of [] ?_ | refine QSg.of [] ?_
    repeat' (first | (refine AWp.pass ?_; first | refine AWp.seq ?_ | refine AWp.block ?_ | refine AWp.skip ?_ | refine AWp.regG [] Zc ?_ | refine AWp.cond_t rfl ?_ | refine AWp.cond_f rfl ?_ | (refine AWp.cond rfl ?_ ?_ <;> intro hc <;> (try rw [hc]) <;> ((try simp only [zn] at hc) <;> (try simp (disch := omega) only [zz hA, zb, zy, reduceCtorEq, Bool.false_eq_true, Int.reduceLT, Int.reduceLE, Int.reduceNeg] at hc) <;> (try simp only [zw] at hc)) <;> (try (exfalso; omega))) | refine AWp.exit ?_ | refine AWp.ret ⟨.inr rfl, _, RetOk.ev tabOk Zc, ?_⟩) | (refine AOLg.pass ?_; refine AOLg.nx hA tabOk Zc ?_; first | refine NX.done ?_ | refine NX.gt ?_ | refine NX.gf ?_ | (refine NX.gs ?_ ?_ <;> intro hc <;> rw [hc] <;> ((try simp only [zn] at hc) <;> (try simp (disch := omega) only [zz hA, zb, zy, reduceCtorEq, Bool.false_eq_true, Int.reduceLT, Int.reduceLE, Int.reduceNeg] at hc) <;> (try simp only [zw] at hc)) <;> (try (exfalso; omega))) | refine NX.k 8 (NX.one Z8 ?_) | refine NX.k 11 (NX.one Z11 ?_) | refine NX.k 17 (NX.one Z17 ?_) | (refine NX.one (One.build0 tabOk rfl rfl) ?_) | (refine NX.one (One.appendOwn0 hA tabOk rfl rfl rfl rfl rfl rfl Zd Zd) ?_) | refine NX.raw ?_) | refine Thn.exit ?_ | refine Blk.here ?_ | refine Blk.other (by decide) ?_ | refine ⟨.inl rfl, _, RetOk.ev tabOk Zc, ?_⟩ | fail)
    exact ⟨rfl, rfl⟩
theorem one_c0 (K : List (List Int)) (S : List Int) (R V : List Int) (N : List (Int × Int)) (M : List Int) (P Q : List (List Int)) (hru : RightU V R) (x y : Int) (x0 : 0 ≤ x) (x1 : x < V.length) (y0 : 0 ≤ y) (y1 : y < V.length) (h : findU V x = findU V y) :
    PureCalls Tryz.prog 7 [keyedPV A K S, grP A R V N M P Q, IP x, IP y] (.tup [grP A R V N M P Q, .c (.sl 0 true [])]) := by
  have fx := ufind_c hA V N M R hru x x0 x1
  have fy := ufind_c hA V N M R hru y y0 y1
  rw [← h] at fy
  generalize findU V x = p at *
  refine PureCalls.of Tryz.func7 rfl (by kernel_rfl) rfl ?_
  try first | refine AOLg.of [] ?_ | refine QSg.of [] ?_
  repeat' (first | (refine AWp.pass ?_; first | refine AWp.seq ?_ | refine AWp.block ?_ | refine AWp.skip ?_ | refine AWp.regG [] Zc ?_ | refine AWp.cond_t rfl ?_ | refine AWp.cond_f rfl ?_ | (refine AWp.cond rfl ?_ ?_ <;> intro hc <;> (try rw [hc]) <;> ((try simp only [zn] at hc) <;> (try simp (disch := omega) only [zz hA, zb, zy, reduceCtorEq, Bool.false_eq_true, Int.reduceLT, Int.reduceLE, Int.reduceNeg] at hc) <;> (try simp only [zw] at hc)) <;> (try (exfalso; omega))) | refine AWp.exit ?_ | refine AWp.ret ⟨.inr rfl, _, RetOk.ev tabOk Zc, ?_⟩ | refine AWp.drawVG [] rfl (by decide +kernel) Zc ?_) | (refine AOLg.pass ?_; refine AOLg.nx hA tabOk Zc ?_; first | refine NX.done ?_ | refine NX.gt ?_ | refine NX.gf ?_ | (refine NX.gs ?_ ?_ <;> intro hc <;> rw [hc] <;> ((try simp only [zn] at hc) <;> (try simp (disch := omega) only [zz hA, zb, zy, reduceCtorEq, Bool.false_eq_true, Int.reduceLT, Int.reduceLE, Int.reduceNeg] at hc) <;> (try simp only [zw] at hc)) <;> (try (exfalso; omega))) | (refine NX.kC ?_; first | (with_reducible refine NX.call (fx) ?_) | (with_reducible refine NX.call (fy) ?_) | ((first | refine NX.call (fx) ?_ | refine NX.call (fy) ?_)) | fail) | (refine NX.kO ?_; (first | refine NX.callO (fx) (by simp [allEq]) rfl ?_ | refine NX.callO (fy) (by simp [allEq]) rfl ?_)) | refine NX.k 1 (NX.one Z1 ?_) | refine NX.k 7 (NX.one Z7 ?_) | refine NX.k 8 (NX.one Z8 ?_) | refine NX.k 10 (NX.one Z10 ?_) | refine NX.k 11 (NX.one Z11 ?_) | refine NX.k 14 (NX.one Z14 ?_) | refine NX.k 15 (NX.one Z15 ?_) | refine NX.k 17 (NX.one Z17 ?_) | refine NX.k 18 (NX.one Z18 ?_) | refine NX.raw ?_) | (refine TRg.pass ?_; refine TRg.nx hA tabOk Zc ?_; first | refine TX.done ?_ | refine TX.gt ?_ | refine TX.gf ?_ | (refine TX.gs ?_ ?_ <;> intro hc <;> rw [hc] <;> ((try simp only [zn] at hc) <;> (try simp (disch := omega) only [zz hA, zb, zy, reduceCtorEq, Bool.false_eq_true, Int.reduceLT, Int.reduceLE, Int.reduceNeg] at hc) <;> (try simp only [zw] at hc)) <;> (try (exfalso; omega))) | (refine TX.kC ?_; first | (with_reducible refine TX.call (fx) ?_) | (with_reducible refine TX.call (fy) ?_) | ((first | refine TX.call (fx) ?_ | refine TX.call (fy) ?_)) | fail) | (refine TX.kO ?_; (first | refine TX.callO (fx) (by simp [allEq]) rfl ?_ | refine TX.callO (fy) (by simp [allEq]) rfl ?_)) | refine TX.k 1 (TX.one Z1 ?_) | refine TX.k 7 (TX.one Z7 ?_) | refine TX.k 8 (TX.one Z8 ?_) | refine TX.k 10 (TX.one Z10 ?_) | refine TX.k 11 (TX.one Z11 ?_) | refine TX.k 14 (TX.one Z14 ?_) | refine TX.k 15 (TX.one Z15 ?_) | refine TX.k 17 (TX.one Z17 ?_) | refine TX.k 18 (TX.one Z18 ?_) | refine TX.raw ?_) | refine Fin3.of Zc (by repeat' (first | exact True.intro | exact rfl | refine And.intro ?_ ?_)) ?_ ?_ | (refine AllO.pass ?_; first | exact AllO.nil | (refine AllO.cons (One.ev hA tabOk ?_) ?_ <;> (first | refine AllO.pass ?_ | ((conv => lhs; cbv); done))) | (refine AllO.cons (One.skipB ?_) ?_ <;> (first | refine AllO.pass ?_ | ((conv => lhs; cbv); done))) | ((with_reducible refine AllO.call Zc (fx) ?_ ?_) <;> (first | refine AllO.pass ?_ | exact rfl | exact Zd)) | ((with_reducible refine AllO.call Zc (fy) ?_ ?_) <;> (first | refine AllO.pass ?_ | exact rfl | exact Zd)) | refine AllO.consX ZX rfl rfl ?_) | refine Thn.exit ?_ | refine Blk.here ?_ | refine Blk.other (by decide) ?_ | refine ⟨.inl rfl, _, RetOk.ev tabOk Zc, ?_⟩ | fail)
  all_goals first | (exfalso; omega) | (refine rPV_then (by conv => lhs; cbv) ?_; rfl)
set_option maxHeartbeats 4000000 in
theorem one_c1 (K : List (List Int)) (S : List Int) (hst : StK K S) (R V : List Int) (N : List (Int × Int)) (M : List Int) (P Q : List (List Int)) (hru : RightU V R) (hR : R.length ≤ 1000) (hV : V.length ≤ 1000) (hN : N.length ≤ 1000) (hP : P.length = V.length) (hQ : Q.length = V.length) (hPl : ∀ x ∈ P, x.length ≤ 1000) (hQl : ∀ x ∈ Q, x.length ≤ 1000)
    (x y p q first gone : Int) (V' : List Int) (N' : List (Int × Int)) (x0 : 0 ≤ x) (x1 : x < V.length) (y0 : 0 ≤ y) (y1 : y < V.length) (hp : findU V x = p) (hq : findU V y = q) (hne : p ≠ q) (hV' : joinV V R p q = V') (hN' : joinN V R N p q = N') (hf : findU V' p = first) (hgo : gone = p + q - first) (hg0 : 0 ≤ gone ∧ gone < V.length) (hru' : RightU V' R) (hp0 : 0 ≤ p ∧ p < V.length) (hq0 : 0 ≤ q ∧ q < V.length) (hf0 : 0 ≤ first ∧ first < V.length) (hVl : V'.length = V.length) :
    PureCalls Tryz.prog 7 [keyedPV A K S, grP A R V N M P Q, IP x, IP y] (.tup [grP A R V' N' M (P.set gone.toNat []) (Q.set gone.toNat []), slP A 2 encN (outs K V' first (P.getD gone.toNat default) (Q.getD gone.toNat default))]) := by
  have fx := ufind_c hA V N M R hru x x0 x1
  have fy := ufind_c hA V N M R hru y y0 y1
  rw [hp] at fx
  rw [hq] at fy
  have hj : PureCalls Tryz.prog 33 [clP A V N M, intsP A R, IP (hid A p), IP (hid A q)] (clP A V' N' M) := by
    rw [hid_eq hA p, hid_eq hA q, ← hV', ← hN']
    exact join_c hA V N M R hru p q hp0 hq0 (by omega) (by omega) (by omega)
  have ff : PureCalls Tryz.prog 32 [clP A V' N' M, IP (hid A p)] (IP (hid A first)) := by
    rw [hid_eq hA p, ← hf]
    exact ufind_c hA V' N' M R hru' p hp0.1 (by omega)
  have hrep : ∀ (P1 Q1 : List (List Int)) (z : Int), PureCalls Tryz.prog 24 [keyedPV A K S, grP A R V' N' M P1 Q1, IP z] (IP (hid A (repM K V' z))) := fun P1 Q1 z => rep_c hA K S hst R V' N' M P1 Q1 hru' z
  have hat : PureCalls Tryz.prog 35 [keyedPV A K S, IP (hid A first)] (IP (hid A (atV K first))) := by
    rw [hid_eq hA first]; exact at_c hA K S hst first
  have hpre : (P.getD gone.toNat default).length ≤ 1000 := hPl _ (by rw [List.getD_eq_getElem?_getD, List.getElem?_eq_getElem (by omega)]; exact List.getElem_mem _)
  have hsuc : (Q.getD gone.toNat default).length ≤ 1000 := hQl _ (by rw [List.getD_eq_getElem?_getD, List.getElem?_eq_getElem (by omega)]; exact List.getElem_mem _)
  clear hPl hQl hV' hN' hf
  refine PureCalls.of Tryz.func7 rfl (by kernel_rfl) rfl ?_
  try first | refine AOLg.of [16] ?_ | refine QSg.of [16] ?_
  repeat' (first | (refine AWp.pass ?_; first | refine AWp.seq ?_ | refine AWp.block ?_ | refine AWp.skip ?_ | refine AWp.regG [16] Zc ?_ | refine AWp.cond_t rfl ?_ | refine AWp.cond_f rfl ?_ | (refine AWp.cond rfl ?_ ?_ <;> intro hc <;> (try rw [hc]) <;> ((try simp only [zn] at hc) <;> (try simp (disch := omega) only [zz hA, zb, zy, reduceCtorEq, Bool.false_eq_true, Int.reduceLT, Int.reduceLE, Int.reduceNeg] at hc) <;> (try simp only [zw] at hc)) <;> (try (exfalso; omega))) | refine AWp.exit ?_ | refine AWp.ret ⟨.inr rfl, _, RetOk.ev tabOk Zc, ?_⟩ | refine W.AWp.drawVG [16] rfl (by decide +kernel) Zc ?_) | (refine AOLg.pass ?_; refine AOLg.nx hA tabOk Zc ?_; first | refine NX.done ?_ | refine NX.gt ?_ | refine NX.gf ?_ | (refine NX.gs ?_ ?_ <;> intro hc <;> rw [hc] <;> ((try simp only [zn] at hc) <;> (try simp (disch := omega) only [zz hA, zb, zy, reduceCtorEq, Bool.false_eq_true, Int.reduceLT, Int.reduceLE, Int.reduceNeg] at hc) <;> (try simp only [zw] at hc)) <;> (try (exfalso; omega))) | (refine NX.kC ?_; first | (with_reducible refine NX.call (fx) ?_) | (with_reducible refine NX.call (fy) ?_) | (with_reducible refine NX.call (hj) ?_) | (with_reducible refine NX.call (ff) ?_) | ((first | refine NX.call (fx) ?_ | refine NX.call (fy) ?_ | refine NX.call (hj) ?_ | refine NX.call (ff) ?_)) | fail) | (refine NX.kO ?_; (first | refine NX.callO (fx) (by simp [allEq]) rfl ?_ | refine NX.callO (fy) (by simp [allEq]) rfl ?_ | refine NX.callO (hj) (by simp [allEq]) rfl ?_ | refine NX.callO (ff) (by simp [allEq]) rfl ?_)) | refine NX.k 1 (NX.one Z1 ?_) | refine NX.k 7 (NX.one Z7 ?_) | refine NX.k 8 (NX.one Z8 ?_) | refine NX.k 10 (NX.one Z10 ?_) | refine NX.k 11 (NX.one Z11 ?_) | refine NX.k 14 (NX.one Z14 ?_) | refine NX.k 15 (NX.one Z15 ?_) | refine NX.k 17 (NX.one Z17 ?_) | refine NX.k 18 (NX.one Z18 ?_) | (refine NX.one (One.scallT rfl rfl (cloneK_3 hA _ _ _ P (by omega))) ?_) | (refine NX.one (One.scallT rfl rfl (cloneK_4 hA _ _ _ _ Q (by omega))) ?_) | (refine NX.one (One.storeNilM hA tabOk rfl rfl rfl rfl rfl rfl Zd) ?_) | (refine NX.one (One.nilOwn tabOk 16 36 rfl rfl rfl) ?_) | refine NX.raw ?_) | (refine W.TRg.pass ?_; refine W.TRg.nx hA tabOk Zc ?_; first | refine W.TX.done ?_ | refine W.TX.gt ?_ | refine W.TX.gf ?_ | (refine W.TX.gs ?_ ?_ <;> intro hc <;> rw [hc] <;> ((try simp only [zn] at hc) <;> (try simp (disch := omega) only [zz hA, zb, zy, reduceCtorEq, Bool.false_eq_true, Int.reduceLT, Int.reduceLE, Int.reduceNeg] at hc) <;> (try simp only [zw] at hc)) <;> (try (exfalso; omega))) | (refine W.TX.kC ?_; first | (with_reducible refine W.TX.call (fx) ?_) | (with_reducible refine W.TX.call (fy) ?_) | (with_reducible refine W.TX.call (hj) ?_) | (with_reducible refine W.TX.call (ff) ?_) | ((first | refine W.TX.call (fx) ?_ | refine W.TX.call (fy) ?_ | refine W.TX.call (hj) ?_ | refine W.TX.call (ff) ?_)) | fail) | (refine W.TX.kO ?_; (first | refine W.TX.callO (fx) (by simp [allEq]) rfl ?_ | refine W.TX.callO (fy) (by simp [allEq]) rfl ?_ | refine W.TX.callO (hj) (by simp [allEq]) rfl ?_ | refine W.TX.callO (ff) (by simp [allEq]) rfl ?_)) | refine W.TX.k 1 (W.TX.one Z1 ?_) | refine W.TX.k 7 (W.TX.one Z7 ?_) | refine W.TX.k 8 (W.TX.one Z8 ?_) | refine W.TX.k 10 (W.TX.one Z10 ?_) | refine W.TX.k 11 (W.TX.one Z11 ?_) | refine W.TX.k 14 (W.TX.one Z14 ?_) | refine W.TX.k 15 (W.TX.one Z15 ?_) | refine W.TX.k 17 (W.TX.one Z17 ?_) | refine W.TX.k 18 (W.TX.one Z18 ?_) | (refine W.TX.one (One.scallT rfl rfl (cloneK_3 hA _ _ _ P (by omega))) ?_) | (refine W.TX.one (One.scallT rfl rfl (cloneK_4 hA _ _ _ _ Q (by omega))) ?_) | (refine W.TX.one (One.storeNilM hA tabOk rfl rfl rfl rfl rfl rfl Zd) ?_) | (refine W.TX.one (One.nilOwn tabOk 16 36 rfl rfl rfl) ?_) | refine W.TX.raw ?_) | refine W.Fin3.of Zc (by repeat' (first | exact True.intro | exact rfl | refine And.intro ?_ ?_)) ?_ ?_ | (refine W.AllO.pass ?_; first | exact W.AllO.nil | (refine W.AllO.cons (One.ev hA tabOk ?_) ?_ <;> (first | refine W.AllO.pass ?_ | ((conv => lhs; cbv); done))) | (refine W.AllO.cons (One.skipB ?_) ?_ <;> (first | refine W.AllO.pass ?_ | ((conv => lhs; cbv); done))) | ((with_reducible refine W.AllO.call Zc (fx) ?_ ?_) <;> (first | refine W.AllO.pass ?_ | exact rfl | exact Zd)) | ((with_reducible refine W.AllO.call Zc (fy) ?_ ?_) <;> (first | refine W.AllO.pass ?_ | exact rfl | exact Zd)) | ((with_reducible refine W.AllO.call Zc (hj) ?_ ?_) <;> (first | refine W.AllO.pass ?_ | exact rfl | exact Zd)) | ((with_reducible refine W.AllO.call Zc (ff) ?_ ?_) <;> (first | refine W.AllO.pass ?_ | exact rfl | exact Zd)) | refine W.AllO.consX ZX rfl rfl ?_ | ((refine W.AllO.consX (One.storeNilM hA tabOk rfl rfl rfl rfl rfl rfl Zd) rfl rfl ?_) <;> (first | refine W.AllO.pass ?_ | exact Zd))) | refine Thn.exit ?_ | refine Blk.here ?_ | refine Blk.other (by decide) ?_ | refine ⟨.inl rfl, _, RetOk.ev tabOk Zc, ?_⟩ | fail)
  all_goals try (exfalso; omega)
  have hexp : A .sub .i64 (A .add .i64 (hid A p) (hid A q)) (hid A first) = gone := by exact Zd
  have hidn : (A (.hid Nat) fun _ => gone.toNat) = gone.toNat := rhid hA _
  rw [hexp, hidn]
  obtain ⟨P1, hP1⟩ : ∃ P1, P1 = P.set gone.toNat [] := ⟨_, rfl⟩
  obtain ⟨Q1, hQ1⟩ : ∃ Q1, Q1 = Q.set gone.toNat [] := ⟨_, rfl⟩
  rw [← hP1, ← hQ1]
  generalize P.getD gone.toNat default = pre at *
  generalize Q.getD gone.toNat default = suc at *
  obtain ⟨f1, hf1⟩ : ∃ f1 : Int → Int × Int, f1 = fun id => (repM K V' id, atV K first) := ⟨_, rfl⟩
  obtain ⟨f2, hf2⟩ : ∃ f2 : Int → Int × Int, f2 = fun id => (atV K first, repM K V' id) := ⟨_, rfl⟩
  have ho : outs K V' first pre suc = pre.map f1 ++ suc.map f2 := by rw [hf1, hf2]; rfl
  rw [ho]
  refine AWp.loopU (fun x : Nat × Nat => [(78, .ic (.lit (.int .i64 (hid A (cN x.1))))), (16, .own 5 x.2)]) (fun x => [.var true 26 [.ic (.sl 1 false (hid A (List.map (encK A) K))), .ic (.sl 1 false (hid A (List.map encI S)))], .var true 31 [.ic (.sl 1 false (hid A (List.map encI R))), .ic (.sl 1 false (hid A (List.map encI V'))), .ic (.sl 2 false (hid A (List.map encN N'))), .ic (.sl 1 false (hid A (List.map encI M))), .own 3 1, .own 4 1], .var true 31 [.ic (.sl 0 true []), .ic (.sl 0 true []), .ic (.sl 0 true []), .ic (.sl 0 true []), .ic (.sl 0 true []), .ic (.sl 0 true [])], .row true 1 24 1 (hid A (List.map (encK A) P1)), .row true 1 24 1 (hid A (List.map (encK A) Q1)), .row true x.2 55 2 (hid A (List.map encN ((pre.take x.1).map f1)))])
    (fun x => pre.length - x.1) (fun x => x.1 ≤ pre.length) (0, 0) (by conv => lhs; cbv) (Nat.zero_le _) (by ((repeat' (first | exact subE.nil | refine subE.cons rfl ?_ | refine subE.int rfl ?_ ?_ | refine subE.bool rfl ?_ ?_ | refine subE.str rfl ?_ ?_ | refine subE.sl rfl ?_ ?_))) <;> first | rfl | simp [hA, real, hid, cN]) (by simp [hid_eq hA]) ?_
  rintro ⟨k, v⟩ hk
  simp only at hk ⊢
  by_cases hlt : k < pre.length
  · have hln : ((pre.take k).map f1).length = k := by simp; omega
    have hnx := take_map f1 pre k hlt
    generalize hT2 : (pre.take (k + 1)).map f1 = T2 at *
    generalize (pre.take k).map f1 = T at *
    try first | refine AOLg.of [] ?_ | refine QSg.of [] ?_
    repeat' (first | (refine AWp.pass ?_; first | refine AWp.seq ?_ | refine AWp.block ?_ | refine AWp.skip ?_ | refine AWp.regG [] Zc ?_ | refine AWp.cond_t rfl ?_ | refine AWp.cond_f rfl ?_ | (refine AWp.cond rfl ?_ ?_ <;> intro hc <;> (try rw [hc]) <;> ((try simp only [zn] at hc) <;> (try simp (disch := omega) only [zz hA, zb, zy, reduceCtorEq, Bool.false_eq_true, Int.reduceLT, Int.reduceLE, Int.reduceNeg] at hc) <;> (try simp only [zw] at hc)) <;> (try (exfalso; omega))) | refine AWp.exit ?_ | refine AWp.ret ⟨.inr rfl, _, RetOk.ev tabOk Zc, ?_⟩ | refine W.AWp.drawVG [] rfl (by decide +kernel) Zc ?_) | (refine AOLg.pass ?_; refine AOLg.nx hA tabOk Zc ?_; first | refine NX.done ?_ | refine NX.gt ?_ | refine NX.gf ?_ | (refine NX.gs ?_ ?_ <;> intro hc <;> rw [hc] <;> ((try simp only [zn] at hc) <;> (try simp (disch := omega) only [zz hA, zb, zy, reduceCtorEq, Bool.false_eq_true, Int.reduceLT, Int.reduceLE, Int.reduceNeg] at hc) <;> (try simp only [zw] at hc)) <;> (try (exfalso; omega))) | (refine NX.kC ?_; first | (with_reducible refine NX.call (hrep _ _ _) ?_) | (with_reducible refine NX.call (hat) ?_) | ((first | refine NX.call (hrep _ _ _) ?_ | refine NX.call (hat) ?_)) | fail) | (refine NX.kO ?_; (first | refine NX.callO (hrep _ _ _) (by simp [allEq]) rfl ?_ | refine NX.callO (hat) (by simp [allEq]) rfl ?_)) | refine NX.k 1 (NX.one Z1 ?_) | refine NX.k 7 (NX.one Z7 ?_) | refine NX.k 8 (NX.one Z8 ?_) | refine NX.k 10 (NX.one Z10 ?_) | refine NX.k 11 (NX.one Z11 ?_) | refine NX.k 14 (NX.one Z14 ?_) | refine NX.k 15 (NX.one Z15 ?_) | refine NX.k 17 (NX.one Z17 ?_) | refine NX.k 18 (NX.one Z18 ?_) | (refine NX.one (One.buildArr tabOk rfl rfl rfl rfl rfl rfl) ?_) | (refine NX.one (One.appendOwnM hA tabOk (f := encN) (f1 (pre.getD k default)) rfl rfl rfl rfl rfl rfl (by simp only [encN, hf1, hid_eq hA, cN, Int.toNat_natCast]) Zd Zd) ?_) | refine NX.raw ?_) | (refine W.TRg.pass ?_; refine W.TRg.nx hA tabOk Zc ?_; first | refine W.TX.done ?_ | refine W.TX.gt ?_ | refine W.TX.gf ?_ | (refine W.TX.gs ?_ ?_ <;> intro hc <;> rw [hc] <;> ((try simp only [zn] at hc) <;> (try simp (disch := omega) only [zz hA, zb, zy, reduceCtorEq, Bool.false_eq_true, Int.reduceLT, Int.reduceLE, Int.reduceNeg] at hc) <;> (try simp only [zw] at hc)) <;> (try (exfalso; omega))) | (refine W.TX.kC ?_; first | (with_reducible refine W.TX.call (hrep _ _ _) ?_) | (with_reducible refine W.TX.call (hat) ?_) | ((first | refine W.TX.call (hrep _ _ _) ?_ | refine W.TX.call (hat) ?_)) | fail) | (refine W.TX.kO ?_; (first | refine W.TX.callO (hrep _ _ _) (by simp [allEq]) rfl ?_ | refine W.TX.callO (hat) (by simp [allEq]) rfl ?_)) | refine W.TX.k 1 (W.TX.one Z1 ?_) | refine W.TX.k 7 (W.TX.one Z7 ?_) | refine W.TX.k 8 (W.TX.one Z8 ?_) | refine W.TX.k 10 (W.TX.one Z10 ?_) | refine W.TX.k 11 (W.TX.one Z11 ?_) | refine W.TX.k 14 (W.TX.one Z14 ?_) | refine W.TX.k 15 (W.TX.one Z15 ?_) | refine W.TX.k 17 (W.TX.one Z17 ?_) | refine W.TX.k 18 (W.TX.one Z18 ?_) | (refine W.TX.one (One.buildArr tabOk rfl rfl rfl rfl rfl rfl) ?_) | (refine W.TX.one (One.appendOwnM hA tabOk (f := encN) (f1 (pre.getD k default)) rfl rfl rfl rfl rfl rfl (by simp only [encN, hf1, hid_eq hA, cN, Int.toNat_natCast]) Zd Zd) ?_) | refine W.TX.raw ?_) | refine W.Fin3.of Zc (by repeat' (first | exact True.intro | exact rfl | refine And.intro ?_ ?_)) ?_ ?_ | (refine W.AllO.pass ?_; first | exact W.AllO.nil | (refine W.AllO.cons (One.ev hA tabOk ?_) ?_ <;> (first | refine W.AllO.pass ?_ | ((conv => lhs; cbv); done))) | (refine W.AllO.cons (One.skipB ?_) ?_ <;> (first | refine W.AllO.pass ?_ | ((conv => lhs; cbv); done))) | ((with_reducible refine W.AllO.call Zc (hrep _ _ _) ?_ ?_) <;> (first | refine W.AllO.pass ?_ | exact rfl | exact Zd)) | ((with_reducible refine W.AllO.call Zc (hat) ?_ ?_) <;> (first | refine W.AllO.pass ?_ | exact rfl | exact Zd)) | refine W.AllO.consX ZX rfl rfl ?_ | ((refine W.AllO.consX (One.buildArr tabOk rfl rfl rfl rfl rfl rfl) rfl rfl ?_) <;> (first | refine W.AllO.pass ?_ | exact Zd))) | refine Thn.exit ?_ | refine Blk.here ?_ | refine Blk.other (by decide) ?_ | refine ⟨.inl rfl, _, RetOk.ev tabOk Zc, ?_⟩ | fail)
    refine ⟨(k + 1, v + 1), by simp only; omega, by simp only; omega, rfl, ?_, ?_, Zk⟩
    · simp only [hT2, hnx]
    · (repeat' (first | exact subE.nil | refine subE.cons rfl ?_ | refine subE.int rfl ?_ ?_ | refine subE.bool rfl ?_ ?_ | refine subE.str rfl ?_ ?_ | refine subE.sl rfl ?_ ?_))
      all_goals first | rfl | exact Zd
  · rw [show pre.take k = pre from List.take_of_length_le (by omega)]
    try first | refine AOLg.of [] ?_ | refine QSg.of [] ?_
    repeat' (first | (refine AWp.pass ?_; first | refine AWp.seq ?_ | refine AWp.block ?_ | refine AWp.skip ?_ | refine AWp.regG [] Zc ?_ | refine AWp.cond_t rfl ?_ | refine AWp.cond_f rfl ?_ | (refine AWp.cond rfl ?_ ?_ <;> intro hc <;> (try rw [hc]) <;> ((try simp only [zn] at hc) <;> (try simp (disch := omega) only [zz hA, zb, zy, reduceCtorEq, Bool.false_eq_true, Int.reduceLT, Int.reduceLE, Int.reduceNeg] at hc) <;> (try simp only [zw] at hc)) <;> (try (exfalso; omega))) | refine AWp.exit ?_ | refine AWp.ret ⟨.inr rfl, _, RetOk.ev tabOk Zc, ?_⟩ | refine W.AWp.drawVG [] rfl (by decide +kernel) Zc ?_) | (refine AOLg.pass ?_; refine AOLg.nx hA tabOk Zc ?_; first | refine NX.done ?_ | refine NX.gt ?_ | refine NX.gf ?_ | (refine NX.gs ?_ ?_ <;> intro hc <;> rw [hc] <;> ((try simp only [zn] at hc) <;> (try simp (disch := omega) only [zz hA, zb, zy, reduceCtorEq, Bool.false_eq_true, Int.reduceLT, Int.reduceLE, Int.reduceNeg] at hc) <;> (try simp only [zw] at hc)) <;> (try (exfalso; omega))) | refine NX.k 1 (NX.one Z1 ?_) | refine NX.k 7 (NX.one Z7 ?_) | refine NX.k 8 (NX.one Z8 ?_) | refine NX.k 10 (NX.one Z10 ?_) | refine NX.k 11 (NX.one Z11 ?_) | refine NX.k 14 (NX.one Z14 ?_) | refine NX.k 15 (NX.one Z15 ?_) | refine NX.k 17 (NX.one Z17 ?_) | refine NX.k 18 (NX.one Z18 ?_) | refine NX.raw ?_) | (refine W.TRg.pass ?_; refine W.TRg.nx hA tabOk Zc ?_; first | refine W.TX.done ?_ | refine W.TX.gt ?_ | refine W.TX.gf ?_ | (refine W.TX.gs ?_ ?_ <;> intro hc <;> rw [hc] <;> ((try simp only [zn] at hc) <;> (try simp (disch := omega) only [zz hA, zb, zy, reduceCtorEq, Bool.false_eq_true, Int.reduceLT, Int.reduceLE, Int.reduceNeg] at hc) <;> (try simp only [zw] at hc)) <;> (try (exfalso; omega))) | refine W.TX.k 1 (W.TX.one Z1 ?_) | refine W.TX.k 7 (W.TX.one Z7 ?_) | refine W.TX.k 8 (W.TX.one Z8 ?_) | refine W.TX.k 10 (W.TX.one Z10 ?_) | refine W.TX.k 11 (W.TX.one Z11 ?_) | refine W.TX.k 14 (W.TX.one Z14 ?_) | refine W.TX.k 15 (W.TX.one Z15 ?_) | refine W.TX.k 17 (W.TX.one Z17 ?_) | refine W.TX.k 18 (W.TX.one Z18 ?_) | refine W.TX.raw ?_) | refine W.Fin3.of Zc (by repeat' (first | exact True.intro | exact rfl | refine And.intro ?_ ?_)) ?_ ?_ | (refine W.AllO.pass ?_; first | exact W.AllO.nil | (refine W.AllO.cons (One.ev hA tabOk ?_) ?_ <;> (first | refine W.AllO.pass ?_ | ((conv => lhs; cbv); done))) | (refine W.AllO.cons (One.skipB ?_) ?_ <;> (first | refine W.AllO.pass ?_ | ((conv => lhs; cbv); done))) | refine W.AllO.consX ZX rfl rfl ?_) | refine Thn.exit ?_ | refine Blk.here ?_ | refine Blk.other (by decide) ?_ | refine ⟨.inl rfl, _, RetOk.ev tabOk Zc, ?_⟩ | fail)
    all_goals try (exfalso; omega)
    generalize hT0 : pre.map f1 = T0 at *
    have hT0l : T0.length = pre.length := by rw [← hT0, List.length_map]
    refine AWp.loopU (fun x : Nat × Nat => [(96, .ic (.lit (.int .i64 (hid A (cN x.1))))), (16, .own 5 x.2)]) (fun x => [.var true 26 [.ic (.sl 1 false (hid A (List.map (encK A) K))), .ic (.sl 1 false (hid A (List.map encI S)))], .var true 31 [.ic (.sl 1 false (hid A (List.map encI R))), .ic (.sl 1 false (hid A (List.map encI V'))), .ic (.sl 2 false (hid A (List.map encN N'))), .ic (.sl 1 false (hid A (List.map encI M))), .own 3 1, .own 4 1], .var true 31 [.ic (.sl 0 true []), .ic (.sl 0 true []), .ic (.sl 0 true []), .ic (.sl 0 true []), .ic (.sl 0 true []), .ic (.sl 0 true [])], .row true 1 24 1 (hid A (List.map (encK A) P1)), .row true 1 24 1 (hid A (List.map (encK A) Q1)), .row true x.2 55 2 (hid A (List.map encN (T0 ++ (suc.take x.1).map f2)))])
      (fun x => suc.length - x.1) (fun x => x.1 ≤ suc.length) (0, v) (by conv => lhs; cbv) (Nat.zero_le _) (by ((repeat' (first | exact subE.nil | refine subE.cons rfl ?_ | refine subE.int rfl ?_ ?_ | refine subE.bool rfl ?_ ?_ | refine subE.str rfl ?_ ?_ | refine subE.sl rfl ?_ ?_))) <;> first | rfl | simp [hA, real, hid, cN]) (by simp [hid_eq hA]) ?_
    rintro ⟨n, u⟩ hn
    simp only at hn ⊢
    by_cases hlt2 : n < suc.length
    · have hln : (T0 ++ (suc.take n).map f2).length = pre.length + n := by rw [List.length_append, List.length_map, List.length_take, hT0l]; omega
      have hnx : T0 ++ (suc.take (n + 1)).map f2 = (T0 ++ (suc.take n).map f2) ++ [f2 (suc.getD n default)] := by rw [take_map f2 suc n hlt2, List.append_assoc]
      generalize hT2 : T0 ++ (suc.take (n + 1)).map f2 = T2 at *
      generalize T0 ++ (suc.take n).map f2 = T at *
      try first | refine AOLg.of [] ?_ | refine QSg.of [] ?_
      repeat' (first | (refine AWp.pass ?_; first | refine AWp.seq ?_ | refine AWp.block ?_ | refine AWp.skip ?_ | refine AWp.regG [] Zc ?_ | refine AWp.cond_t rfl ?_ | refine AWp.cond_f rfl ?_ | (refine AWp.cond rfl ?_ ?_ <;> intro hc <;> (try rw [hc]) <;> ((try simp only [zn] at hc) <;> (try simp (disch := omega) only [zz hA, zb, zy, reduceCtorEq, Bool.false_eq_true, Int.reduceLT, Int.reduceLE, Int.reduceNeg] at hc) <;> (try simp only [zw] at hc)) <;> (try (exfalso; omega))) | refine AWp.exit ?_ | refine AWp.ret ⟨.inr rfl, _, RetOk.ev tabOk Zc, ?_⟩ | refine W.AWp.drawVG [] rfl (by decide +kernel) Zc ?_) | (refine AOLg.pass ?_; refine AOLg.nx hA tabOk Zc ?_; first | refine NX.done ?_ | refine NX.gt ?_ | refine NX.gf ?_ | (refine NX.gs ?_ ?_ <;> intro hc <;> rw [hc] <;> ((try simp only [zn] at hc) <;> (try simp (disch := omega) only [zz hA, zb, zy, reduceCtorEq, Bool.false_eq_true, Int.reduceLT, Int.reduceLE, Int.reduceNeg] at hc) <;> (try simp only [zw] at hc)) <;> (try (exfalso; omega))) | (refine NX.kC ?_; first | (with_reducible refine NX.call (hrep _ _ _) ?_) | (with_reducible refine NX.call (hat) ?_) | ((first | refine NX.call (hrep _ _ _) ?_ | refine NX.call (hat) ?_)) | fail) | (refine NX.kO ?_; (first | refine NX.callO (hrep _ _ _) (by simp [allEq]) rfl ?_ | refine NX.callO (hat) (by simp [allEq]) rfl ?_)) | refine NX.k 1 (NX.one Z1 ?_) | refine NX.k 7 (NX.one Z7 ?_) | refine NX.k 8 (NX.one Z8 ?_) | refine NX.k 10 (NX.one Z10 ?_) | refine NX.k 11 (NX.one Z11 ?_) | refine NX.k 14 (NX.one Z14 ?_) | refine NX.k 15 (NX.one Z15 ?_) | refine NX.k 17 (NX.one Z17 ?_) | refine NX.k 18 (NX.one Z18 ?_) | (refine NX.one (One.buildArr tabOk rfl rfl rfl rfl rfl rfl) ?_) | (refine NX.one (One.appendOwnM hA tabOk (f := encN) (f2 (suc.getD n default)) rfl rfl rfl rfl rfl rfl (by simp only [encN, hf2, hid_eq hA, cN, Int.toNat_natCast]) Zd Zd) ?_) | refine NX.raw ?_) | (refine W.TRg.pass ?_; refine W.TRg.nx hA tabOk Zc ?_; first | refine W.TX.done ?_ | refine W.TX.gt ?_ | refine W.TX.gf ?_ | (refine W.TX.gs ?_ ?_ <;> intro hc <;> rw [hc] <;> ((try simp only [zn] at hc) <;> (try simp (disch := omega) only [zz hA, zb, zy, reduceCtorEq, Bool.false_eq_true, Int.reduceLT, Int.reduceLE, Int.reduceNeg] at hc) <;> (try simp only [zw] at hc)) <;> (try (exfalso; omega))) | (refine W.TX.kC ?_; first | (with_reducible refine W.TX.call (hrep _ _ _) ?_) | (with_reducible refine W.TX.call (hat) ?_) | ((first | refine W.TX.call (hrep _ _ _) ?_ | refine W.TX.call (hat) ?_)) | fail) | (refine W.TX.kO ?_; (first | refine W.TX.callO (hrep _ _ _) (by simp [allEq]) rfl ?_ | refine W.TX.callO (hat) (by simp [allEq]) rfl ?_)) | refine W.TX.k 1 (W.TX.one Z1 ?_) | refine W.TX.k 7 (W.TX.one Z7 ?_) | refine W.TX.k 8 (W.TX.one Z8 ?_) | refine W.TX.k 10 (W.TX.one Z10 ?_) | refine W.TX.k 11 (W.TX.one Z11 ?_) | refine W.TX.k 14 (W.TX.one Z14 ?_) | refine W.TX.k 15 (W.TX.one Z15 ?_) | refine W.TX.k 17 (W.TX.one Z17 ?_) | refine W.TX.k 18 (W.TX.one Z18 ?_) | (refine W.TX.one (One.buildArr tabOk rfl rfl rfl rfl rfl rfl) ?_) | (refine W.TX.one (One.appendOwnM hA tabOk (f := encN) (f2 (suc.getD n default)) rfl rfl rfl rfl rfl rfl (by simp only [encN, hf2, hid_eq hA, cN, Int.toNat_natCast]) Zd Zd) ?_) | refine W.TX.raw ?_) | refine W.Fin3.of Zc (by repeat' (first | exact True.intro | exact rfl | refine And.intro ?_ ?_)) ?_ ?_ | (refine W.AllO.pass ?_; first | exact W.AllO.nil | (refine W.AllO.cons (One.ev hA tabOk ?_) ?_ <;> (first | refine W.AllO.pass ?_ | ((conv => lhs; cbv); done))) | (refine W.AllO.cons (One.skipB ?_) ?_ <;> (first | refine W.AllO.pass ?_ | ((conv => lhs; cbv); done))) | ((with_reducible refine W.AllO.call Zc (hrep _ _ _) ?_ ?_) <;> (first | refine W.AllO.pass ?_ | exact rfl | exact Zd)) | ((with_reducible refine W.AllO.call Zc (hat) ?_ ?_) <;> (first | refine W.AllO.pass ?_ | exact rfl | exact Zd)) | refine W.AllO.consX ZX rfl rfl ?_ | ((refine W.AllO.consX (One.buildArr tabOk rfl rfl rfl rfl rfl rfl) rfl rfl ?_) <;> (first | refine W.AllO.pass ?_ | exact Zd))) | refine Thn.exit ?_ | refine Blk.here ?_ | refine Blk.other (by decide) ?_ | refine ⟨.inl rfl, _, RetOk.ev tabOk Zc, ?_⟩ | fail)
      refine ⟨(n + 1, u + 1), by simp only; omega, by simp only; omega, rfl, ?_, ?_, Zk⟩
      · simp only [hT2, hnx]
      · (repeat' (first | exact subE.nil | refine subE.cons rfl ?_ | refine subE.int rfl ?_ ?_ | refine subE.bool rfl ?_ ?_ | refine subE.str rfl ?_ ?_ | refine subE.sl rfl ?_ ?_))
        all_goals first | rfl | exact Zd
    · rw [show suc.take n = suc from List.take_of_length_le (by omega)]
      try first | refine AOLg.of [] ?_ | refine QSg.of [] ?_
      repeat' (first | (refine AWp.pass ?_; first | refine AWp.seq ?_ | refine AWp.block ?_ | refine AWp.skip ?_ | refine AWp.regG [] Zc ?_ | refine AWp.cond_t rfl ?_ | refine AWp.cond_f rfl ?_ | (refine AWp.cond rfl ?_ ?_ <;> intro hc <;> (try rw [hc]) <;> ((try simp only [zn] at hc) <;> (try simp (disch := omega) only [zz hA, zb, zy, reduceCtorEq, Bool.false_eq_true, Int.reduceLT, Int.reduceLE, Int.reduceNeg] at hc) <;> (try simp only [zw] at hc)) <;> (try (exfalso; omega))) | refine AWp.exit ?_ | refine AWp.ret ⟨.inr rfl, _, RetOk.ev tabOk Zc, ?_⟩ | refine W.AWp.drawVG [] rfl (by decide +kernel) Zc ?_) | (refine AOLg.pass ?_; refine AOLg.nx hA tabOk Zc ?_; first | refine NX.done ?_ | refine NX.gt ?_ | refine NX.gf ?_ | (refine NX.gs ?_ ?_ <;> intro hc <;> rw [hc] <;> ((try simp only [zn] at hc) <;> (try simp (disch := omega) only [zz hA, zb, zy, reduceCtorEq, Bool.false_eq_true, Int.reduceLT, Int.reduceLE, Int.reduceNeg] at hc) <;> (try simp only [zw] at hc)) <;> (try (exfalso; omega))) | refine NX.k 1 (NX.one Z1 ?_) | refine NX.k 7 (NX.one Z7 ?_) | refine NX.k 8 (NX.one Z8 ?_) | refine NX.k 10 (NX.one Z10 ?_) | refine NX.k 11 (NX.one Z11 ?_) | refine NX.k 14 (NX.one Z14 ?_) | refine NX.k 15 (NX.one Z15 ?_) | refine NX.k 17 (NX.one Z17 ?_) | refine NX.k 18 (NX.one Z18 ?_) | refine NX.raw ?_) | (refine W.TRg.pass ?_; refine W.TRg.nx hA tabOk Zc ?_; first | refine W.TX.done ?_ | refine W.TX.gt ?_ | refine W.TX.gf ?_ | (refine W.TX.gs ?_ ?_ <;> intro hc <;> rw [hc] <;> ((try simp only [zn] at hc) <;> (try simp (disch := omega) only [zz hA, zb, zy, reduceCtorEq, Bool.false_eq_true, Int.reduceLT, Int.reduceLE, Int.reduceNeg] at hc) <;> (try simp only [zw] at hc)) <;> (try (exfalso; omega))) | refine W.TX.k 1 (W.TX.one Z1 ?_) | refine W.TX.k 7 (W.TX.one Z7 ?_) | refine W.TX.k 8 (W.TX.one Z8 ?_) | refine W.TX.k 10 (W.TX.one Z10 ?_) | refine W.TX.k 11 (W.TX.one Z11 ?_) | refine W.TX.k 14 (W.TX.one Z14 ?_) | refine W.TX.k 15 (W.TX.one Z15 ?_) | refine W.TX.k 17 (W.TX.one Z17 ?_) | refine W.TX.k 18 (W.TX.one Z18 ?_) | refine W.TX.raw ?_) | refine W.Fin3.of Zc (by repeat' (first | exact True.intro | exact rfl | refine And.intro ?_ ?_)) ?_ ?_ | (refine W.AllO.pass ?_; first | exact W.AllO.nil | (refine W.AllO.cons (One.ev hA tabOk ?_) ?_ <;> (first | refine W.AllO.pass ?_ | ((conv => lhs; cbv); done))) | (refine W.AllO.cons (One.skipB ?_) ?_ <;> (first | refine W.AllO.pass ?_ | ((conv => lhs; cbv); done))) | refine W.AllO.consX ZX rfl rfl ?_) | refine Thn.exit ?_ | refine Blk.here ?_ | refine Blk.other (by decide) ?_ | refine ⟨.inl rfl, _, RetOk.ev tabOk Zc, ?_⟩ | fail)
      all_goals try (exfalso; omega)
      rw [hP1, hQ1]
      exact rPV_gr2 rfl rfl rfl
end Go.Proofs.YtkkjlmcnfoncdaaGreat.Aw

/- Contracts of the document's answer for package ifg, part 7: a graph is the same as itself. -/
set_option linter.unusedVariables false
set_option linter.unusedSimpArgs false
set_option linter.unusedSectionVars false
namespace Go.Proofs.YtkkjlmcnfoncdaaGreat.Aw
open Go Go.RowKit
set_option maxRecDepth 10000
attribute [local irreducible] AWp AOL QS One AOLg QSg NX QX TRg TX AllO Fin3
variable {A : Ar} (hA : A = real)
include hA
theorem gsame_c (R V : List Int) (N : List (Int × Int)) (M : List Int) (P Q : List (List Int)) (hR : R.length ≤ 1000000) (hc0 : (⟨V, N, M⟩ : Cl).small) :
    PureCalls Tryz.prog 9 [grP A R V N M P Q, grP A R V N M P Q] (BP true) := by
  have h1 : PureCalls Tryz.prog 42 [clP A V N M, clP A V N M] (BP true) := by
    have := refSame hA ⟨V, N, M⟩ ⟨V, N, M⟩ hc0 hc0
    rw [decide_eq_true rfl, ← clP_eq hA ⟨V, N, M⟩] at this
    exact this
  have h2 := uInts_c hA R R hR hR
  rw [decide_eq_true rfl, hid_eq hA (α := Bool)] at h2
  have h3 := refRows_c hA P P
  rw [decide_eq_true rfl, hid_eq hA (α := Bool)] at h3
  have h4 := refRows_c hA Q Q
  rw [decide_eq_true rfl, hid_eq hA (α := Bool)] at h4
  refine PureCalls.of Tryz.func9 rfl (by kernel_rfl) rfl ?_
  try first | refine AOLg.of [] ?_ | refine QSg.of [] ?_
  repeat' (first | (refine AWp.pass ?_; first | refine AWp.seq ?_ | refine AWp.block ?_ | refine AWp.skip ?_ | refine AWp.regG [] Zc ?_ | refine AWp.cond_t rfl ?_ | refine AWp.cond_f rfl ?_ | (refine AWp.cond rfl ?_ ?_ <;> intro hc <;> (try rw [hc]) <;> ((try simp only [zn] at hc) <;> (try simp (disch := omega) only [zz hA, zb, zy, reduceCtorEq, Bool.false_eq_true, Int.reduceLT, Int.reduceLE, Int.reduceNeg] at hc) <;> (try simp only [zw] at hc)) <;> (try (exfalso; omega))) | refine AWp.exit ?_ | refine AWp.ret ⟨.inr rfl, _, RetOk.ev tabOk Zc, ?_⟩) | (refine AOLg.pass ?_; refine AOLg.nx hA tabOk Zc ?_; first | refine NX.done ?_ | refine NX.gt ?_ | refine NX.gf ?_ | (refine NX.gs ?_ ?_ <;> intro hc <;> rw [hc] <;> ((try simp only [zn] at hc) <;> (try simp (disch := omega) only [zz hA, zb, zy, reduceCtorEq, Bool.false_eq_true, Int.reduceLT, Int.reduceLE, Int.reduceNeg] at hc) <;> (try simp only [zw] at hc)) <;> (try (exfalso; omega))) | (refine NX.kC ?_; first | (with_reducible refine NX.call (h1) ?_) | (with_reducible refine NX.call (h2) ?_) | (with_reducible refine NX.call (h3) ?_) | (with_reducible refine NX.call (h4) ?_) | ((first | refine NX.call (h1) ?_ | refine NX.call (h2) ?_ | refine NX.call (h3) ?_ | refine NX.call (h4) ?_)) | fail) | (refine NX.kO ?_; (first | refine NX.callO (h1) (by simp [allEq]) rfl ?_ | refine NX.callO (h2) (by simp [allEq]) rfl ?_ | refine NX.callO (h3) (by simp [allEq]) rfl ?_ | refine NX.callO (h4) (by simp [allEq]) rfl ?_)) | refine NX.k 14 (NX.one Z14 ?_) | refine NX.k 18 (NX.one Z18 ?_) | refine NX.raw ?_) | refine Thn.exit ?_ | refine Blk.here ?_ | refine Blk.other (by decide) ?_ | refine ⟨.inl rfl, _, RetOk.ev tabOk Zc, ?_⟩ | fail)
  all_goals exact Ze
end Go.Proofs.YtkkjlmcnfoncdaaGreat.Aw

/- Two numbers as an array, compared; contracts of the document's answer: rows of pairs, a cell set, two variables joined, the one for a term, rows with another one in a place. -/
set_option linter.unusedVariables false
set_option linter.unusedSimpArgs false
set_option linter.unusedSectionVars false
namespace Go.Proofs.YtkkjlmcnfoncdaaGreat.Aw
open Go Go.RowKit
set_option maxRecDepth 10000
attribute [local irreducible] AWp AOL QS One AOLg QSg NX QX TRg TX AllO Fin3
attribute [local irreducible] W.TRg W.TX W.AllO W.Fin3
/-- The type is an array of two numbers. -/
def pairB (P : Program) (t : TypeId) : Bool := match P.underlying t with
  | some (.array 2 e) => !(P.eqGuardType P.depth t) && P.plainKey e && Nat.beq (P.cellsOf e) 1 && (match P.underlying e with | some (.int .i64) => true | _ => false) && (P.info? e).isSome
  | _ => false
theorem does_cmpPair {P : Program} {s : St} (op : BinOp) (hop : op = .eql ∨ op = .neq) (t : TypeId) (x y : Operand) (a b c d : Int) (hB : pairB P t = true) (hx : s.ev x = .agg ([a, b].map fun z => .ic (I z))) (hy : s.ev y = .agg ([c, d].map fun z => .ic (I z))) (r : Bool)
    (hr : (match op with | .eql => decide (a = c ∧ b = d) | _ => !decide (a = c ∧ b = d)) = r) : Does P s (fun ρ => do pure (.value (← (do eqGuard op t x y (ρ x) (ρ y); binOp op t (ρ x) (ρ y) : Sem Value)))) (.ic (.lit (.bool r))) s.st :=
  .pure fun G g w act hrel => by
    have h1 := hrel.ev x
    have h2 := hrel.ev y
    rw [hx] at h1
    rw [hy] at h2
    obtain ⟨X, e1, s1, f1⟩ := agg_ints h1
    obtain ⟨Y, e2, s2, f2⟩ := agg_ints h2
    unfold pairB at hB
    split at hB
    · rename_i e hu
      simp only [Bool.and_eq_true, Bool.not_eq_true'] at hB
      obtain ⟨⟨⟨⟨b1, b2⟩, b3⟩, b4⟩, b5⟩ := hB
      have b3 := Nat.eq_of_beq_eq_true b3
      obtain ⟨i, hi⟩ := Option.isSome_iff_exists.1 b5
      have hue : P.underlying e = some (.int .i64) := by
        split at b4
        · assumption
        · simp at b4
      have heq : (Op.equal t (.agg X) (.agg Y)).run P w = .ok (decide (a = c ∧ b = d)) w := by
        show (Op.equalIn (9999 + 1) t (.agg X) (.agg Y)).run P w = _
        rw [run_equalIn_array (P := P) w 9999 X Y hu hi, b3]
        have px0 := run_part_plain (P := P) (w := w) b2 (xs := X) (off := 0 * 1) (f1 0 a rfl)
        have py0 := run_part_plain (P := P) (w := w) b2 (xs := Y) (off := 0 * 1) (f2 0 c rfl)
        have px1 := run_part_plain (P := P) (w := w) b2 (xs := X) (off := 1 * 1) (f1 1 b rfl)
        have py1 := run_part_plain (P := P) (w := w) b2 (xs := Y) (off := 1 * 1) (f2 1 d rfl)
        have pe := fun u v => run_equalIn_int (P := P) w 9998 e .i64 .i64 u v hue
        rw [show List.range 2 = [0, 1] from rfl]
        simp only [Op.eqItems, Sem.run_bind, px0, py0, Result.andThen_ok, pe]
        by_cases hac : a = c
        · by_cases hbd : b = d
          · simp [hac, hbd, px1, py1, pe]
          · simp [hac, hbd, px1, py1, pe]
        · simp [hac]
      refine ⟨.bool r, ?_, .ic _ _ (.lit _ rfl)⟩
      rcases hop with rfl | rfl
      · simp only at hr
        simp [e1, e2, eqGuard, b1, binOp, heq, hr]
      · simp only at hr
        simp [e1, e2, eqGuard, b1, binOp, heq]
        rw [← hr]
        simp
    · simp at hB
theorem One.neSame {r : Option Nat} {P : Program} {ops : Array Oper} {i : Nat} {s : St} {t t' : TypeId} {x y : Operand} {a b : Int} (h : opAt ops i s = some (.binOp .neq t x y t')) (hB : pairB P t = true)
    (hx : s.ev x = .agg ([a, b].map fun z => .ic (I z))) (hy : s.ev y = .agg ([a, b].map fun z => .ic (I z))) : One r P ops i s (.ic (.lit (.bool false))) s.st :=
  .does h rfl fun o hop => (does_cmpPair .neq (.inr rfl) t x y a b a b hB hx hy false (by simp)).congr fun ρ => by simp only [execOp, hop]
theorem rPV_set {st : List AObj} {i j v u e e' sz sz' : Nat} {m m' : Bool} {xs ys : List (List IC)} {c d : IC} (h2 : st[i]? = some (.row m v e sz xs)) (h3 : st[j]? = some (.row m' u e' sz' ys)) :
    rPV st (.tup [.agg [.own i v, .own j u, .ic c], .ic d]) = some (.tup [.agg [.sl sz false xs, .sl sz' false ys, c], .c d]) := by
  simp [rPV, rPVs, rICs, rIC, toIC, h2, h3]
variable {A : Ar} (hA : A = real)
include hA
/-- A row of pairs is the same as itself. -/
theorem pairs_c (l : List (Int × Int)) (hl : l.length ≤ 1000000) : PureCalls Tryz.prog 10 [slP A 2 encN l, slP A 2 encN l] (BP true) := by
  refine PureCalls.of Tryz.func10 rfl (by kernel_rfl) rfl ?_
  try first | refine AOLg.of [] ?_ | refine QSg.of [] ?_
  repeat' (first | (refine AWp.pass ?_; first | refine AWp.seq ?_ | refine AWp.block ?_ | refine AWp.skip ?_ | refine AWp.regG [] Zc ?_ | refine AWp.cond_t rfl ?_ | refine AWp.cond_f rfl ?_ | (refine AWp.cond rfl ?_ ?_ <;> intro hc <;> (try rw [hc]) <;> ((try simp only [zn] at hc) <;> (try simp (disch := omega) only [zz hA, zb, zy, reduceCtorEq, Bool.false_eq_true, Int.reduceLT, Int.reduceLE, Int.reduceNeg] at hc) <;> (try simp only [zw] at hc)) <;> (try (exfalso; omega))) | refine AWp.exit ?_ | refine AWp.ret ⟨.inr rfl, _, RetOk.ev tabOk Zc, ?_⟩ | refine W.AWp.drawVG [] rfl (by decide +kernel) Zc ?_) | (refine AOLg.pass ?_; refine AOLg.nx hA tabOk Zc ?_; first | refine NX.done ?_ | refine NX.gt ?_ | refine NX.gf ?_ | (refine NX.gs ?_ ?_ <;> intro hc <;> rw [hc] <;> ((try simp only [zn] at hc) <;> (try simp (disch := omega) only [zz hA, zb, zy, reduceCtorEq, Bool.false_eq_true, Int.reduceLT, Int.reduceLE, Int.reduceNeg] at hc) <;> (try simp only [zw] at hc)) <;> (try (exfalso; omega))) | refine NX.k 1 (NX.one Z1 ?_) | refine NX.k 7 (NX.one Z7 ?_) | refine NX.k 9 (NX.one Z9 ?_) | refine NX.k 10 (NX.one Z10 ?_) | refine NX.k 14 (NX.one Z14 ?_) | refine NX.raw ?_) | (refine W.TRg.pass ?_; refine W.TRg.nx hA tabOk Zc ?_; first | refine W.TX.done ?_ | refine W.TX.gt ?_ | refine W.TX.gf ?_ | (refine W.TX.gs ?_ ?_ <;> intro hc <;> rw [hc] <;> ((try simp only [zn] at hc) <;> (try simp (disch := omega) only [zz hA, zb, zy, reduceCtorEq, Bool.false_eq_true, Int.reduceLT, Int.reduceLE, Int.reduceNeg] at hc) <;> (try simp only [zw] at hc)) <;> (try (exfalso; omega))) | refine W.TX.k 1 (W.TX.one Z1 ?_) | refine W.TX.k 7 (W.TX.one Z7 ?_) | refine W.TX.k 9 (W.TX.one Z9 ?_) | refine W.TX.k 10 (W.TX.one Z10 ?_) | refine W.TX.k 14 (W.TX.one Z14 ?_) | refine W.TX.raw ?_) | refine W.Fin3.of Zc (by repeat' (first | exact True.intro | exact rfl | refine And.intro ?_ ?_)) ?_ ?_ | (refine W.AllO.pass ?_; first | exact W.AllO.nil | (refine W.AllO.cons (One.ev hA tabOk ?_) ?_ <;> (first | refine W.AllO.pass ?_ | ((conv => lhs; cbv); done))) | (refine W.AllO.cons (One.skipB ?_) ?_ <;> (first | refine W.AllO.pass ?_ | ((conv => lhs; cbv); done))) | refine W.AllO.consX ZX rfl rfl ?_) | refine Thn.exit ?_ | refine Blk.here ?_ | refine Blk.other (by decide) ?_ | refine ⟨.inl rfl, _, RetOk.ev tabOk Zc, ?_⟩ | fail)
  all_goals try (exfalso; omega)
  refine AWp.loopU (fun k : Nat => [(5, .ic (.lit (.int .i64 (hid A (cN k)))))]) (fun _ => _) (fun k => l.length - k) (fun k => k ≤ l.length) 0 (by conv => lhs; cbv) (Nat.zero_le _) (by ((repeat' (first | exact subE.nil | refine subE.cons rfl ?_ | refine subE.int rfl ?_ ?_ | refine subE.bool rfl ?_ ?_ | refine subE.str rfl ?_ ?_ | refine subE.sl rfl ?_ ?_))) <;> simp [hA, real, hid, cN]) rfl ?_
  intro k hk
  by_cases hlt : k < l.length
  · try first | refine AOLg.of [] ?_ | refine QSg.of [] ?_
    repeat' (first | (refine AWp.pass ?_; first | refine AWp.seq ?_ | refine AWp.block ?_ | refine AWp.skip ?_ | refine AWp.regG [] Zc ?_ | refine AWp.cond_t rfl ?_ | refine AWp.cond_f rfl ?_ | (refine AWp.cond rfl ?_ ?_ <;> intro hc <;> (try rw [hc]) <;> ((try simp only [zn] at hc) <;> (try simp (disch := omega) only [zz hA, zb, zy, reduceCtorEq, Bool.false_eq_true, Int.reduceLT, Int.reduceLE, Int.reduceNeg] at hc) <;> (try simp only [zw] at hc)) <;> (try (exfalso; omega))) | refine AWp.exit ?_ | refine AWp.ret ⟨.inr rfl, _, RetOk.ev tabOk Zc, ?_⟩ | refine W.AWp.drawVG [] rfl (by decide +kernel) Zc ?_) | (refine AOLg.pass ?_; refine AOLg.nx hA tabOk Zc ?_; first | refine NX.done ?_ | refine NX.gt ?_ | refine NX.gf ?_ | (refine NX.gs ?_ ?_ <;> intro hc <;> rw [hc] <;> ((try simp only [zn] at hc) <;> (try simp (disch := omega) only [zz hA, zb, zy, reduceCtorEq, Bool.false_eq_true, Int.reduceLT, Int.reduceLE, Int.reduceNeg] at hc) <;> (try simp only [zw] at hc)) <;> (try (exfalso; omega))) | refine NX.k 1 (NX.one Z1 ?_) | refine NX.k 7 (NX.one Z7 ?_) | refine NX.k 9 (NX.one Z9 ?_) | refine NX.k 10 (NX.one Z10 ?_) | refine NX.k 14 (NX.one Z14 ?_) | (refine NX.one (One.neSame rfl (by kernel_rfl) rfl rfl) ?_) | refine NX.raw ?_) | (refine W.TRg.pass ?_; refine W.TRg.nx hA tabOk Zc ?_; first | refine W.TX.done ?_ | refine W.TX.gt ?_ | refine W.TX.gf ?_ | (refine W.TX.gs ?_ ?_ <;> intro hc <;> rw [hc] <;> ((try simp only [zn] at hc) <;> (try simp (disch := omega) only [zz hA, zb, zy, reduceCtorEq, Bool.false_eq_true, Int.reduceLT, Int.reduceLE, Int.reduceNeg] at hc) <;> (try simp only [zw] at hc)) <;> (try (exfalso; omega))) | refine W.TX.k 1 (W.TX.one Z1 ?_) | refine W.TX.k 7 (W.TX.one Z7 ?_) | refine W.TX.k 9 (W.TX.one Z9 ?_) | refine W.TX.k 10 (W.TX.one Z10 ?_) | refine W.TX.k 14 (W.TX.one Z14 ?_) | (refine W.TX.one (One.neSame rfl (by kernel_rfl) rfl rfl) ?_) | refine W.TX.raw ?_) | refine W.Fin3.of Zc (by repeat' (first | exact True.intro | exact rfl | refine And.intro ?_ ?_)) ?_ ?_ | (refine W.AllO.pass ?_; first | exact W.AllO.nil | (refine W.AllO.cons (One.ev hA tabOk ?_) ?_ <;> (first | refine W.AllO.pass ?_ | ((conv => lhs; cbv); done))) | (refine W.AllO.cons (One.skipB ?_) ?_ <;> (first | refine W.AllO.pass ?_ | ((conv => lhs; cbv); done))) | refine W.AllO.consX ZX rfl rfl ?_ | ((refine W.AllO.consX (One.neSame rfl (by kernel_rfl) rfl rfl) rfl rfl ?_) <;> (first | refine W.AllO.pass ?_ | exact Zd))) | refine Thn.exit ?_ | refine Blk.here ?_ | refine Blk.other (by decide) ?_ | refine ⟨.inl rfl, _, RetOk.ev tabOk Zc, ?_⟩ | fail)
    all_goals try (exfalso; omega)
    refine ⟨k + 1, ?_, ?_, rfl, rfl, ?_, Zk⟩ <;> (try omega)
    repeat' (first | exact subE.nil | refine subE.cons rfl ?_ | refine subE.int rfl ?_ ?_ | refine subE.bool rfl ?_ ?_ | refine subE.str rfl ?_ ?_ | refine subE.sl rfl ?_ ?_)
    all_goals exact Zd
  · try first | refine AOLg.of [] ?_ | refine QSg.of [] ?_
    repeat' (first | (refine AWp.pass ?_; first | refine AWp.seq ?_ | refine AWp.block ?_ | refine AWp.skip ?_ | refine AWp.regG [] Zc ?_ | refine AWp.cond_t rfl ?_ | refine AWp.cond_f rfl ?_ | (refine AWp.cond rfl ?_ ?_ <;> intro hc <;> (try rw [hc]) <;> ((try simp only [zn] at hc) <;> (try simp (disch := omega) only [zz hA, zb, zy, reduceCtorEq, Bool.false_eq_true, Int.reduceLT, Int.reduceLE, Int.reduceNeg] at hc) <;> (try simp only [zw] at hc)) <;> (try (exfalso; omega))) | refine AWp.exit ?_ | refine AWp.ret ⟨.inr rfl, _, RetOk.ev tabOk Zc, ?_⟩ | refine W.AWp.drawVG [] rfl (by decide +kernel) Zc ?_) | (refine AOLg.pass ?_; refine AOLg.nx hA tabOk Zc ?_; first | refine NX.done ?_ | refine NX.gt ?_ | refine NX.gf ?_ | (refine NX.gs ?_ ?_ <;> intro hc <;> rw [hc] <;> ((try simp only [zn] at hc) <;> (try simp (disch := omega) only [zz hA, zb, zy, reduceCtorEq, Bool.false_eq_true, Int.reduceLT, Int.reduceLE, Int.reduceNeg] at hc) <;> (try simp only [zw] at hc)) <;> (try (exfalso; omega))) | refine NX.k 1 (NX.one Z1 ?_) | refine NX.k 7 (NX.one Z7 ?_) | refine NX.k 9 (NX.one Z9 ?_) | refine NX.k 10 (NX.one Z10 ?_) | refine NX.k 14 (NX.one Z14 ?_) | refine NX.raw ?_) | (refine W.TRg.pass ?_; refine W.TRg.nx hA tabOk Zc ?_; first | refine W.TX.done ?_ | refine W.TX.gt ?_ | refine W.TX.gf ?_ | (refine W.TX.gs ?_ ?_ <;> intro hc <;> rw [hc] <;> ((try simp only [zn] at hc) <;> (try simp (disch := omega) only [zz hA, zb, zy, reduceCtorEq, Bool.false_eq_true, Int.reduceLT, Int.reduceLE, Int.reduceNeg] at hc) <;> (try simp only [zw] at hc)) <;> (try (exfalso; omega))) | refine W.TX.k 1 (W.TX.one Z1 ?_) | refine W.TX.k 7 (W.TX.one Z7 ?_) | refine W.TX.k 9 (W.TX.one Z9 ?_) | refine W.TX.k 10 (W.TX.one Z10 ?_) | refine W.TX.k 14 (W.TX.one Z14 ?_) | refine W.TX.raw ?_) | refine W.Fin3.of Zc (by repeat' (first | exact True.intro | exact rfl | refine And.intro ?_ ?_)) ?_ ?_ | (refine W.AllO.pass ?_; first | exact W.AllO.nil | (refine W.AllO.cons (One.ev hA tabOk ?_) ?_ <;> (first | refine W.AllO.pass ?_ | ((conv => lhs; cbv); done))) | (refine W.AllO.cons (One.skipB ?_) ?_ <;> (first | refine W.AllO.pass ?_ | ((conv => lhs; cbv); done))) | refine W.AllO.consX ZX rfl rfl ?_) | refine Thn.exit ?_ | refine Blk.here ?_ | refine Blk.other (by decide) ?_ | refine ⟨.inl rfl, _, RetOk.ev tabOk Zc, ?_⟩ | fail)
    all_goals exact Ze
theorem refSet4_c (V : List Int) (N : List (Int × Int)) (M : List Int) (z v : Int) (h0 : 0 ≤ z) (h1 : z < V.length) (hN : N.length ≤ 1000000) (hV : V.length ≤ 1000000) : PureCalls Tryz.prog 78 [clP A V N M, IP z, IP v] (.tup [clP A (V.set z.toNat v) (N ++ [(z, V.getD z.toNat default)]) M, IP 0]) := by
  refine PureCalls.of Tryz.func78 rfl (by kernel_rfl) rfl ?_
  try first | refine AOLg.of [] ?_ | refine QSg.of [] ?_
  repeat' (first | (refine AWp.pass ?_; first | refine AWp.seq ?_ | refine AWp.block ?_ | refine AWp.skip ?_ | refine AWp.regG [] Zc ?_ | refine AWp.cond_t rfl ?_ | refine AWp.cond_f rfl ?_ | (refine AWp.cond rfl ?_ ?_ <;> intro hc <;> (try rw [hc]) <;> ((try simp only [zn] at hc) <;> (try simp (disch := omega) only [zz hA, zb, zy, reduceCtorEq, Bool.false_eq_true, Int.reduceLT, Int.reduceLE, Int.reduceNeg] at hc) <;> (try simp only [zw] at hc)) <;> (try (exfalso; omega))) | refine AWp.exit ?_ | refine AWp.ret ⟨.inr rfl, _, RetOk.ev tabOk Zc, ?_⟩ | refine W.AWp.drawVG [] rfl (by decide +kernel) Zc ?_) | (refine AOLg.pass ?_; refine AOLg.nx hA tabOk Zc ?_; first | refine NX.done ?_ | refine NX.gt ?_ | refine NX.gf ?_ | (refine NX.gs ?_ ?_ <;> intro hc <;> rw [hc] <;> ((try simp only [zn] at hc) <;> (try simp (disch := omega) only [zz hA, zb, zy, reduceCtorEq, Bool.false_eq_true, Int.reduceLT, Int.reduceLE, Int.reduceNeg] at hc) <;> (try simp only [zw] at hc)) <;> (try (exfalso; omega))) | refine NX.k 1 (NX.one Z1 ?_) | refine NX.k 10 (NX.one Z10 ?_) | refine NX.k 11 (NX.one Z11 ?_) | refine NX.k 14 (NX.one Z14 ?_) | refine NX.k 15 (NX.one Z15 ?_) | refine NX.k 17 (NX.one Z17 ?_) | refine NX.k 18 (NX.one Z18 ?_) | (refine NX.one (One.elemM hA tabOk rfl rfl rfl rfl Zd Zd) ?_) | (refine NX.one (One.appendOwnM hA tabOk (f := encN) (z, V.getD z.toNat default) rfl rfl rfl rfl rfl rfl (by simp only [encN, hid_eq hA]) Zd Zd) ?_) | refine NX.raw ?_) | (refine W.TRg.pass ?_; refine W.TRg.nx hA tabOk Zc ?_; first | refine W.TX.done ?_ | refine W.TX.gt ?_ | refine W.TX.gf ?_ | (refine W.TX.gs ?_ ?_ <;> intro hc <;> rw [hc] <;> ((try simp only [zn] at hc) <;> (try simp (disch := omega) only [zz hA, zb, zy, reduceCtorEq, Bool.false_eq_true, Int.reduceLT, Int.reduceLE, Int.reduceNeg] at hc) <;> (try simp only [zw] at hc)) <;> (try (exfalso; omega))) | refine W.TX.k 1 (W.TX.one Z1 ?_) | refine W.TX.k 10 (W.TX.one Z10 ?_) | refine W.TX.k 11 (W.TX.one Z11 ?_) | refine W.TX.k 14 (W.TX.one Z14 ?_) | refine W.TX.k 15 (W.TX.one Z15 ?_) | refine W.TX.k 17 (W.TX.one Z17 ?_) | refine W.TX.k 18 (W.TX.one Z18 ?_) | (refine W.TX.one (One.elemM hA tabOk rfl rfl rfl rfl Zd Zd) ?_) | (refine W.TX.one (One.appendOwnM hA tabOk (f := encN) (z, V.getD z.toNat default) rfl rfl rfl rfl rfl rfl (by simp only [encN, hid_eq hA]) Zd Zd) ?_) | refine W.TX.raw ?_) | refine W.Fin3.of Zc (by repeat' (first | exact True.intro | exact rfl | refine And.intro ?_ ?_)) ?_ ?_ | (refine W.AllO.pass ?_; first | exact W.AllO.nil | (refine W.AllO.cons (One.ev hA tabOk ?_) ?_ <;> (first | refine W.AllO.pass ?_ | ((conv => lhs; cbv); done))) | (refine W.AllO.cons (One.skipB ?_) ?_ <;> (first | refine W.AllO.pass ?_ | ((conv => lhs; cbv); done))) | refine W.AllO.consX ZX rfl rfl ?_ | ((refine W.AllO.consX (One.elemM hA tabOk rfl rfl rfl rfl Zd Zd) rfl rfl ?_) <;> (first | refine W.AllO.pass ?_ | exact Zd))) | refine Thn.exit ?_ | refine Blk.here ?_ | refine Blk.other (by decide) ?_ | refine ⟨.inl rfl, _, RetOk.ev tabOk Zc, ?_⟩ | fail)
  all_goals try (exfalso; omega)
  all_goals
    rw [show (A (.hid Nat) fun _ => z.toNat) = z.toNat from rhid hA _]
    show rPV _ _ = some _
    rw [rPV_set (st := _) (i := 2) (j := 3) rfl rfl]
omit hA in
theorem less_neg (R : List Int) (p q : Int) (h : p ≠ q) : lessM R p q = !lessM R q p := by
  rw [Bool.eq_iff_iff]
  simp only [lessM, Bool.or_eq_true, Bool.and_eq_true, decide_eq_true_eq, Bool.not_eq_true', Bool.or_eq_false_iff, Bool.and_eq_false_iff, decide_eq_false_iff_not]
  omega
theorem refJoin_c (R V : List Int) (N : List (Int × Int)) (M : List Int) (hru : RightU V R) (hR : R.length ≤ 1000000) (hV : V.length ≤ 1000000) (hN : N.length ≤ 1000000) (x y p q : Int) (x0 : 0 ≤ x) (x1 : x < V.length) (y0 : 0 ≤ y) (y1 : y < V.length) (hp : findU V x = p) (hq : findU V y = q) (hne : p ≠ q) :
    PureCalls Tryz.prog 38 [clP A V N M, intsP A R, IP x, IP y] (clP A (joinV V R p q) (joinN V R N p q) M) := by
  have fx := refFind_c hA V N M R hru x x0 x1 hV
  have fy := refFind_c hA V N M R hru y y0 y1 hV
  have hpr := find_range hru x0 x1
  have hqr := find_range hru y0 y1
  have ep := find_find hru x0 x1
  have eq := find_find hru y0 y1
  have fp := find_fix hru x0 x1
  have fq := find_fix hru y0 y1
  rw [hp] at fp
  rw [hq] at fq
  rw [hp] at fx hpr ep
  rw [hq] at fy hqr eq
  have hl := refLess_c hA R (hid A p) (hid A q) hR
  rw [show lessM R (hid A p) (hid A q) = lessM R p q by rw [hid_eq hA, hid_eq hA]] at hl
  have hls := less_neg R p q hne
  unfold joinV joinN joinP
  rw [ep, eq, if_neg hne, if_neg hne]
  cases hb : lessM R q p with
  | true =>
    have hb2 : lessM R p q = false := by rw [hls, hb]; rfl
    rw [hb2, hid_eq hA (α := Bool)] at hl
    have hst := refSet4_c hA V N M p q hpr.1 hpr.2 hN hV
    rw [fp] at hst
    have hst : PureCalls Tryz.prog 78 [clP A V N M, IP (hid A p), IP (hid A q)] (.tup [clP A (V.set p.toNat q) (N ++ [(p, p)]) M, IP 0]) := by rw [hid_eq hA p, hid_eq hA q]; exact hst
    refine PureCalls.of Tryz.func38 rfl (by kernel_rfl) rfl ?_
    try first | refine AOLg.of [] ?_ | refine QSg.of [] ?_
    repeat' (first | (refine AWp.pass ?_; first | refine AWp.seq ?_ | refine AWp.block ?_ | refine AWp.skip ?_ | refine AWp.regG [] Zc ?_ | refine AWp.cond_t rfl ?_ | refine AWp.cond_f rfl ?_ | (refine AWp.cond rfl ?_ ?_ <;> intro hc <;> (try rw [hc]) <;> ((try simp only [zn] at hc) <;> (try simp (disch := omega) only [zz hA, zb, zy, reduceCtorEq, Bool.false_eq_true, Int.reduceLT, Int.reduceLE, Int.reduceNeg] at hc) <;> (try simp only [zw] at hc)) <;> (try (exfalso; omega))) | refine AWp.exit ?_ | refine AWp.ret ⟨.inr rfl, _, RetOk.ev tabOk Zc, ?_⟩) | (refine AOLg.pass ?_; refine AOLg.nx hA tabOk Zc ?_; first | refine NX.done ?_ | refine NX.gt ?_ | refine NX.gf ?_ | (refine NX.gs ?_ ?_ <;> intro hc <;> rw [hc] <;> ((try simp only [zn] at hc) <;> (try simp (disch := omega) only [zz hA, zb, zy, reduceCtorEq, Bool.false_eq_true, Int.reduceLT, Int.reduceLE, Int.reduceNeg] at hc) <;> (try simp only [zw] at hc)) <;> (try (exfalso; omega))) | (refine NX.kC ?_; first | (with_reducible refine NX.call (fx) ?_) | (with_reducible refine NX.call (fy) ?_) | (with_reducible refine NX.call (hl) ?_) | (with_reducible refine NX.call (hst) ?_) | ((first | refine NX.call (fx) ?_ | refine NX.call (fy) ?_ | refine NX.call (hl) ?_ | refine NX.call (hst) ?_)) | fail) | (refine NX.kO ?_; (first | refine NX.callO (fx) (by simp [allEq]) rfl ?_ | refine NX.callO (fy) (by simp [allEq]) rfl ?_ | refine NX.callO (hl) (by simp [allEq]) rfl ?_ | refine NX.callO (hst) (by simp [allEq]) rfl ?_)) | refine NX.k 8 (NX.one Z8 ?_) | refine NX.k 14 (NX.one Z14 ?_) | refine NX.k 15 (NX.one Z15 ?_) | refine NX.raw ?_) | refine Thn.exit ?_ | refine Blk.here ?_ | refine Blk.other (by decide) ?_ | refine ⟨.inl rfl, _, RetOk.ev tabOk Zc, ?_⟩ | fail)
    all_goals (refine rPV_then (by conv => lhs; cbv) ?_; rfl)
  | false =>
    have hb2 : lessM R p q = true := by rw [hls, hb]; rfl
    rw [hb2, hid_eq hA (α := Bool)] at hl
    have hst := refSet4_c hA V N M q p hqr.1 hqr.2 hN hV
    rw [fq] at hst
    have hst : PureCalls Tryz.prog 78 [clP A V N M, IP (hid A q), IP (hid A p)] (.tup [clP A (V.set q.toNat p) (N ++ [(q, q)]) M, IP 0]) := by rw [hid_eq hA p, hid_eq hA q]; exact hst
    refine PureCalls.of Tryz.func38 rfl (by kernel_rfl) rfl ?_
    try first | refine AOLg.of [] ?_ | refine QSg.of [] ?_
    repeat' (first | (refine AWp.pass ?_; first | refine AWp.seq ?_ | refine AWp.block ?_ | refine AWp.skip ?_ | refine AWp.regG [] Zc ?_ | refine AWp.cond_t rfl ?_ | refine AWp.cond_f rfl ?_ | (refine AWp.cond rfl ?_ ?_ <;> intro hc <;> (try rw [hc]) <;> ((try simp only [zn] at hc) <;> (try simp (disch := omega) only [zz hA, zb, zy, reduceCtorEq, Bool.false_eq_true, Int.reduceLT, Int.reduceLE, Int.reduceNeg] at hc) <;> (try simp only [zw] at hc)) <;> (try (exfalso; omega))) | refine AWp.exit ?_ | refine AWp.ret ⟨.inr rfl, _, RetOk.ev tabOk Zc, ?_⟩) | (refine AOLg.pass ?_; refine AOLg.nx hA tabOk Zc ?_; first | refine NX.done ?_ | refine NX.gt ?_ | refine NX.gf ?_ | (refine NX.gs ?_ ?_ <;> intro hc <;> rw [hc] <;> ((try simp only [zn] at hc) <;> (try simp (disch := omega) only [zz hA, zb, zy, reduceCtorEq, Bool.false_eq_true, Int.reduceLT, Int.reduceLE, Int.reduceNeg] at hc) <;> (try simp only [zw] at hc)) <;> (try (exfalso; omega))) | (refine NX.kC ?_; first | (with_reducible refine NX.call (fx) ?_) | (with_reducible refine NX.call (fy) ?_) | (with_reducible refine NX.call (hl) ?_) | (with_reducible refine NX.call (hst) ?_) | ((first | refine NX.call (fx) ?_ | refine NX.call (fy) ?_ | refine NX.call (hl) ?_ | refine NX.call (hst) ?_)) | fail) | (refine NX.kO ?_; (first | refine NX.callO (fx) (by simp [allEq]) rfl ?_ | refine NX.callO (fy) (by simp [allEq]) rfl ?_ | refine NX.callO (hl) (by simp [allEq]) rfl ?_ | refine NX.callO (hst) (by simp [allEq]) rfl ?_)) | refine NX.k 8 (NX.one Z8 ?_) | refine NX.k 14 (NX.one Z14 ?_) | refine NX.k 15 (NX.one Z15 ?_) | refine NX.raw ?_) | refine Thn.exit ?_ | refine Blk.here ?_ | refine Blk.other (by decide) ?_ | refine ⟨.inl rfl, _, RetOk.ev tabOk Zc, ?_⟩ | fail)
    all_goals (refine rPV_then (by conv => lhs; cbv) ?_; rfl)
theorem refRep_c (K : List (List Int)) (S : List Int) (h : StK K S) (R V : List Int) (N : List (Int × Int)) (M : List Int) (P Q : List (List Int)) (hR : RightU V R) (hV : V.length ≤ 1000000) (id : Int) :
    PureCalls Tryz.prog 40 [keyedPV A K S, grP A R V N M P Q, IP id] (IP (hid A (repM K V id))) := by
  have hv := refNumber_c hA K S h.ok h.keys R V N M P Q id
  have hcs := num_cases K V.length id h.ok
  refine PureCalls.of Tryz.func40 rfl (by kernel_rfl) rfl ?_
  by_cases hn : 0 ≤ numM K V.length id
  · have hf := refFind_c hA V N M R hR (numM K V.length id) hn (by omega) hV
    have ha := refAtV_c hA K S (findU V (numM K V.length id))
    have hr : repM K V id = atV K (findU V (numM K V.length id)) := by unfold repM; rw [if_neg (by omega)]
    rw [hr]
    generalize findU V (numM K V.length id) = y at *
    generalize numM K V.length id = x at *
    generalize atV K y = a1 at *
    rw [hid_eq hA x] at hv
    rw [hid_eq hA y] at hf
    try first | refine AOLg.of [] ?_ | refine QSg.of [] ?_
    repeat' (first | (refine AWp.pass ?_; first | refine AWp.seq ?_ | refine AWp.block ?_ | refine AWp.skip ?_ | refine AWp.regG [] Zc ?_ | refine AWp.cond_t rfl ?_ | refine AWp.cond_f rfl ?_ | (refine AWp.cond rfl ?_ ?_ <;> intro hc <;> (try rw [hc]) <;> ((try simp only [zn] at hc) <;> (try simp (disch := omega) only [zz hA, zb, zy, reduceCtorEq, Bool.false_eq_true, Int.reduceLT, Int.reduceLE, Int.reduceNeg] at hc) <;> (try simp only [zw] at hc)) <;> (try (exfalso; omega))) | refine AWp.exit ?_ | refine AWp.ret ⟨.inr rfl, _, RetOk.ev tabOk Zc, ?_⟩ | refine AWp.drawVG [] rfl (by decide +kernel) Zc ?_) | (refine AOLg.pass ?_; refine AOLg.nx hA tabOk Zc ?_; first | refine NX.done ?_ | refine NX.gt ?_ | refine NX.gf ?_ | (refine NX.gs ?_ ?_ <;> intro hc <;> rw [hc] <;> ((try simp only [zn] at hc) <;> (try simp (disch := omega) only [zz hA, zb, zy, reduceCtorEq, Bool.false_eq_true, Int.reduceLT, Int.reduceLE, Int.reduceNeg] at hc) <;> (try simp only [zw] at hc)) <;> (try (exfalso; omega))) | (refine NX.kC ?_; first | (with_reducible refine NX.call (hv) ?_) | (with_reducible refine NX.call (hf) ?_) | (with_reducible refine NX.call (ha) ?_) | ((first | refine NX.call (hv) ?_ | refine NX.call (hf) ?_ | refine NX.call (ha) ?_)) | fail) | (refine NX.kO ?_; (first | refine NX.callO (hv) (by simp [allEq]) rfl ?_ | refine NX.callO (hf) (by simp [allEq]) rfl ?_ | refine NX.callO (ha) (by simp [allEq]) rfl ?_)) | refine NX.k 14 (NX.one Z14 ?_) | refine NX.k 18 (NX.one Z18 ?_) | refine NX.raw ?_) | (refine TRg.pass ?_; refine TRg.nx hA tabOk Zc ?_; first | refine TX.done ?_ | refine TX.gt ?_ | refine TX.gf ?_ | (refine TX.gs ?_ ?_ <;> intro hc <;> rw [hc] <;> ((try simp only [zn] at hc) <;> (try simp (disch := omega) only [zz hA, zb, zy, reduceCtorEq, Bool.false_eq_true, Int.reduceLT, Int.reduceLE, Int.reduceNeg] at hc) <;> (try simp only [zw] at hc)) <;> (try (exfalso; omega))) | (refine TX.kC ?_; first | (with_reducible refine TX.call (hv) ?_) | (with_reducible refine TX.call (hf) ?_) | (with_reducible refine TX.call (ha) ?_) | ((first | refine TX.call (hv) ?_ | refine TX.call (hf) ?_ | refine TX.call (ha) ?_)) | fail) | (refine TX.kO ?_; (first | refine TX.callO (hv) (by simp [allEq]) rfl ?_ | refine TX.callO (hf) (by simp [allEq]) rfl ?_ | refine TX.callO (ha) (by simp [allEq]) rfl ?_)) | refine TX.k 14 (TX.one Z14 ?_) | refine TX.k 18 (TX.one Z18 ?_) | refine TX.raw ?_) | refine Fin3.of Zc (by repeat' (first | exact True.intro | exact rfl | refine And.intro ?_ ?_)) ?_ ?_ | (refine AllO.pass ?_; first | exact AllO.nil | (refine AllO.cons (One.ev hA tabOk ?_) ?_ <;> (first | refine AllO.pass ?_ | ((conv => lhs; cbv); done))) | (refine AllO.cons (One.skipB ?_) ?_ <;> (first | refine AllO.pass ?_ | ((conv => lhs; cbv); done))) | ((with_reducible refine AllO.call Zc (hv) ?_ ?_) <;> (first | refine AllO.pass ?_ | exact rfl | exact Zd)) | ((with_reducible refine AllO.call Zc (hf) ?_ ?_) <;> (first | refine AllO.pass ?_ | exact rfl | exact Zd)) | ((with_reducible refine AllO.call Zc (ha) ?_ ?_) <;> (first | refine AllO.pass ?_ | exact rfl | exact Zd)) | refine AllO.consX ZX rfl rfl ?_) | refine Thn.exit ?_ | refine Blk.here ?_ | refine Blk.other (by decide) ?_ | refine ⟨.inl rfl, _, RetOk.ev tabOk Zc, ?_⟩ | fail)
    all_goals first | (exfalso; omega) | (refine rPV_then (by conv => lhs; cbv) ?_; rfl)
  · have hr : repM K V id = id := by unfold repM; rw [if_pos (by omega)]
    rw [hr]
    generalize numM K V.length id = x at *
    rw [hid_eq hA x] at hv
    try first | refine AOLg.of [] ?_ | refine QSg.of [] ?_
    repeat' (first | (refine AWp.pass ?_; first | refine AWp.seq ?_ | refine AWp.block ?_ | refine AWp.skip ?_ | refine AWp.regG [] Zc ?_ | refine AWp.cond_t rfl ?_ | refine AWp.cond_f rfl ?_ | (refine AWp.cond rfl ?_ ?_ <;> intro hc <;> (try rw [hc]) <;> ((try simp only [zn] at hc) <;> (try simp (disch := omega) only [zz hA, zb, zy, reduceCtorEq, Bool.false_eq_true, Int.reduceLT, Int.reduceLE, Int.reduceNeg] at hc) <;> (try simp only [zw] at hc)) <;> (try (exfalso; omega))) | refine AWp.exit ?_ | refine AWp.ret ⟨.inr rfl, _, RetOk.ev tabOk Zc, ?_⟩ | refine AWp.drawVG [] rfl (by decide +kernel) Zc ?_) | (refine AOLg.pass ?_; refine AOLg.nx hA tabOk Zc ?_; first | refine NX.done ?_ | refine NX.gt ?_ | refine NX.gf ?_ | (refine NX.gs ?_ ?_ <;> intro hc <;> rw [hc] <;> ((try simp only [zn] at hc) <;> (try simp (disch := omega) only [zz hA, zb, zy, reduceCtorEq, Bool.false_eq_true, Int.reduceLT, Int.reduceLE, Int.reduceNeg] at hc) <;> (try simp only [zw] at hc)) <;> (try (exfalso; omega))) | (refine NX.kC ?_; first | (with_reducible refine NX.call (hv) ?_) | ((first | refine NX.call (hv) ?_)) | fail) | (refine NX.kO ?_; (first | refine NX.callO (hv) (by simp [allEq]) rfl ?_)) | refine NX.k 14 (NX.one Z14 ?_) | refine NX.k 18 (NX.one Z18 ?_) | refine NX.raw ?_) | (refine TRg.pass ?_; refine TRg.nx hA tabOk Zc ?_; first | refine TX.done ?_ | refine TX.gt ?_ | refine TX.gf ?_ | (refine TX.gs ?_ ?_ <;> intro hc <;> rw [hc] <;> ((try simp only [zn] at hc) <;> (try simp (disch := omega) only [zz hA, zb, zy, reduceCtorEq, Bool.false_eq_true, Int.reduceLT, Int.reduceLE, Int.reduceNeg] at hc) <;> (try simp only [zw] at hc)) <;> (try (exfalso; omega))) | (refine TX.kC ?_; first | (with_reducible refine TX.call (hv) ?_) | ((first | refine TX.call (hv) ?_)) | fail) | (refine TX.kO ?_; (first | refine TX.callO (hv) (by simp [allEq]) rfl ?_)) | refine TX.k 14 (TX.one Z14 ?_) | refine TX.k 18 (TX.one Z18 ?_) | refine TX.raw ?_) | refine Fin3.of Zc (by repeat' (first | exact True.intro | exact rfl | refine And.intro ?_ ?_)) ?_ ?_ | (refine AllO.pass ?_; first | exact AllO.nil | (refine AllO.cons (One.ev hA tabOk ?_) ?_ <;> (first | refine AllO.pass ?_ | ((conv => lhs; cbv); done))) | (refine AllO.cons (One.skipB ?_) ?_ <;> (first | refine AllO.pass ?_ | ((conv => lhs; cbv); done))) | ((with_reducible refine AllO.call Zc (hv) ?_ ?_) <;> (first | refine AllO.pass ?_ | exact rfl | exact Zd)) | refine AllO.consX ZX rfl rfl ?_) | refine Thn.exit ?_ | refine Blk.here ?_ | refine Blk.other (by decide) ?_ | refine ⟨.inl rfl, _, RetOk.ev tabOk Zc, ?_⟩ | fail)
    all_goals first | (exfalso; omega) | (refine rPV_then (by conv => lhs; cbv) ?_; rw [hid_eq hA])
/-- A row of rows with another one in a place. -/
theorem refWith_c (P : List (List Int)) (g : Int) (row : List Int) (h0 : 0 ≤ g) (h1 : g < P.length) (hP : P.length ≤ 1000000) : PureCalls Tryz.prog 39 [slP A 1 (encK A) P, IP g, intsP A row] (slP A 1 (encK A) (P.set g.toNat row)) := by
  refine PureCalls.of Tryz.func39 rfl (by kernel_rfl) rfl ?_
  try first | refine AOLg.of [] ?_ | refine QSg.of [] ?_
  repeat' (first | (refine AWp.pass ?_; first | refine AWp.seq ?_ | refine AWp.block ?_ | refine AWp.skip ?_ | refine AWp.regG [] Zc ?_ | refine AWp.cond_t rfl ?_ | refine AWp.cond_f rfl ?_ | (refine AWp.cond rfl ?_ ?_ <;> intro hc <;> (try rw [hc]) <;> ((try simp only [zn] at hc) <;> (try simp (disch := omega) only [zz hA, zb, zy, reduceCtorEq, Bool.false_eq_true, Int.reduceLT, Int.reduceLE, Int.reduceNeg] at hc) <;> (try simp only [zw] at hc)) <;> (try (exfalso; omega))) | refine AWp.exit ?_ | refine AWp.ret ⟨.inr rfl, _, RetOk.ev tabOk Zc, ?_⟩) | (refine AOLg.pass ?_; refine AOLg.nx hA tabOk Zc ?_; first | refine NX.done ?_ | refine NX.gt ?_ | refine NX.gf ?_ | (refine NX.gs ?_ ?_ <;> intro hc <;> rw [hc] <;> ((try simp only [zn] at hc) <;> (try simp (disch := omega) only [zz hA, zb, zy, reduceCtorEq, Bool.false_eq_true, Int.reduceLT, Int.reduceLE, Int.reduceNeg] at hc) <;> (try simp only [zw] at hc)) <;> (try (exfalso; omega))) | refine NX.k 1 (NX.one Z1 ?_) | refine NX.k 11 (NX.one Z11 ?_) | refine NX.k 15 (NX.one Z15 ?_) | refine NX.k 17 (NX.one Z17 ?_) | (refine NX.one (One.storeRatM hA tabOk (f := encK A) row rfl rfl rfl rfl rfl rfl rfl rfl (fun _ => rfl) Zd) ?_) | refine NX.raw ?_) | refine Thn.exit ?_ | refine Blk.here ?_ | refine Blk.other (by decide) ?_ | refine ⟨.inl rfl, _, RetOk.ev tabOk Zc, ?_⟩ | fail)
  all_goals (refine rPV_then (by conv => lhs; cbv) ?_; simp only [slP, hid_eq hA])
end Go.Proofs.YtkkjlmcnfoncdaaGreat.Aw
