/- Texts of the proof, put together: the abstract walk, contracts of the functions that the statement reaches, plain laws, part 6 of 6. -/
import Derived.Test.YtkkjlmcnfoncdaaIJe
import Derived.Test.YtkkjlmcnfoncdaaIJd
/- Law IfgJoins. -/
set_option linter.unusedVariables false
set_option linter.unusedSimpArgs false
set_option linter.unusedSectionVars false
namespace Go.Proofs.Ytkkjlmcnfoncdaa.Aw
open Go Go.RowKit
set_option maxRecDepth 10000
attribute [local irreducible] AWp AOL QS One AOLg QSg NX QX TRg TX AllO Fin3
variable {A : Ar} (hA : A = real)
include hA
set_option maxHeartbeats 4000000 in
theorem ijoins_law (l : List Sg) (hl : FitG l) (K : List (List Int)) (S : List Int) (hk : FitsK K S) (R V : List Int) (N : List (Int × Int)) (M : List Int) (P Q : List (List Int)) (hg : FitGr R V N M P Q) (x y : Int) :
    PureCalls Try.prog 8 [.agg [.sl 2 false (hid A (List.map (encG A) l)), .sl 1 false (hid A (List.map (encK A) K)), .sl 1 false (hid A (List.map encI S)), .sl 1 false (hid A (List.map encI R)), .sl 1 false (hid A (List.map encI V)), .sl 2 false (hid A (List.map encN N)), .sl 1 false (hid A (List.map encI M)), .sl 1 false (hid A (List.map (encK A) P)), .sl 1 false (hid A (List.map (encK A) Q)), .lit (.int .i64 x), .lit (.int .i64 y)]] (BP true) := by
  have hsh := shown12_c hA
  obtain ⟨b, hof, hb⟩ := of_c hA l hl K S hk R V N M P Q hg
  cases b with
  | false =>
    refine PureCalls.of Try.func8 rfl (by kernel_rfl) rfl ?_
    try first | refine AOLg.of [] ?_ | refine QSg.of [] ?_
    repeat' (first | (refine AWp.pass ?_; first | refine AWp.seq ?_ | refine AWp.block ?_ | refine AWp.skip ?_ | refine AWp.regG [] Zc ?_ | refine AWp.cond_t rfl ?_ | refine AWp.cond_f rfl ?_ | (refine AWp.cond rfl ?_ ?_ <;> intro hc <;> (try rw [hc]) <;> ((try simp only [zn] at hc) <;> (try simp (disch := omega) only [zz hA, zb, zy, reduceCtorEq, Bool.false_eq_true, Int.reduceLT, Int.reduceLE, Int.reduceNeg] at hc) <;> (try simp only [zw] at hc)) <;> (try (exfalso; omega))) | refine AWp.exit ?_ | refine AWp.ret ⟨.inr rfl, _, RetOk.ev tabOk Zc, ?_⟩ | refine AWp.drawVG [] rfl (by decide +kernel) Zc ?_) | (refine AOLg.pass ?_; refine AOLg.nx hA tabOk Zc ?_; first | refine NX.done ?_ | refine NX.gt ?_ | refine NX.gf ?_ | (refine NX.gs ?_ ?_ <;> intro hc <;> rw [hc] <;> ((try simp only [zn] at hc) <;> (try simp (disch := omega) only [zz hA, zb, zy, reduceCtorEq, Bool.false_eq_true, Int.reduceLT, Int.reduceLE, Int.reduceNeg] at hc) <;> (try simp only [zw] at hc)) <;> (try (exfalso; omega))) | (refine NX.kC ?_; first | (with_reducible refine NX.call (hsh) ?_) | (with_reducible refine NX.call (hof) ?_) | ((first | refine NX.call (hsh) ?_ | refine NX.call (hof) ?_)) | fail) | (refine NX.kO ?_; (first | refine NX.callO (hsh) (by simp [allEq]) rfl ?_ | refine NX.callO (hof) (by simp [allEq]) rfl ?_)) | refine NX.k 1 (NX.one Z1 ?_) | refine NX.k 7 (NX.one Z7 ?_) | refine NX.k 8 (NX.one Z8 ?_) | refine NX.k 9 (NX.one Z9 ?_) | refine NX.k 10 (NX.one Z10 ?_) | refine NX.k 14 (NX.one Z14 ?_) | refine NX.k 15 (NX.one Z15 ?_) | refine NX.k 18 (NX.one Z18 ?_) | refine NX.raw ?_) | (refine TRg.pass ?_; refine TRg.nx hA tabOk Zc ?_; first | refine TX.done ?_ | refine TX.gt ?_ | refine TX.gf ?_ | (refine TX.gs ?_ ?_ <;> intro hc <;> rw [hc] <;> ((try simp only [zn] at hc) <;> (try simp (disch := omega) only [zz hA, zb, zy, reduceCtorEq, Bool.false_eq_true, Int.reduceLT, Int.reduceLE, Int.reduceNeg] at hc) <;> (try simp only [zw] at hc)) <;> (try (exfalso; omega))) | (refine TX.kC ?_; first | (with_reducible refine TX.call (hsh) ?_) | (with_reducible refine TX.call (hof) ?_) | ((first | refine TX.call (hsh) ?_ | refine TX.call (hof) ?_)) | fail) | (refine TX.kO ?_; (first | refine TX.callO (hsh) (by simp [allEq]) rfl ?_ | refine TX.callO (hof) (by simp [allEq]) rfl ?_)) | refine TX.k 1 (TX.one Z1 ?_) | refine TX.k 7 (TX.one Z7 ?_) | refine TX.k 8 (TX.one Z8 ?_) | refine TX.k 9 (TX.one Z9 ?_) | refine TX.k 10 (TX.one Z10 ?_) | refine TX.k 14 (TX.one Z14 ?_) | refine TX.k 15 (TX.one Z15 ?_) | refine TX.k 18 (TX.one Z18 ?_) | refine TX.raw ?_) | refine Fin3.of Zc (by repeat' (first | exact True.intro | exact rfl | refine And.intro ?_ ?_)) ?_ ?_ | (refine AllO.pass ?_; first | exact AllO.nil | (refine AllO.cons (One.ev hA tabOk ?_) ?_ <;> (first | refine AllO.pass ?_ | ((conv => lhs; cbv); done))) | (refine AllO.cons (One.skipB ?_) ?_ <;> (first | refine AllO.pass ?_ | ((conv => lhs; cbv); done))) | ((with_reducible refine AllO.call Zc (hsh) ?_ ?_) <;> (first | refine AllO.pass ?_ | exact rfl | exact Zd)) | ((with_reducible refine AllO.call Zc (hof) ?_ ?_) <;> (first | refine AllO.pass ?_ | exact rfl | exact Zd)) | refine AllO.consX ZX rfl rfl ?_) | refine Thn.exit ?_ | refine Blk.here ?_ | refine Blk.other (by decide) ?_ | refine ⟨.inl rfl, _, RetOk.ev tabOk Zc, ?_⟩ | fail)
    all_goals exact Ze
  | true =>
    by_cases hxy : (0 ≤ x ∧ x < V.length) ∧ (0 ≤ y ∧ y < V.length)
    · have ho := hb rfl
      obtain ⟨b1, b2, b3, b4, b5, b6, b7, b8⟩ := ho.len
      have hst := ho.st
      have hru := ho.ru
      have hri := ho.right
      clear hb ho
      obtain ⟨⟨x0, x1⟩, ⟨y0, y1⟩⟩ := hxy
      have fx := refFind_c hA V N M R hru x x0 x1 (by omega)
      have fy := refFind_c hA V N M R hru y y0 y1 (by omega)
      by_cases hpq : findU V x = findU V y
      · have h1 := one_c0 hA K S R V N M P Q hru x y x0 x1 y0 y1 hpq
        have h2 := gsame_c hA R V N M P Q (by omega) ⟨by simp only; omega, by simp only; omega, by simp only; omega⟩
        rw [← hpq] at fy
        generalize findU V x = p at *
        refine PureCalls.of Try.func8 rfl (by kernel_rfl) rfl ?_
        try first | refine AOLg.of [] ?_ | refine QSg.of [] ?_
        repeat' (first | (refine AWp.pass ?_; first | refine AWp.seq ?_ | refine AWp.block ?_ | refine AWp.skip ?_ | refine AWp.regG [] Zc ?_ | refine AWp.cond_t rfl ?_ | refine AWp.cond_f rfl ?_ | (refine AWp.cond rfl ?_ ?_ <;> intro hc <;> (try rw [hc]) <;> ((try simp only [zn] at hc) <;> (try simp (disch := omega) only [zz hA, zb, zy, reduceCtorEq, Bool.false_eq_true, Int.reduceLT, Int.reduceLE, Int.reduceNeg] at hc) <;> (try simp only [zw] at hc)) <;> (try (exfalso; omega))) | refine AWp.exit ?_ | refine AWp.ret ⟨.inr rfl, _, RetOk.ev tabOk Zc, ?_⟩ | refine AWp.drawVG [] rfl (by decide +kernel) Zc ?_) | (refine AOLg.pass ?_; refine AOLg.nx hA tabOk Zc ?_; first | refine NX.done ?_ | refine NX.gt ?_ | refine NX.gf ?_ | (refine NX.gs ?_ ?_ <;> intro hc <;> rw [hc] <;> ((try simp only [zn] at hc) <;> (try simp (disch := omega) only [zz hA, zb, zy, reduceCtorEq, Bool.false_eq_true, Int.reduceLT, Int.reduceLE, Int.reduceNeg] at hc) <;> (try simp only [zw] at hc)) <;> (try (exfalso; omega))) | (refine NX.kC ?_; first | (with_reducible refine NX.call (hsh) ?_) | (with_reducible refine NX.call (hof) ?_) | (with_reducible refine NX.call (fx) ?_) | (with_reducible refine NX.call (fy) ?_) | (with_reducible refine NX.call (h1) ?_) | (with_reducible refine NX.call (h2) ?_) | ((first | refine NX.call (hsh) ?_ | refine NX.call (hof) ?_ | refine NX.call (fx) ?_ | refine NX.call (fy) ?_ | refine NX.call (h1) ?_ | refine NX.call (h2) ?_)) | fail) | (refine NX.kO ?_; (first | refine NX.callO (hsh) (by simp [allEq]) rfl ?_ | refine NX.callO (hof) (by simp [allEq]) rfl ?_ | refine NX.callO (fx) (by simp [allEq]) rfl ?_ | refine NX.callO (fy) (by simp [allEq]) rfl ?_ | refine NX.callO (h1) (by simp [allEq]) rfl ?_ | refine NX.callO (h2) (by simp [allEq]) rfl ?_)) | refine NX.k 1 (NX.one Z1 ?_) | refine NX.k 7 (NX.one Z7 ?_) | refine NX.k 8 (NX.one Z8 ?_) | refine NX.k 9 (NX.one Z9 ?_) | refine NX.k 10 (NX.one Z10 ?_) | refine NX.k 14 (NX.one Z14 ?_) | refine NX.k 15 (NX.one Z15 ?_) | refine NX.k 18 (NX.one Z18 ?_) | refine NX.raw ?_) | (refine TRg.pass ?_; refine TRg.nx hA tabOk Zc ?_; first | refine TX.done ?_ | refine TX.gt ?_ | refine TX.gf ?_ | (refine TX.gs ?_ ?_ <;> intro hc <;> rw [hc] <;> ((try simp only [zn] at hc) <;> (try simp (disch := omega) only [zz hA, zb, zy, reduceCtorEq, Bool.false_eq_true, Int.reduceLT, Int.reduceLE, Int.reduceNeg] at hc) <;> (try simp only [zw] at hc)) <;> (try (exfalso; omega))) | (refine TX.kC ?_; first | (with_reducible refine TX.call (hsh) ?_) | (with_reducible refine TX.call (hof) ?_) | (with_reducible refine TX.call (fx) ?_) | (with_reducible refine TX.call (fy) ?_) | (with_reducible refine TX.call (h1) ?_) | (with_reducible refine TX.call (h2) ?_) | ((first | refine TX.call (hsh) ?_ | refine TX.call (hof) ?_ | refine TX.call (fx) ?_ | refine TX.call (fy) ?_ | refine TX.call (h1) ?_ | refine TX.call (h2) ?_)) | fail) | (refine TX.kO ?_; (first | refine TX.callO (hsh) (by simp [allEq]) rfl ?_ | refine TX.callO (hof) (by simp [allEq]) rfl ?_ | refine TX.callO (fx) (by simp [allEq]) rfl ?_ | refine TX.callO (fy) (by simp [allEq]) rfl ?_ | refine TX.callO (h1) (by simp [allEq]) rfl ?_ | refine TX.callO (h2) (by simp [allEq]) rfl ?_)) | refine TX.k 1 (TX.one Z1 ?_) | refine TX.k 7 (TX.one Z7 ?_) | refine TX.k 8 (TX.one Z8 ?_) | refine TX.k 9 (TX.one Z9 ?_) | refine TX.k 10 (TX.one Z10 ?_) | refine TX.k 14 (TX.one Z14 ?_) | refine TX.k 15 (TX.one Z15 ?_) | refine TX.k 18 (TX.one Z18 ?_) | refine TX.raw ?_) | refine Fin3.of Zc (by repeat' (first | exact True.intro | exact rfl | refine And.intro ?_ ?_)) ?_ ?_ | (refine AllO.pass ?_; first | exact AllO.nil | (refine AllO.cons (One.ev hA tabOk ?_) ?_ <;> (first | refine AllO.pass ?_ | ((conv => lhs; cbv); done))) | (refine AllO.cons (One.skipB ?_) ?_ <;> (first | refine AllO.pass ?_ | ((conv => lhs; cbv); done))) | ((with_reducible refine AllO.call Zc (hsh) ?_ ?_) <;> (first | refine AllO.pass ?_ | exact rfl | exact Zd)) | ((with_reducible refine AllO.call Zc (hof) ?_ ?_) <;> (first | refine AllO.pass ?_ | exact rfl | exact Zd)) | ((with_reducible refine AllO.call Zc (fx) ?_ ?_) <;> (first | refine AllO.pass ?_ | exact rfl | exact Zd)) | ((with_reducible refine AllO.call Zc (fy) ?_ ?_) <;> (first | refine AllO.pass ?_ | exact rfl | exact Zd)) | ((with_reducible refine AllO.call Zc (h1) ?_ ?_) <;> (first | refine AllO.pass ?_ | exact rfl | exact Zd)) | ((with_reducible refine AllO.call Zc (h2) ?_ ?_) <;> (first | refine AllO.pass ?_ | exact rfl | exact Zd)) | refine AllO.consX ZX rfl rfl ?_) | refine Thn.exit ?_ | refine Blk.here ?_ | refine Blk.other (by decide) ?_ | refine ⟨.inl rfl, _, RetOk.ev tabOk Zc, ?_⟩ | fail)
        all_goals exact Ze
      · obtain ⟨first, gone, j⟩ := joined hru x0 x1 y0 y1 hpq
        have hrr := joined_right hri j hru
        have hjn := joinN_len V R N (findU V x) (findU V y)
        generalize findU V x = p at *
        generalize findU V y = q at *
        obtain ⟨N', hN'⟩ : ∃ N', N' = joinN V R N p q := ⟨_, rfl⟩
        obtain ⟨V', hV'⟩ : ∃ V', V' = joinV V R p q := ⟨_, rfl⟩
        rw [← hV'] at j hrr
        rw [← hN'] at hrr hjn
        have hc1 := one_c1 hA K S hst R V N M P Q hru b1 b2 b3 b5 b6 b7 b8 x y p q first gone V' N' x0 x1 y0 y1 j.px j.qy j.ne hV'.symm hN'.symm j.fp j.go j.g0 j.ru j.p0 j.q0 j.f0 j.len
        have hlen := j.len
        have c2 := refGRight_c hA K S hst R V' N' M (P.set gone.toNat []) (Q.set gone.toNat []) (by omega) ⟨by simp only; omega, by simp only; omega, by simp only; omega⟩ ⟨by rw [List.length_set]; omega, fun z hz => by
            rcases List.mem_or_eq_of_mem_set hz with h | h
            · have := b7 z h; omega
            · rw [h]; simp⟩ ⟨by rw [List.length_set]; omega, fun z hz => by
            rcases List.mem_or_eq_of_mem_set hz with h | h
            · have := b8 z h; omega
            · rw [h]; simp⟩
        rw [hrr, hid_eq hA (α := Bool)] at c2
        have gx := refFind_c hA V' N' M R j.ru x x0 (by omega) (by omega)
        have gy := refFind_c hA V' N' M R j.ru y y0 (by omega) (by omega)
        rw [j.fx] at gx
        rw [j.fy] at gy
        have hat := refAtV_c hA K S (hid A first)
        rw [show atV K (hid A first) = atV K first by rw [hid_eq hA]] at hat
        have ep : ∀ v : Nat, v < V.length → (v : Int) ≠ gone → (P.set gone.toNat []).getD v default = P.getD v default := fun v hv hn => by rw [setK_get _ _ _ (by have := j.g0; omega), if_neg (by have := j.g0; omega)]
        have eq : ∀ v : Nat, v < V.length → (v : Int) ≠ gone → (Q.set gone.toNat []).getD v default = Q.getD v default := fun v hv hn => by rw [setK_get _ _ _ (by have := j.g0; omega), if_neg (by have := j.g0; omega)]
        have pg : ((P.set gone.toNat []).getD gone.toNat default).length = 0 := by rw [setK_get _ _ _ (by have := j.g0; omega), if_pos rfl]; rfl
        have qg : ((Q.set gone.toNat []).getD gone.toNat default).length = 0 := by rw [setK_get _ _ _ (by have := j.g0; omega), if_pos rfl]; rfl
        have hP'l : (P.set gone.toNat []).length = V.length := by rw [List.length_set, b5]
        have hQ'l : (Q.set gone.toNat []).length = V.length := by rw [List.length_set, b6]
        generalize P.set gone.toNat [] = P' at *
        generalize Q.set gone.toNat [] = Q' at *
        have ol := outs_len K V' first (P.getD gone.toNat default) (Q.getD gone.toNat default)
        have og := outs_get K V' first (P.getD gone.toNat default) (Q.getD gone.toNat default)
        rw [← ol] at og
        generalize outs K V' first (P.getD gone.toNat default) (Q.getD gone.toNat default) = O at *
        have hpl : ∀ v : Nat, v < V.length → (P.getD v default).length ≤ 1000 := fun v hv => b7 _ (by rw [List.getD_eq_getElem?_getD, List.getElem?_eq_getElem (by omega)]; exact List.getElem_mem _)
        have hql : ∀ v : Nat, v < V.length → (Q.getD v default).length ≤ 1000 := fun v hv => b8 _ (by rw [List.getD_eq_getElem?_getD, List.getElem?_eq_getElem (by omega)]; exact List.getElem_mem _)
        have hi : ∀ q r : List Int, q = r → q.length ≤ 1000000 → PureCalls Try.prog 17 [intsP A q, intsP A r] (BP true) := by
          rintro q r rfl hq
          have := uInts_c hA q q hq hq
          rwa [decide_eq_true rfl, hid_eq hA (α := Bool)] at this
        have j1 := j.own
        have j2 := j.p0
        have j3 := j.q0
        have j4 := j.f0
        have j5 := j.g0
        have j6 := j.ne
        have j7 := j.go
        have hgl : gone.toNat < V.length := by omega
        have hg1 := hpl gone.toNat hgl
        have hg2 := hql gone.toNat hgl
        subst j7
        clear j b7 b8 hri hrr hN' hV'
        generalize atV K first = a1 at *
        refine PureCalls.of Try.func8 rfl (by kernel_rfl) rfl ?_
        try first | refine AOLg.of [] ?_ | refine QSg.of [] ?_
        repeat' (first | (refine AWp.pass ?_; first | refine AWp.seq ?_ | refine AWp.block ?_ | refine AWp.skip ?_ | refine AWp.regG [] Zc ?_ | refine AWp.cond_t rfl ?_ | refine AWp.cond_f rfl ?_ | (refine AWp.cond rfl ?_ ?_ <;> intro hc <;> (try rw [hc]) <;> ((try simp only [zn] at hc) <;> (try simp (disch := omega) only [zz hA, zb, zy, reduceCtorEq, Bool.false_eq_true, Int.reduceLT, Int.reduceLE, Int.reduceNeg] at hc) <;> (try simp only [zw] at hc)) <;> (try (exfalso; omega))) | refine AWp.exit ?_ | refine AWp.ret ⟨.inr rfl, _, RetOk.ev tabOk Zc, ?_⟩ | refine AWp.drawVG [] rfl (by decide +kernel) Zc ?_) | (refine AOLg.pass ?_; refine AOLg.nx hA tabOk Zc ?_; first | refine NX.done ?_ | refine NX.gt ?_ | refine NX.gf ?_ | (refine NX.gs ?_ ?_ <;> intro hc <;> rw [hc] <;> ((try simp only [zn] at hc) <;> (try simp (disch := omega) only [zz hA, zb, zy, reduceCtorEq, Bool.false_eq_true, Int.reduceLT, Int.reduceLE, Int.reduceNeg] at hc) <;> (try simp only [zw] at hc)) <;> (try (exfalso; omega))) | (refine NX.kC ?_; first | (with_reducible refine NX.call (hsh) ?_) | (with_reducible refine NX.call (hof) ?_) | (with_reducible refine NX.call (fx) ?_) | (with_reducible refine NX.call (fy) ?_) | (with_reducible refine NX.call (hc1) ?_) | (with_reducible refine NX.call (c2) ?_) | (with_reducible refine NX.call (gx) ?_) | (with_reducible refine NX.call (gy) ?_) | ((first | refine NX.call (hsh) ?_ | refine NX.call (hof) ?_ | refine NX.call (fx) ?_ | refine NX.call (fy) ?_ | refine NX.call (hc1) ?_ | refine NX.call (c2) ?_ | refine NX.call (gx) ?_ | refine NX.call (gy) ?_)) | fail) | (refine NX.kO ?_; (first | refine NX.callO (hsh) (by simp [allEq]) rfl ?_ | refine NX.callO (hof) (by simp [allEq]) rfl ?_ | refine NX.callO (fx) (by simp [allEq]) rfl ?_ | refine NX.callO (fy) (by simp [allEq]) rfl ?_ | refine NX.callO (hc1) (by simp [allEq]) rfl ?_ | refine NX.callO (c2) (by simp [allEq]) rfl ?_ | refine NX.callO (gx) (by simp [allEq]) rfl ?_ | refine NX.callO (gy) (by simp [allEq]) rfl ?_)) | refine NX.k 1 (NX.one Z1 ?_) | refine NX.k 7 (NX.one Z7 ?_) | refine NX.k 8 (NX.one Z8 ?_) | refine NX.k 9 (NX.one Z9 ?_) | refine NX.k 10 (NX.one Z10 ?_) | refine NX.k 14 (NX.one Z14 ?_) | refine NX.k 15 (NX.one Z15 ?_) | refine NX.k 18 (NX.one Z18 ?_) | refine NX.raw ?_) | (refine TRg.pass ?_; refine TRg.nx hA tabOk Zc ?_; first | refine TX.done ?_ | refine TX.gt ?_ | refine TX.gf ?_ | (refine TX.gs ?_ ?_ <;> intro hc <;> rw [hc] <;> ((try simp only [zn] at hc) <;> (try simp (disch := omega) only [zz hA, zb, zy, reduceCtorEq, Bool.false_eq_true, Int.reduceLT, Int.reduceLE, Int.reduceNeg] at hc) <;> (try simp only [zw] at hc)) <;> (try (exfalso; omega))) | (refine TX.kC ?_; first | (with_reducible refine TX.call (hsh) ?_) | (with_reducible refine TX.call (hof) ?_) | (with_reducible refine TX.call (fx) ?_) | (with_reducible refine TX.call (fy) ?_) | (with_reducible refine TX.call (hc1) ?_) | (with_reducible refine TX.call (c2) ?_) | (with_reducible refine TX.call (gx) ?_) | (with_reducible refine TX.call (gy) ?_) | ((first | refine TX.call (hsh) ?_ | refine TX.call (hof) ?_ | refine TX.call (fx) ?_ | refine TX.call (fy) ?_ | refine TX.call (hc1) ?_ | refine TX.call (c2) ?_ | refine TX.call (gx) ?_ | refine TX.call (gy) ?_)) | fail) | (refine TX.kO ?_; (first | refine TX.callO (hsh) (by simp [allEq]) rfl ?_ | refine TX.callO (hof) (by simp [allEq]) rfl ?_ | refine TX.callO (fx) (by simp [allEq]) rfl ?_ | refine TX.callO (fy) (by simp [allEq]) rfl ?_ | refine TX.callO (hc1) (by simp [allEq]) rfl ?_ | refine TX.callO (c2) (by simp [allEq]) rfl ?_ | refine TX.callO (gx) (by simp [allEq]) rfl ?_ | refine TX.callO (gy) (by simp [allEq]) rfl ?_)) | refine TX.k 1 (TX.one Z1 ?_) | refine TX.k 7 (TX.one Z7 ?_) | refine TX.k 8 (TX.one Z8 ?_) | refine TX.k 9 (TX.one Z9 ?_) | refine TX.k 10 (TX.one Z10 ?_) | refine TX.k 14 (TX.one Z14 ?_) | refine TX.k 15 (TX.one Z15 ?_) | refine TX.k 18 (TX.one Z18 ?_) | refine TX.raw ?_) | refine Fin3.of Zc (by repeat' (first | exact True.intro | exact rfl | refine And.intro ?_ ?_)) ?_ ?_ | (refine AllO.pass ?_; first | exact AllO.nil | (refine AllO.cons (One.ev hA tabOk ?_) ?_ <;> (first | refine AllO.pass ?_ | ((conv => lhs; cbv); done))) | (refine AllO.cons (One.skipB ?_) ?_ <;> (first | refine AllO.pass ?_ | ((conv => lhs; cbv); done))) | ((with_reducible refine AllO.call Zc (hsh) ?_ ?_) <;> (first | refine AllO.pass ?_ | exact rfl | exact Zd)) | ((with_reducible refine AllO.call Zc (hof) ?_ ?_) <;> (first | refine AllO.pass ?_ | exact rfl | exact Zd)) | ((with_reducible refine AllO.call Zc (fx) ?_ ?_) <;> (first | refine AllO.pass ?_ | exact rfl | exact Zd)) | ((with_reducible refine AllO.call Zc (fy) ?_ ?_) <;> (first | refine AllO.pass ?_ | exact rfl | exact Zd)) | ((with_reducible refine AllO.call Zc (hc1) ?_ ?_) <;> (first | refine AllO.pass ?_ | exact rfl | exact Zd)) | ((with_reducible refine AllO.call Zc (c2) ?_ ?_) <;> (first | refine AllO.pass ?_ | exact rfl | exact Zd)) | ((with_reducible refine AllO.call Zc (gx) ?_ ?_) <;> (first | refine AllO.pass ?_ | exact rfl | exact Zd)) | ((with_reducible refine AllO.call Zc (gy) ?_ ?_) <;> (first | refine AllO.pass ?_ | exact rfl | exact Zd)) | refine AllO.consX ZX rfl rfl ?_) | refine Thn.exit ?_ | refine Blk.here ?_ | refine Blk.other (by decide) ?_ | refine ⟨.inl rfl, _, RetOk.ev tabOk Zc, ?_⟩ | fail)
        all_goals try (exfalso; omega)
        all_goals
          refine AWp.loopU (fun k : Nat => [(15, .ic (.lit (.int .i64 (hid A (cN k)))))]) (fun _ => _) (fun k => V.length - k) (fun k => k ≤ V.length) 0 (by conv => lhs; cbv) (Nat.zero_le _) (by ((repeat' (first | exact subE.nil | refine subE.cons rfl ?_ | refine subE.int rfl ?_ ?_ | refine subE.bool rfl ?_ ?_ | refine subE.str rfl ?_ ?_ | refine subE.sl rfl ?_ ?_))) <;> simp [hA, real, hid, cN]) rfl ?_
          intro k hk
          by_cases hlt : k < V.length
          · by_cases hkg : (k : Int) = p + q - first
            · clear ep eq hpl hql hi og
              try first | refine AOLg.of [] ?_ | refine QSg.of [] ?_
              repeat' (first | (refine AWp.pass ?_; first | refine AWp.seq ?_ | refine AWp.block ?_ | refine AWp.skip ?_ | refine AWp.regG [] Zc ?_ | refine AWp.cond_t rfl ?_ | refine AWp.cond_f rfl ?_ | (refine AWp.cond rfl ?_ ?_ <;> intro hc <;> (try rw [hc]) <;> ((try simp only [zn] at hc) <;> (try simp (disch := omega) only [zz hA, zb, zy, reduceCtorEq, Bool.false_eq_true, Int.reduceLT, Int.reduceLE, Int.reduceNeg] at hc) <;> (try simp only [zw] at hc)) <;> (try (exfalso; omega))) | refine AWp.exit ?_ | refine AWp.ret ⟨.inr rfl, _, RetOk.ev tabOk Zc, ?_⟩ | refine AWp.drawVG [] rfl (by decide +kernel) Zc ?_) | (refine AOLg.pass ?_; refine AOLg.nx hA tabOk Zc ?_; first | refine NX.done ?_ | refine NX.gt ?_ | refine NX.gf ?_ | (refine NX.gs ?_ ?_ <;> intro hc <;> rw [hc] <;> ((try simp only [zn] at hc) <;> (try simp (disch := omega) only [zz hA, zb, zy, reduceCtorEq, Bool.false_eq_true, Int.reduceLT, Int.reduceLE, Int.reduceNeg] at hc) <;> (try simp only [zw] at hc)) <;> (try (exfalso; omega))) | refine NX.k 1 (NX.one Z1 ?_) | refine NX.k 7 (NX.one Z7 ?_) | refine NX.k 8 (NX.one Z8 ?_) | refine NX.k 9 (NX.one Z9 ?_) | refine NX.k 10 (NX.one Z10 ?_) | refine NX.k 14 (NX.one Z14 ?_) | refine NX.k 15 (NX.one Z15 ?_) | refine NX.k 18 (NX.one Z18 ?_) | refine NX.raw ?_) | (refine TRg.pass ?_; refine TRg.nx hA tabOk Zc ?_; first | refine TX.done ?_ | refine TX.gt ?_ | refine TX.gf ?_ | (refine TX.gs ?_ ?_ <;> intro hc <;> rw [hc] <;> ((try simp only [zn] at hc) <;> (try simp (disch := omega) only [zz hA, zb, zy, reduceCtorEq, Bool.false_eq_true, Int.reduceLT, Int.reduceLE, Int.reduceNeg] at hc) <;> (try simp only [zw] at hc)) <;> (try (exfalso; omega))) | refine TX.k 1 (TX.one Z1 ?_) | refine TX.k 7 (TX.one Z7 ?_) | refine TX.k 8 (TX.one Z8 ?_) | refine TX.k 9 (TX.one Z9 ?_) | refine TX.k 10 (TX.one Z10 ?_) | refine TX.k 14 (TX.one Z14 ?_) | refine TX.k 15 (TX.one Z15 ?_) | refine TX.k 18 (TX.one Z18 ?_) | refine TX.raw ?_) | refine Fin3.of Zc (by repeat' (first | exact True.intro | exact rfl | refine And.intro ?_ ?_)) ?_ ?_ | (refine AllO.pass ?_; first | exact AllO.nil | (refine AllO.cons (One.ev hA tabOk ?_) ?_ <;> (first | refine AllO.pass ?_ | ((conv => lhs; cbv); done))) | (refine AllO.cons (One.skipB ?_) ?_ <;> (first | refine AllO.pass ?_ | ((conv => lhs; cbv); done))) | refine AllO.consX ZX rfl rfl ?_) | refine Thn.exit ?_ | refine Blk.here ?_ | refine Blk.other (by decide) ?_ | refine ⟨.inl rfl, _, RetOk.ev tabOk Zc, ?_⟩ | fail)
              all_goals try (exfalso; omega)
              refine ⟨k + 1, ?_, ?_, rfl, rfl, ?_, Zk⟩ <;> (try omega)
              repeat' (first | exact subE.nil | refine subE.cons rfl ?_ | refine subE.int rfl ?_ ?_ | refine subE.bool rfl ?_ ?_ | refine subE.str rfl ?_ ?_ | refine subE.sl rfl ?_ ?_)
              all_goals exact Zd
            · have e2 := ep k hlt hkg
              have e3 := eq k hlt hkg
              have e4 := hpl k hlt
              have e5 := hql k hlt
              have hi1 : ∀ q r : List Int, q = P.getD k default → r = P'.getD k default → PureCalls Try.prog 17 [intsP A q, intsP A r] (BP true) := by rintro q r rfl rfl; exact hi _ _ e2.symm (by omega)
              have hi2 : ∀ q r : List Int, q = Q.getD k default → r = Q'.getD k default → PureCalls Try.prog 17 [intsP A q, intsP A r] (BP true) := by rintro q r rfl rfl; exact hi _ _ e3.symm (by omega)
              clear ep eq hpl hql hi og
              try first | refine AOLg.of [] ?_ | refine QSg.of [] ?_
              repeat' (first | (refine AWp.pass ?_; first | refine AWp.seq ?_ | refine AWp.block ?_ | refine AWp.skip ?_ | refine AWp.regG [] Zc ?_ | refine AWp.cond_t rfl ?_ | refine AWp.cond_f rfl ?_ | (refine AWp.cond rfl ?_ ?_ <;> intro hc <;> (try rw [hc]) <;> ((try simp only [zn] at hc) <;> (try simp (disch := omega) only [zz hA, zb, zy, reduceCtorEq, Bool.false_eq_true, Int.reduceLT, Int.reduceLE, Int.reduceNeg] at hc) <;> (try simp only [zw] at hc)) <;> (try (exfalso; omega))) | refine AWp.exit ?_ | refine AWp.ret ⟨.inr rfl, _, RetOk.ev tabOk Zc, ?_⟩ | refine AWp.drawVG [] rfl (by decide +kernel) Zc ?_) | (refine AOLg.pass ?_; refine AOLg.nx hA tabOk Zc ?_; first | refine NX.done ?_ | refine NX.gt ?_ | refine NX.gf ?_ | (refine NX.gs ?_ ?_ <;> intro hc <;> rw [hc] <;> ((try simp only [zn] at hc) <;> (try simp (disch := omega) only [zz hA, zb, zy, reduceCtorEq, Bool.false_eq_true, Int.reduceLT, Int.reduceLE, Int.reduceNeg] at hc) <;> (try simp only [zw] at hc)) <;> (try (exfalso; omega))) | (refine NX.kC ?_; first | (with_reducible refine NX.call (hi1 (hid A (P.getD _ default)) (hid A (P'.getD _ default)) (by simp only [hid_eq hA, cN, Int.toNat_natCast]) (by simp only [hid_eq hA, cN, Int.toNat_natCast])) ?_) | (with_reducible refine NX.call (hi2 (hid A (Q.getD _ default)) (hid A (Q'.getD _ default)) (by simp only [hid_eq hA, cN, Int.toNat_natCast]) (by simp only [hid_eq hA, cN, Int.toNat_natCast])) ?_) | ((first | refine NX.call (hi1 (hid A (P.getD _ default)) (hid A (P'.getD _ default)) (by simp only [hid_eq hA, cN, Int.toNat_natCast]) (by simp only [hid_eq hA, cN, Int.toNat_natCast])) ?_ | refine NX.call (hi2 (hid A (Q.getD _ default)) (hid A (Q'.getD _ default)) (by simp only [hid_eq hA, cN, Int.toNat_natCast]) (by simp only [hid_eq hA, cN, Int.toNat_natCast])) ?_)) | fail) | (refine NX.kO ?_; (first | refine NX.callO (hi1 (hid A (P.getD _ default)) (hid A (P'.getD _ default)) (by simp only [hid_eq hA, cN, Int.toNat_natCast]) (by simp only [hid_eq hA, cN, Int.toNat_natCast])) (by simp [allEq]) rfl ?_ | refine NX.callO (hi2 (hid A (Q.getD _ default)) (hid A (Q'.getD _ default)) (by simp only [hid_eq hA, cN, Int.toNat_natCast]) (by simp only [hid_eq hA, cN, Int.toNat_natCast])) (by simp [allEq]) rfl ?_)) | refine NX.k 1 (NX.one Z1 ?_) | refine NX.k 7 (NX.one Z7 ?_) | refine NX.k 8 (NX.one Z8 ?_) | refine NX.k 9 (NX.one Z9 ?_) | refine NX.k 10 (NX.one Z10 ?_) | refine NX.k 14 (NX.one Z14 ?_) | refine NX.k 15 (NX.one Z15 ?_) | refine NX.k 18 (NX.one Z18 ?_) | refine NX.raw ?_) | (refine TRg.pass ?_; refine TRg.nx hA tabOk Zc ?_; first | refine TX.done ?_ | refine TX.gt ?_ | refine TX.gf ?_ | (refine TX.gs ?_ ?_ <;> intro hc <;> rw [hc] <;> ((try simp only [zn] at hc) <;> (try simp (disch := omega) only [zz hA, zb, zy, reduceCtorEq, Bool.false_eq_true, Int.reduceLT, Int.reduceLE, Int.reduceNeg] at hc) <;> (try simp only [zw] at hc)) <;> (try (exfalso; omega))) | (refine TX.kC ?_; first | (with_reducible refine TX.call (hi1 (hid A (P.getD _ default)) (hid A (P'.getD _ default)) (by simp only [hid_eq hA, cN, Int.toNat_natCast]) (by simp only [hid_eq hA, cN, Int.toNat_natCast])) ?_) | (with_reducible refine TX.call (hi2 (hid A (Q.getD _ default)) (hid A (Q'.getD _ default)) (by simp only [hid_eq hA, cN, Int.toNat_natCast]) (by simp only [hid_eq hA, cN, Int.toNat_natCast])) ?_) | ((first | refine TX.call (hi1 (hid A (P.getD _ default)) (hid A (P'.getD _ default)) (by simp only [hid_eq hA, cN, Int.toNat_natCast]) (by simp only [hid_eq hA, cN, Int.toNat_natCast])) ?_ | refine TX.call (hi2 (hid A (Q.getD _ default)) (hid A (Q'.getD _ default)) (by simp only [hid_eq hA, cN, Int.toNat_natCast]) (by simp only [hid_eq hA, cN, Int.toNat_natCast])) ?_)) | fail) | (refine TX.kO ?_; (first | refine TX.callO (hi1 (hid A (P.getD _ default)) (hid A (P'.getD _ default)) (by simp only [hid_eq hA, cN, Int.toNat_natCast]) (by simp only [hid_eq hA, cN, Int.toNat_natCast])) (by simp [allEq]) rfl ?_ | refine TX.callO (hi2 (hid A (Q.getD _ default)) (hid A (Q'.getD _ default)) (by simp only [hid_eq hA, cN, Int.toNat_natCast]) (by simp only [hid_eq hA, cN, Int.toNat_natCast])) (by simp [allEq]) rfl ?_)) | refine TX.k 1 (TX.one Z1 ?_) | refine TX.k 7 (TX.one Z7 ?_) | refine TX.k 8 (TX.one Z8 ?_) | refine TX.k 9 (TX.one Z9 ?_) | refine TX.k 10 (TX.one Z10 ?_) | refine TX.k 14 (TX.one Z14 ?_) | refine TX.k 15 (TX.one Z15 ?_) | refine TX.k 18 (TX.one Z18 ?_) | refine TX.raw ?_) | refine Fin3.of Zc (by repeat' (first | exact True.intro | exact rfl | refine And.intro ?_ ?_)) ?_ ?_ | (refine AllO.pass ?_; first | exact AllO.nil | (refine AllO.cons (One.ev hA tabOk ?_) ?_ <;> (first | refine AllO.pass ?_ | ((conv => lhs; cbv); done))) | (refine AllO.cons (One.skipB ?_) ?_ <;> (first | refine AllO.pass ?_ | ((conv => lhs; cbv); done))) | ((with_reducible refine AllO.call Zc (hi1 (hid A (P.getD _ default)) (hid A (P'.getD _ default)) (by simp only [hid_eq hA, cN, Int.toNat_natCast]) (by simp only [hid_eq hA, cN, Int.toNat_natCast])) ?_ ?_) <;> (first | refine AllO.pass ?_ | exact rfl | exact Zd)) | ((with_reducible refine AllO.call Zc (hi2 (hid A (Q.getD _ default)) (hid A (Q'.getD _ default)) (by simp only [hid_eq hA, cN, Int.toNat_natCast]) (by simp only [hid_eq hA, cN, Int.toNat_natCast])) ?_ ?_) <;> (first | refine AllO.pass ?_ | exact rfl | exact Zd)) | refine AllO.consX ZX rfl rfl ?_) | refine Thn.exit ?_ | refine Blk.here ?_ | refine Blk.other (by decide) ?_ | refine ⟨.inl rfl, _, RetOk.ev tabOk Zc, ?_⟩ | fail)
              all_goals try (exfalso; omega)
              refine ⟨k + 1, ?_, ?_, rfl, rfl, ?_, Zk⟩ <;> (try omega)
              repeat' (first | exact subE.nil | refine subE.cons rfl ?_ | refine subE.int rfl ?_ ?_ | refine subE.bool rfl ?_ ?_ | refine subE.str rfl ?_ ?_ | refine subE.sl rfl ?_ ?_)
              all_goals exact Zd
          · clear ep eq hpl hql hi
            try first | refine AOLg.of [] ?_ | refine QSg.of [] ?_
            repeat' (first | (refine AWp.pass ?_; first | refine AWp.seq ?_ | refine AWp.block ?_ | refine AWp.skip ?_ | refine AWp.regG [] Zc ?_ | refine AWp.cond_t rfl ?_ | refine AWp.cond_f rfl ?_ | (refine AWp.cond rfl ?_ ?_ <;> intro hc <;> (try rw [hc]) <;> ((try simp only [zn] at hc) <;> (try simp (disch := omega) only [zz hA, zb, zy, reduceCtorEq, Bool.false_eq_true, Int.reduceLT, Int.reduceLE, Int.reduceNeg] at hc) <;> (try simp only [zw] at hc)) <;> (try (exfalso; omega))) | refine AWp.exit ?_ | refine AWp.ret ⟨.inr rfl, _, RetOk.ev tabOk Zc, ?_⟩ | refine AWp.drawVG [] rfl (by decide +kernel) Zc ?_) | (refine AOLg.pass ?_; refine AOLg.nx hA tabOk Zc ?_; first | refine NX.done ?_ | refine NX.gt ?_ | refine NX.gf ?_ | (refine NX.gs ?_ ?_ <;> intro hc <;> rw [hc] <;> ((try simp only [zn] at hc) <;> (try simp (disch := omega) only [zz hA, zb, zy, reduceCtorEq, Bool.false_eq_true, Int.reduceLT, Int.reduceLE, Int.reduceNeg] at hc) <;> (try simp only [zw] at hc)) <;> (try (exfalso; omega))) | (refine NX.kC ?_; first | (with_reducible refine NX.call (hat) ?_) | ((first | refine NX.call (hat) ?_)) | fail) | (refine NX.kO ?_; (first | refine NX.callO (hat) (by simp [allEq]) rfl ?_)) | refine NX.k 1 (NX.one Z1 ?_) | refine NX.k 7 (NX.one Z7 ?_) | refine NX.k 8 (NX.one Z8 ?_) | refine NX.k 9 (NX.one Z9 ?_) | refine NX.k 10 (NX.one Z10 ?_) | refine NX.k 14 (NX.one Z14 ?_) | refine NX.k 15 (NX.one Z15 ?_) | refine NX.k 18 (NX.one Z18 ?_) | refine NX.raw ?_) | (refine TRg.pass ?_; refine TRg.nx hA tabOk Zc ?_; first | refine TX.done ?_ | refine TX.gt ?_ | refine TX.gf ?_ | (refine TX.gs ?_ ?_ <;> intro hc <;> rw [hc] <;> ((try simp only [zn] at hc) <;> (try simp (disch := omega) only [zz hA, zb, zy, reduceCtorEq, Bool.false_eq_true, Int.reduceLT, Int.reduceLE, Int.reduceNeg] at hc) <;> (try simp only [zw] at hc)) <;> (try (exfalso; omega))) | (refine TX.kC ?_; first | (with_reducible refine TX.call (hat) ?_) | ((first | refine TX.call (hat) ?_)) | fail) | (refine TX.kO ?_; (first | refine TX.callO (hat) (by simp [allEq]) rfl ?_)) | refine TX.k 1 (TX.one Z1 ?_) | refine TX.k 7 (TX.one Z7 ?_) | refine TX.k 8 (TX.one Z8 ?_) | refine TX.k 9 (TX.one Z9 ?_) | refine TX.k 10 (TX.one Z10 ?_) | refine TX.k 14 (TX.one Z14 ?_) | refine TX.k 15 (TX.one Z15 ?_) | refine TX.k 18 (TX.one Z18 ?_) | refine TX.raw ?_) | refine Fin3.of Zc (by repeat' (first | exact True.intro | exact rfl | refine And.intro ?_ ?_)) ?_ ?_ | (refine AllO.pass ?_; first | exact AllO.nil | (refine AllO.cons (One.ev hA tabOk ?_) ?_ <;> (first | refine AllO.pass ?_ | ((conv => lhs; cbv); done))) | (refine AllO.cons (One.skipB ?_) ?_ <;> (first | refine AllO.pass ?_ | ((conv => lhs; cbv); done))) | ((with_reducible refine AllO.call Zc (hat) ?_ ?_) <;> (first | refine AllO.pass ?_ | exact rfl | exact Zd)) | refine AllO.consX ZX rfl rfl ?_) | refine Thn.exit ?_ | refine Blk.here ?_ | refine Blk.other (by decide) ?_ | refine ⟨.inl rfl, _, RetOk.ev tabOk Zc, ?_⟩ | fail)
            all_goals try (exfalso; omega)
            refine AWp.loopU (fun i : Nat => [(17, .ic (.lit (.int .i64 (hid A (cN i)))))]) (fun _ => _) (fun i => O.length - i) (fun i => i ≤ O.length) 0 (by conv => lhs; cbv) (Nat.zero_le _) (by ((repeat' (first | exact subE.nil | refine subE.cons rfl ?_ | refine subE.int rfl ?_ ?_ | refine subE.bool rfl ?_ ?_ | refine subE.str rfl ?_ ?_ | refine subE.sl rfl ?_ ?_))) <;> simp [hA, real, hid, cN]) rfl ?_
            intro i hi
            by_cases hlt2 : i < O.length
            · have e1 := og i hlt2
              clear og
              try first | refine AOLg.of [] ?_ | refine QSg.of [] ?_
              repeat' (first | (refine AWp.pass ?_; first | refine AWp.seq ?_ | refine AWp.block ?_ | refine AWp.skip ?_ | refine AWp.regG [] Zc ?_ | refine AWp.cond_t rfl ?_ | refine AWp.cond_f rfl ?_ | (refine AWp.cond rfl ?_ ?_ <;> intro hc <;> (try rw [hc]) <;> ((try simp only [zn] at hc) <;> (try simp (disch := omega) only [zz hA, zb, zy, reduceCtorEq, Bool.false_eq_true, Int.reduceLT, Int.reduceLE, Int.reduceNeg] at hc) <;> (try simp only [zw] at hc)) <;> (try (exfalso; omega))) | refine AWp.exit ?_ | refine AWp.ret ⟨.inr rfl, _, RetOk.ev tabOk Zc, ?_⟩ | refine AWp.drawVG [] rfl (by decide +kernel) Zc ?_) | (refine AOLg.pass ?_; refine AOLg.nx hA tabOk Zc ?_; first | refine NX.done ?_ | refine NX.gt ?_ | refine NX.gf ?_ | (refine NX.gs ?_ ?_ <;> intro hc <;> rw [hc] <;> ((try simp only [zn] at hc) <;> (try simp (disch := omega) only [zz hA, zb, zy, reduceCtorEq, Bool.false_eq_true, Int.reduceLT, Int.reduceLE, Int.reduceNeg] at hc) <;> (try simp only [zw] at hc)) <;> (try (exfalso; omega))) | refine NX.k 1 (NX.one Z1 ?_) | refine NX.k 7 (NX.one Z7 ?_) | refine NX.k 8 (NX.one Z8 ?_) | refine NX.k 9 (NX.one Z9 ?_) | refine NX.k 10 (NX.one Z10 ?_) | refine NX.k 14 (NX.one Z14 ?_) | refine NX.k 15 (NX.one Z15 ?_) | refine NX.k 18 (NX.one Z18 ?_) | (refine NX.one (One.indexAtc tabOk rfl rfl rfl rfl (by decide) (by decide)) ?_) | refine NX.raw ?_) | (refine TRg.pass ?_; refine TRg.nx hA tabOk Zc ?_; first | refine TX.done ?_ | refine TX.gt ?_ | refine TX.gf ?_ | (refine TX.gs ?_ ?_ <;> intro hc <;> rw [hc] <;> ((try simp only [zn] at hc) <;> (try simp (disch := omega) only [zz hA, zb, zy, reduceCtorEq, Bool.false_eq_true, Int.reduceLT, Int.reduceLE, Int.reduceNeg] at hc) <;> (try simp only [zw] at hc)) <;> (try (exfalso; omega))) | refine TX.k 1 (TX.one Z1 ?_) | refine TX.k 7 (TX.one Z7 ?_) | refine TX.k 8 (TX.one Z8 ?_) | refine TX.k 9 (TX.one Z9 ?_) | refine TX.k 10 (TX.one Z10 ?_) | refine TX.k 14 (TX.one Z14 ?_) | refine TX.k 15 (TX.one Z15 ?_) | refine TX.k 18 (TX.one Z18 ?_) | (refine TX.one (One.indexAtc tabOk rfl rfl rfl rfl (by decide) (by decide)) ?_) | refine TX.raw ?_) | refine Fin3.of Zc (by repeat' (first | exact True.intro | exact rfl | refine And.intro ?_ ?_)) ?_ ?_ | (refine AllO.pass ?_; first | exact AllO.nil | (refine AllO.cons (One.ev hA tabOk ?_) ?_ <;> (first | refine AllO.pass ?_ | ((conv => lhs; cbv); done))) | (refine AllO.cons (One.skipB ?_) ?_ <;> (first | refine AllO.pass ?_ | ((conv => lhs; cbv); done))) | refine AllO.consX ZX rfl rfl ?_ | ((refine AllO.consX (One.indexAtc tabOk rfl rfl rfl rfl (by decide) (by decide)) rfl rfl ?_) <;> (first | refine AllO.pass ?_ | exact Zd))) | refine Thn.exit ?_ | refine Blk.here ?_ | refine Blk.other (by decide) ?_ | refine ⟨.inl rfl, _, RetOk.ev tabOk Zc, ?_⟩ | fail)
              all_goals try (exfalso; omega)
              all_goals first | (exfalso; exact e1.elim (fun h => absurd h (by assumption)) (fun h => absurd h (by assumption))) | (refine ⟨i + 1, ?_, ?_, rfl, rfl, ?_, Zk⟩ <;> first | omega | (((repeat' (first | exact subE.nil | refine subE.cons rfl ?_ | refine subE.int rfl ?_ ?_ | refine subE.bool rfl ?_ ?_ | refine subE.str rfl ?_ ?_ | refine subE.sl rfl ?_ ?_))) <;> exact Zd))
            · clear og
              try first | refine AOLg.of [] ?_ | refine QSg.of [] ?_
              repeat' (first | (refine AWp.pass ?_; first | refine AWp.seq ?_ | refine AWp.block ?_ | refine AWp.skip ?_ | refine AWp.regG [] Zc ?_ | refine AWp.cond_t rfl ?_ | refine AWp.cond_f rfl ?_ | (refine AWp.cond rfl ?_ ?_ <;> intro hc <;> (try rw [hc]) <;> ((try simp only [zn] at hc) <;> (try simp (disch := omega) only [zz hA, zb, zy, reduceCtorEq, Bool.false_eq_true, Int.reduceLT, Int.reduceLE, Int.reduceNeg] at hc) <;> (try simp only [zw] at hc)) <;> (try (exfalso; omega))) | refine AWp.exit ?_ | refine AWp.ret ⟨.inr rfl, _, RetOk.ev tabOk Zc, ?_⟩ | refine AWp.drawVG [] rfl (by decide +kernel) Zc ?_) | (refine AOLg.pass ?_; refine AOLg.nx hA tabOk Zc ?_; first | refine NX.done ?_ | refine NX.gt ?_ | refine NX.gf ?_ | (refine NX.gs ?_ ?_ <;> intro hc <;> rw [hc] <;> ((try simp only [zn] at hc) <;> (try simp (disch := omega) only [zz hA, zb, zy, reduceCtorEq, Bool.false_eq_true, Int.reduceLT, Int.reduceLE, Int.reduceNeg] at hc) <;> (try simp only [zw] at hc)) <;> (try (exfalso; omega))) | refine NX.k 1 (NX.one Z1 ?_) | refine NX.k 7 (NX.one Z7 ?_) | refine NX.k 8 (NX.one Z8 ?_) | refine NX.k 9 (NX.one Z9 ?_) | refine NX.k 10 (NX.one Z10 ?_) | refine NX.k 14 (NX.one Z14 ?_) | refine NX.k 15 (NX.one Z15 ?_) | refine NX.k 18 (NX.one Z18 ?_) | refine NX.raw ?_) | (refine TRg.pass ?_; refine TRg.nx hA tabOk Zc ?_; first | refine TX.done ?_ | refine TX.gt ?_ | refine TX.gf ?_ | (refine TX.gs ?_ ?_ <;> intro hc <;> rw [hc] <;> ((try simp only [zn] at hc) <;> (try simp (disch := omega) only [zz hA, zb, zy, reduceCtorEq, Bool.false_eq_true, Int.reduceLT, Int.reduceLE, Int.reduceNeg] at hc) <;> (try simp only [zw] at hc)) <;> (try (exfalso; omega))) | refine TX.k 1 (TX.one Z1 ?_) | refine TX.k 7 (TX.one Z7 ?_) | refine TX.k 8 (TX.one Z8 ?_) | refine TX.k 9 (TX.one Z9 ?_) | refine TX.k 10 (TX.one Z10 ?_) | refine TX.k 14 (TX.one Z14 ?_) | refine TX.k 15 (TX.one Z15 ?_) | refine TX.k 18 (TX.one Z18 ?_) | refine TX.raw ?_) | refine Fin3.of Zc (by repeat' (first | exact True.intro | exact rfl | refine And.intro ?_ ?_)) ?_ ?_ | (refine AllO.pass ?_; first | exact AllO.nil | (refine AllO.cons (One.ev hA tabOk ?_) ?_ <;> (first | refine AllO.pass ?_ | ((conv => lhs; cbv); done))) | (refine AllO.cons (One.skipB ?_) ?_ <;> (first | refine AllO.pass ?_ | ((conv => lhs; cbv); done))) | refine AllO.consX ZX rfl rfl ?_) | refine Thn.exit ?_ | refine Blk.here ?_ | refine Blk.other (by decide) ?_ | refine ⟨.inl rfl, _, RetOk.ev tabOk Zc, ?_⟩ | fail)
              all_goals exact Ze
    · clear hb
      refine PureCalls.of Try.func8 rfl (by kernel_rfl) rfl ?_
      try first | refine AOLg.of [] ?_ | refine QSg.of [] ?_
      repeat' (first | (refine AWp.pass ?_; first | refine AWp.seq ?_ | refine AWp.block ?_ | refine AWp.skip ?_ | refine AWp.regG [] Zc ?_ | refine AWp.cond_t rfl ?_ | refine AWp.cond_f rfl ?_ | (refine AWp.cond rfl ?_ ?_ <;> intro hc <;> (try rw [hc]) <;> ((try simp only [zn] at hc) <;> (try simp (disch := omega) only [zz hA, zb, zy, reduceCtorEq, Bool.false_eq_true, Int.reduceLT, Int.reduceLE, Int.reduceNeg] at hc) <;> (try simp only [zw] at hc)) <;> (try (exfalso; omega))) | refine AWp.exit ?_ | refine AWp.ret ⟨.inr rfl, _, RetOk.ev tabOk Zc, ?_⟩ | refine AWp.drawVG [] rfl (by decide +kernel) Zc ?_) | (refine AOLg.pass ?_; refine AOLg.nx hA tabOk Zc ?_; first | refine NX.done ?_ | refine NX.gt ?_ | refine NX.gf ?_ | (refine NX.gs ?_ ?_ <;> intro hc <;> rw [hc] <;> ((try simp only [zn] at hc) <;> (try simp (disch := omega) only [zz hA, zb, zy, reduceCtorEq, Bool.false_eq_true, Int.reduceLT, Int.reduceLE, Int.reduceNeg] at hc) <;> (try simp only [zw] at hc)) <;> (try (exfalso; omega))) | (refine NX.kC ?_; first | (with_reducible refine NX.call (hsh) ?_) | (with_reducible refine NX.call (hof) ?_) | ((first | refine NX.call (hsh) ?_ | refine NX.call (hof) ?_)) | fail) | (refine NX.kO ?_; (first | refine NX.callO (hsh) (by simp [allEq]) rfl ?_ | refine NX.callO (hof) (by simp [allEq]) rfl ?_)) | refine NX.k 1 (NX.one Z1 ?_) | refine NX.k 7 (NX.one Z7 ?_) | refine NX.k 8 (NX.one Z8 ?_) | refine NX.k 9 (NX.one Z9 ?_) | refine NX.k 10 (NX.one Z10 ?_) | refine NX.k 14 (NX.one Z14 ?_) | refine NX.k 15 (NX.one Z15 ?_) | refine NX.k 18 (NX.one Z18 ?_) | refine NX.raw ?_) | (refine TRg.pass ?_; refine TRg.nx hA tabOk Zc ?_; first | refine TX.done ?_ | refine TX.gt ?_ | refine TX.gf ?_ | (refine TX.gs ?_ ?_ <;> intro hc <;> rw [hc] <;> ((try simp only [zn] at hc) <;> (try simp (disch := omega) only [zz hA, zb, zy, reduceCtorEq, Bool.false_eq_true, Int.reduceLT, Int.reduceLE, Int.reduceNeg] at hc) <;> (try simp only [zw] at hc)) <;> (try (exfalso; omega))) | (refine TX.kC ?_; first | (with_reducible refine TX.call (hsh) ?_) | (with_reducible refine TX.call (hof) ?_) | ((first | refine TX.call (hsh) ?_ | refine TX.call (hof) ?_)) | fail) | (refine TX.kO ?_; (first | refine TX.callO (hsh) (by simp [allEq]) rfl ?_ | refine TX.callO (hof) (by simp [allEq]) rfl ?_)) | refine TX.k 1 (TX.one Z1 ?_) | refine TX.k 7 (TX.one Z7 ?_) | refine TX.k 8 (TX.one Z8 ?_) | refine TX.k 9 (TX.one Z9 ?_) | refine TX.k 10 (TX.one Z10 ?_) | refine TX.k 14 (TX.one Z14 ?_) | refine TX.k 15 (TX.one Z15 ?_) | refine TX.k 18 (TX.one Z18 ?_) | refine TX.raw ?_) | refine Fin3.of Zc (by repeat' (first | exact True.intro | exact rfl | refine And.intro ?_ ?_)) ?_ ?_ | (refine AllO.pass ?_; first | exact AllO.nil | (refine AllO.cons (One.ev hA tabOk ?_) ?_ <;> (first | refine AllO.pass ?_ | ((conv => lhs; cbv); done))) | (refine AllO.cons (One.skipB ?_) ?_ <;> (first | refine AllO.pass ?_ | ((conv => lhs; cbv); done))) | ((with_reducible refine AllO.call Zc (hsh) ?_ ?_) <;> (first | refine AllO.pass ?_ | exact rfl | exact Zd)) | ((with_reducible refine AllO.call Zc (hof) ?_ ?_) <;> (first | refine AllO.pass ?_ | exact rfl | exact Zd)) | refine AllO.consX ZX rfl rfl ?_) | refine Thn.exit ?_ | refine Blk.here ?_ | refine Blk.other (by decide) ?_ | refine ⟨.inl rfl, _, RetOk.ev tabOk Zc, ?_⟩ | fail)
      all_goals exact Ze
end Go.Proofs.Ytkkjlmcnfoncdaa.Aw

/- Laws IfgReps and IfgMore. -/
set_option linter.unusedVariables false
set_option linter.unusedSimpArgs false
set_option linter.unusedSectionVars false
namespace Go.Proofs.Ytkkjlmcnfoncdaa.Aw
open Go Go.RowKit
set_option maxRecDepth 10000
attribute [local irreducible] AWp AOL QS One AOLg QSg NX QX TRg TX AllO Fin3
variable {A : Ar} (hA : A = real)
include hA
end Go.Proofs.Ytkkjlmcnfoncdaa.Aw

/- Law IfgMore. -/
set_option linter.unusedVariables false
set_option linter.unusedSimpArgs false
set_option linter.unusedSectionVars false
namespace Go.Proofs.Ytkkjlmcnfoncdaa.Aw
open Go Go.RowKit
set_option maxRecDepth 10000
attribute [local irreducible] AWp AOL QS One AOLg QSg NX QX TRg TX AllO Fin3
variable {A : Ar} (hA : A = real)
include hA
end Go.Proofs.Ytkkjlmcnfoncdaa.Aw

/- Graphs out of the row's data; the laws of layer 12, as their rows ask for them. -/
set_option linter.unusedVariables false
set_option linter.unusedSimpArgs false
set_option linter.unusedSectionVars false
namespace Go.Proofs.Ytkkjlmcnfoncdaa.Aw
open Go Go.RowKit
set_option maxRecDepth 10000
theorem decSgs {rows : List (List IC)} (h : ∀ r ∈ rows, Dec (.st [.str, .str]) r) : ∃ l : List Sg, rows = hid real (List.map (encG real) l) ∧ FitG l := by
  induction rows with
  | nil => exact ⟨[], rfl, by simp [FitG]⟩
  | cons r rs ih =>
    obtain ⟨l, hl, hb⟩ := ih fun x hx => h x (List.mem_cons_of_mem _ hx)
    obtain ⟨a1, b1, rfl, ⟨n, rfl, hn⟩, a2, b2, rfl, ⟨g, rfl, hg⟩, rfl⟩ := h r List.mem_cons_self
    refine ⟨(n, g) :: l, by rw [hl]; rfl, fun x hx => ?_⟩
    rcases List.mem_cons.1 hx with rfl | hx
    · exact ⟨by show n.size ≤ _; omega, by show g.size ≤ _; omega⟩
    · exact hb x hx
theorem decKeys2 {rows : List (List IC)} (h : ∀ r ∈ rows, Dec (.sl 8 (.int .i64)) r) : ∃ K : List (List Int), rows = hid real (List.map (encK real) K) ∧ ∀ x ∈ K, x.length ≤ 140737488351232 := by
  induction rows with
  | nil => exact ⟨[], rfl, by simp⟩
  | cons r rs ih =>
    obtain ⟨K, hK, hb⟩ := ih fun x hx => h x (List.mem_cons_of_mem _ hx)
    obtain ⟨q, e, h1, h2⟩ := h r List.mem_cons_self
    obtain ⟨l, rfl, _⟩ := decInts h1
    simp only [List.length_map] at h2
    refine ⟨l :: K, by rw [hK, e]; rfl, fun x hx => ?_⟩
    rcases List.mem_cons.1 hx with rfl | hx
    · omega
    · exact hb x hx
def shGraph : List Sh := [.sl 8 (.int .i64), .st shCells, .sl 24 (.sl 8 (.int .i64)), .sl 24 (.sl 8 (.int .i64))]
theorem decGraph {ics : List IC} (h : Decs shGraph ics) : ∃ (R V : List Int) (N : List (Int × Int)) (M : List Int) (P Q : List (List Int)), ics = [.sl 1 false (List.map encI R), .sl 1 false (List.map encI V), .sl 2 false (List.map encN N), .sl 1 false (List.map encI M), .sl 1 false (hid real (List.map (encK real) P)), .sl 1 false (hid real (List.map (encK real) Q))] ∧ FitGr R V N M P Q := by
  obtain ⟨a0, b0, rfl, ⟨r, rfl, h3, h4⟩, a1, b1, rfl, h1, a2, b2, rfl, ⟨r2, e2, g2, k2⟩, a3, b3, rfl, ⟨r3, e3, g3, k3⟩, rfl⟩ := h
  obtain ⟨c, rfl, hf⟩ := decCells h1
  obtain ⟨R, rfl, _⟩ := decInts h3
  obtain ⟨P, rfl, p2⟩ := decKeys2 g2
  obtain ⟨Q, rfl, q2⟩ := decKeys2 g3
  subst e2 e3
  have e1 : (List.map (encK real) P).length * 24 ≤ 140737488351232 := k2
  have e4 : (List.map (encK real) Q).length * 24 ≤ 140737488351232 := k3
  rw [List.length_map] at e1 e4
  simp only [List.length_map] at h4
  exact ⟨R, c.V, c.N, c.M, P, Q, rfl, ⟨by omega, hf.v, hf.n, hf.m, by omega, by omega, p2, q2⟩⟩
def shReps : List Sh := [.sl 32 (.st [.str, .str]), .st shKeyed, .st shGraph, .int .i64, .int .i64]
theorem decReps {ics : List IC} (h : Decs shReps ics) : ∃ (l : List Sg) (K : List (List Int)) (S R V : List Int) (N : List (Int × Int)) (M : List Int) (P Q : List (List Int)) (x y : Int), ics = [.sl 2 false (hid real (List.map (encG real) l)), .sl 1 false (hid real (List.map (encK real) K)), .sl 1 false (hid real (List.map encI S)), .sl 1 false (List.map encI R), .sl 1 false (List.map encI V), .sl 2 false (List.map encN N), .sl 1 false (List.map encI M), .sl 1 false (hid real (List.map (encK real) P)), .sl 1 false (hid real (List.map (encK real) Q)), I x, I y] ∧ FitG l ∧ FitsK K S ∧ FitGr R V N M P Q := by
  obtain ⟨a0, b0, rfl, ⟨r, rfl, h0, _⟩, a1, b1, rfl, h1, a2, b2, rfl, h2, a3, b3, rfl, ⟨x, rfl, _⟩, a4, b4, rfl, ⟨y, rfl, _⟩, rfl⟩ := h
  obtain ⟨l, rfl, hl⟩ := decSgs h0
  obtain ⟨K, S, rfl, hf⟩ := decKeyed h1
  obtain ⟨R, V, N, M, P, Q, rfl, hg⟩ := decGraph h2
  exact ⟨l, K, S, R, V, N, M, P, Q, x, y, rfl, hl, hf, hg⟩
def shMore : List Sh := [.sl 32 (.st [.str, .str]), .st shKeyed, .st shGraph, .int .u8]
variable {A : Ar} (hA : A = real)
include hA
end Go.Proofs.Ytkkjlmcnfoncdaa.Aw

/- Law IfgJoins, as its row asks for it. -/
set_option linter.unusedVariables false
set_option linter.unusedSectionVars false
namespace Go.Proofs.Ytkkjlmcnfoncdaa.Aw
open Go Go.RowKit
variable {A : Ar} (hA : A = real)
include hA
theorem ijoinsL (l : List Sg) (hl : FitG l) (K : List (List Int)) (S : List Int) (hk : FitsK K S) (R V : List Int) (N : List (Int × Int)) (M : List Int) (P Q : List (List Int)) (hg : FitGr R V N M P Q) (x y : Int) :
    PureCalls Try.prog 8 [.agg [.sl 2 false (hid A (List.map (encG A) l)), .sl 1 false (hid A (List.map (encK A) K)), .sl 1 false (hid A (List.map encI S)), .sl 1 false (List.map encI R), .sl 1 false (List.map encI V), .sl 2 false (List.map encN N), .sl 1 false (List.map encI M), .sl 1 false (hid A (List.map (encK A) P)), .sl 1 false (hid A (List.map (encK A) Q)), I x, I y]] (BP true) := by
  have := ijoins_law hA l hl K S hk R V N M P Q hg x y
  rwa [hid_eq hA (List.map encI R), hid_eq hA (List.map encI V), hid_eq hA (List.map encN N), hid_eq hA (List.map encI M)] at this
end Go.Proofs.Ytkkjlmcnfoncdaa.Aw
