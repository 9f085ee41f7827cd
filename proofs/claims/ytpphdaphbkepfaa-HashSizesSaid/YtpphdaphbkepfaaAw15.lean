/- The abstract walk, part 15: the named arithmetic, read. -/
import Derived.Test.YtpphdaphbkepfaaAw14
import Derived.IntWalk
namespace Go.Proofs.Ytpphdaphbkepfaa.Aw
open Go Go.RowKit
section ar
variable {A : Ar} (hA : A = real)
include hA
theorem radd (k : IntKind) (a b : Int) : A .add k a b = k.wrap (a + b) := by rw [hA]; rfl
theorem rsub (k : IntKind) (a b : Int) : A .sub k a b = k.wrap (a - b) := by rw [hA]; rfl
theorem rmul (k : IntKind) (a b : Int) : A .mul k a b = k.wrap (a * b) := by rw [hA]; rfl
theorem rwrap (k : IntKind) (a : Int) : A .wrap k a = k.wrap a := by rw [hA]; rfl
theorem req (a b : Int) : A .eq a b = decide (a = b) := by rw [hA]; rfl
theorem rlt (a b : Int) : A .lt a b = decide (a < b) := by rw [hA]; rfl
theorem rle (a b : Int) : A .le a b = decide (a ≤ b) := by rw [hA]; rfl
theorem rseq (a b : ByteArray) : A .seq a b = decide (a.toList = b.toList) := by rw [hA]; rfl
theorem rno (b : Bool) : A .no b = !b := by rw [hA]; rfl
theorem rlen (l : List (List IC)) : A .len l = (l.length : Int) := by rw [hA]; rfl
theorem rslen (b : ByteArray) : A .slen b = (b.size : Int) := by rw [hA]; rfl
end ar
theorem wok {z : Int} (h1 : -9223372036854775808 ≤ z) (h2 : z ≤ 9223372036854775807) : IntKind.i64.wrap z = z := IntWalk.i64_in z ⟨h1, h2⟩
abbrev I (z : Int) : IC := .lit (.int .i64 z)
abbrev Bo (b : Bool) : IC := .lit (.bool b)

/-! ### the first operations alone -/
theorem AOL.adv2 {r : Option Nat} {P : Program} {A : Ar} {tab : List TI} (hA : A = real) (hT : TabOk P tab) {ops : Array Oper} {Q : St → Prop} (rest' : List Nat) : ∀ (l : List Nat) (s : St), AOL r P ops ((Aw.adv A tab ops l s).1 ++ rest') (Aw.adv A tab ops l s).2 Q → AOL r P ops (l ++ rest') s Q
  | [], s, h => h
  | i :: rest, s, h => by
    simp only [Aw.adv] at h
    cases ho : ops[i]? with
    | none => simp only [ho] at h; exact h
    | some o =>
      simp only [ho] at h
      cases hg : gd ops s o.guard with
      | none => simp only [hg] at h; exact h
      | some b =>
        cases b with
        | true =>
          simp only [hg] at h
          cases he : ev1 A tab s o.op with
          | none => simp only [he] at h; exact h
          | some p =>
            obtain ⟨x, st'⟩ := p
            simp only [he] at h
            cases hd : dstOk s o.dst with
            | false => rw [hd] at h; exact h
            | true =>
              rw [hd] at h
              exact AOL.step ho hg hd (ev1_nd he) (ev1_mem hA hT he) (AOL.adv2 hA hT rest' rest _ h)
        | false =>
          simp only [hg] at h
          cases hd : dstOk s o.dst with
          | false => rw [hd] at h; exact h
          | true =>
            rw [hd] at h
            exact AOL.skip ho hg hd (AOL.adv2 hA hT rest' rest _ h)
theorem AOL.upto {r : Option Nat} {P : Program} {A : Ar} {tab : List TI} (hA : A = real) (hT : TabOk P tab) (n : Nat) {ops : Array Oper} {Q : St → Prop} {l : List Nat} {s s' : St} (h : Aw.adv A tab ops (l.take n) s = ([], s')) (k : AOL r P ops (l.drop n) s' Q) : AOL r P ops l s Q := by
  have := AOL.adv2 hA hT (r := r) (Q := Q) (l.drop n) (l.take n) s (by rw [h]; exact k)
  rwa [List.take_append_drop] at this

theorem QS.adv2 {P : Program} {A : Ar} {tab : List TI} (hA : A = real) (hT : TabOk P tab) {ops : Array Oper} {Q : St → Prop} (rest' : List Nat) : ∀ (l : List Nat) (s : St), QS P ops ((qadv A tab ops l s).1 ++ rest') (qadv A tab ops l s).2 Q → QS P ops (l ++ rest') s Q
  | [], s, h => h
  | i :: rest, s, h => by
    simp only [qadv] at h
    cases ho : ops[i]? with
    | none => simp only [ho] at h; exact h
    | some o =>
      simp only [ho] at h
      cases hd : o.dst with
      | none => simp only [hd] at h; exact h
      | some d =>
        simp only [hd] at h
        have hdo : dstOf ops i = some d := by simp [dstOf, ho, hd]
        cases hg : gd ops (lookS ops i s) o.guard with
        | none => simp only [hg] at h; exact h
        | some b =>
          cases b with
          | true =>
            simp only [hg] at h
            cases he : ev1 A tab (lookS ops i s) o.op with
            | none => simp only [he] at h; exact h
            | some p =>
              obtain ⟨x, st'⟩ := p
              simp only [he] at h
              cases hc : (stillOp o.op && dstOk (lookS ops i s) (some d)) with
              | false => rw [hc] at h; exact h
              | true =>
                rw [hc] at h
                simp only [cond_true] at h
                simp only [Bool.and_eq_true] at hc
                have hst := ev1_still he hc.1
                rw [lookS_st] at hst
                subst hst
                refine ⟨d, x, hdo, fun rest2 Q' k => ?_, QS.adv2 hA hT rest' rest _ h⟩
                refine AOL.step ho hg (by rw [hd]; exact hc.2) (ev1_nd he) (ev1_mem hA hT he) ?_
                rw [hdo, ← hd] at k
                exact k
          | false =>
            simp only [hg] at h
            cases hc : dstOk (lookS ops i s) (some d) with
            | false => rw [hc] at h; exact h
            | true =>
              rw [hc] at h
              simp only [cond_true] at h
              refine ⟨d, .tup [], hdo, fun rest2 Q' k => ?_, QS.adv2 hA hT rest' rest _ h⟩
              refine AOL.skip ho hg (by rw [hd]; exact hc) ?_
              rw [hdo, ← lookS_st ops i s, ← hd] at k
              exact k
theorem QS.upto {P : Program} {A : Ar} {tab : List TI} (hA : A = real) (hT : TabOk P tab) (n : Nat) {ops : Array Oper} {Q : St → Prop} {l : List Nat} {s s' : St} (h : qadv A tab ops (l.take n) s = ([], s')) (k : QS P ops (l.drop n) s' Q) : QS P ops l s Q := by
  have := QS.adv2 hA hT (Q := Q) (l.drop n) (l.take n) s (by rw [h]; exact k)
  rwa [List.take_append_drop] at this
end Go.Proofs.Ytpphdaphbkepfaa.Aw
