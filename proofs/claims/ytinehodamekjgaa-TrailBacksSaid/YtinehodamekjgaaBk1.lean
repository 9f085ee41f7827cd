/- TrailBacks, the plain law: what a script does behind a mark can be taken back. -/
import Derived.Test.YtinehodamekjgaaTr12
set_option linter.unusedVariables false
namespace Go.Proofs.Ytinehodamekjgaa.Aw
open Go Go.RowKit
theorem undoAll_append (l1 l2 : List (Int × Int)) (v : List Int) : undoAll (l1 ++ l2) v = (undoAll l2 v).bind (undoAll l1) := by
  induction l1 generalizing v with
  | nil => simp [undoAll]
  | cons n r ih => simp only [List.cons_append, undoAll, ih]; cases undoAll l2 v <;> simp
theorem undoAll_le {l : List (Int × Int)} {v v' : List Int} (h : undoAll l v = some v') : v'.length ≤ v.length := by
  induction l generalizing v' with
  | nil => simp [undoAll] at h; subst h; exact Nat.le_refl _
  | cons n r ih =>
    simp only [undoAll] at h
    cases hr : undoAll r v with
    | none => simp [hr] at h
    | some w =>
      rw [hr] at h
      exact Nat.le_trans (undo1_le (by simpa using h)) (ih hr)
theorem mOk_weak {n p p' : Int} {r : List Int} (h : mOk n p r = true) (hp : p' ≤ p) : mOk n p' r = true := by
  cases r with
  | nil => rfl
  | cons m r =>
    simp only [mOk, Bool.and_eq_true, decide_eq_true_eq] at h ⊢
    exact ⟨⟨by omega, h.1.2⟩, h.2⟩
theorem mOk_up {n n' p : Int} {r : List Int} (h : mOk n p r = true) (hn : n ≤ n') : mOk n' p r = true := by
  induction r generalizing p with
  | nil => rfl
  | cons m r ih =>
    simp only [mOk, Bool.and_eq_true, decide_eq_true_eq] at h ⊢
    exact ⟨⟨h.1.1, by omega⟩, ih h.2⟩
theorem mOk_append {n0 n p : Int} {l r : List Int} (h : mOk n0 p l = true) (hp : p ≤ n0) (hn : n0 ≤ n) (k : mOk n n0 r = true) : mOk n p (l ++ r) = true := by
  induction l generalizing p with
  | nil => exact mOk_weak k hp
  | cons m l ih =>
    simp only [List.cons_append, mOk, Bool.and_eq_true, decide_eq_true_eq] at h ⊢
    exact ⟨⟨h.1.1, by omega⟩, ih h.2 h.1.2⟩
theorem mOk_snoc {n p m : Int} {l : List Int} (h : mOk n p l = true) (hp : p ≤ m) (hl : ∀ x ∈ l, x ≤ m) (hm : m ≤ n) : mOk n p (l ++ [m]) = true := by
  induction l generalizing p with
  | nil => simp [mOk, hp, hm]
  | cons q l ih =>
    simp only [List.cons_append, mOk, Bool.and_eq_true, decide_eq_true_eq] at h ⊢
    exact ⟨h.1, ih h.2 (hl q List.mem_cons_self) fun x hx => hl x (List.mem_cons_of_mem _ hx)⟩
theorem mOk_le {n p : Int} {l : List Int} (h : mOk n p l = true) : ∀ x ∈ l, p ≤ x ∧ x ≤ n := by
  induction l generalizing p with
  | nil => simp
  | cons q l ih =>
    simp only [mOk, Bool.and_eq_true, decide_eq_true_eq] at h
    intro x hx
    rcases List.mem_cons.1 hx with rfl | hx
    · exact ⟨h.1.1, h.1.2⟩
    · have := ih h.2 x hx
      exact ⟨by omega, this.2⟩
theorem mOk_dropLast {n p : Int} {l : List Int} {m : Int} (h : mOk n p (l ++ [m]) = true) : mOk m p l = true ∧ p ≤ m ∧ m ≤ n := by
  induction l generalizing p with
  | nil => simp only [List.nil_append, mOk, Bool.and_eq_true, decide_eq_true_eq] at h; exact ⟨rfl, h.1.1, h.1.2⟩
  | cons q l ih =>
    simp only [List.cons_append, mOk, Bool.and_eq_true, decide_eq_true_eq] at h ⊢
    obtain ⟨a, b, c⟩ := ih h.2
    exact ⟨⟨⟨h.1.1, b⟩, a⟩, by omega, c⟩

/-- d came out of c behind a mark; L: the marks of its own. -/
structure Bk (c d : Cl) (L : List Int) : Prop where
  n : c.N.length ≤ d.N.length
  pre : d.N.take c.N.length = c.N
  undo : undoAll (d.N.drop c.N.length) d.V = some c.V
  m : d.M = c.M ++ (c.N.length : Int) :: L
  ok : mOk d.N.length c.N.length L = true

theorem Bk.right {c d : Cl} {L : List Int} (h : Bk c d L) (hc : c.right = true) : d.right = true := by
  simp only [Cl.right, Bool.and_eq_true] at hc ⊢
  obtain ⟨h1, h2⟩ := hc
  have hn := h.n
  refine ⟨?_, ?_⟩
  · rw [h.m]
    refine mOk_append h1 (by omega) (show (c.N.length : Int) ≤ d.N.length by omega) ?_
    simp only [mOk, Bool.and_eq_true, decide_eq_true_eq]
    exact ⟨⟨by omega, by omega⟩, h.ok⟩
  · have : d.N = c.N ++ d.N.drop c.N.length := by
      have := List.take_append_drop c.N.length d.N
      rw [h.pre] at this
      exact this.symm
    rw [this, undoAll_append, h.undo]
    exact h2
theorem Bk.start (c : Cl) : Bk c c.marked [] := ⟨Nat.le_refl _, by simp [Cl.marked], by simp [Cl.marked, undoAll], by simp [Cl.marked], rfl⟩
theorem Bk.snoc {c d : Cl} {L : List Int} (h : Bk c d L) (n : Int × Int) (V : List Int) (hu : undo1 n V = some d.V) : Bk c ⟨V, d.N ++ [n], d.M⟩ L := by
  have hn := h.n
  refine ⟨by simp; omega, ?_, ?_, h.m, mOk_up h.ok (by simp <;> omega)⟩
  · show (d.N ++ [n]).take _ = _
    rw [List.take_append_of_le_length hn, h.pre]
  · show undoAll ((d.N ++ [n]).drop _) V = _
    rw [List.drop_append_of_le_length hn, undoAll_append]
    simp only [undoAll, Option.bind_some, hu]
    exact h.undo
theorem Bk.put {c d : Cl} {L : List Int} (h : Bk c d L) {i : Nat} {u v : Int} (hu : d.V[i]? = some u) : Bk c (d.put i u v) L := by
  have hi : i < d.V.length := (List.getElem?_eq_some_iff.1 hu).1
  refine h.snoc _ _ ?_
  have hset : (d.V.set i v).set i u = d.V := by
    rw [List.set_set]
    apply List.ext_getElem?
    intro j
    by_cases e : i = j
    · subst e; rw [List.getElem?_set_self hi, hu]
    · rw [List.getElem?_set_ne e]
  simp only [undo1]
  rw [if_neg (by omega), if_pos ⟨by omega, by simp; omega⟩]
  simp only [Int.toNat_natCast]
  rw [hset]
theorem Bk.grown {c d : Cl} {L : List Int} (h : Bk c d L) (v : Int) : Bk c (d.grown v) L := by
  refine h.snoc _ _ ?_
  simp [undo1]
theorem Bk.marked {c d : Cl} {L : List Int} (h : Bk c d L) : Bk c d.marked (L ++ [(d.N.length : Int)]) := by
  have hn := h.n
  refine ⟨h.n, h.pre, h.undo, ?_, mOk_snoc h.ok (by omega) (fun x hx => (mOk_le h.ok x hx).2) (Int.le_refl _)⟩
  simp [Cl.marked, h.m]
theorem Bk.keep {c d : Cl} {L : List Int} {m : Int} (h : Bk c d (L ++ [m])) : Bk c ⟨d.V, d.N, d.M.dropLast⟩ L := by
  refine ⟨h.n, h.pre, h.undo, ?_, mOk_up (mOk_dropLast h.ok).1 (mOk_dropLast h.ok).2.2⟩
  show d.M.dropLast = _
  rw [h.m, show c.M ++ (c.N.length : Int) :: (L ++ [m]) = (c.M ++ (c.N.length : Int) :: L) ++ [m] by simp, List.dropLast_concat]
theorem Bk.back {c d : Cl} {L : List Int} {m : Int} (h : Bk c d (L ++ [m])) : ∃ (k : Nat) (V' : List Int), m = (k : Int) ∧ k ≤ d.N.length ∧ d.M[d.M.length - 1]? = some (k : Int) ∧ undoAll (d.N.drop k) d.V = some V' ∧ Bk c ⟨V', d.N.take k, d.M.dropLast⟩ L := by
  obtain ⟨o1, o2, o3⟩ := mOk_dropLast h.ok
  obtain ⟨k, rfl⟩ : ∃ k : Nat, m = (k : Int) := ⟨m.toNat, by omega⟩
  have hk1 : c.N.length ≤ k := by omega
  have hk2 : k ≤ d.N.length := by omega
  have hsplit : d.N.drop c.N.length = (d.N.take k).drop c.N.length ++ d.N.drop k := by
    have h1 : d.N = d.N.take k ++ d.N.drop k := (List.take_append_drop _ _).symm
    have h2 := congrArg (List.drop c.N.length) h1
    rw [List.drop_append_of_le_length (by rw [List.length_take]; omega)] at h2
    exact h2
  have hu := h.undo
  rw [hsplit, undoAll_append] at hu
  cases hv : undoAll (d.N.drop k) d.V with
  | none => rw [hv] at hu; simp at hu
  | some V' =>
    rw [hv, Option.bind_some] at hu
    have hM : d.M = (c.M ++ (c.N.length : Int) :: L) ++ [(k : Int)] := by rw [h.m]; simp
    refine ⟨k, V', rfl, hk2, by rw [hM]; simp, hv, ?_, ?_, hu, ?_, ?_⟩
    · show c.N.length ≤ (d.N.take k).length
      rw [List.length_take]; omega
    · show (d.N.take k).take c.N.length = c.N
      rw [List.take_take, Nat.min_eq_left hk1, h.pre]
    · show d.M.dropLast = _
      rw [hM, List.dropLast_concat]
    · show mOk ((d.N.take k).length : Int) _ L = true
      rw [List.length_take, Nat.min_eq_left hk2]
      exact o1
theorem Bk.last {c d : Cl} (h : Bk c d []) : d.M[d.M.length - 1]? = some (c.N.length : Int) ∧ (⟨c.V, d.N.take c.N.length, d.M.dropLast⟩ : Cl) = c := by
  rw [h.pre, h.m]
  refine ⟨by simp, ?_⟩
  rw [List.dropLast_concat]
end Go.Proofs.Ytinehodamekjgaa.Aw
