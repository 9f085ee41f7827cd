/- The plain laws of Sizes and Lays. -/
import Derived.Test.YtpphdaphbkepfaaHd1
set_option linter.unusedVariables false
set_option linter.unusedSimpArgs false
namespace Go.Proofs.Ytpphdaphbkepfaa.Aw
open Go Go.RowKit
set_option maxRecDepth 10000
theorem sizeGo_pow (f n j : Nat) (h : j = 0 ∨ 3 * (8 * 2 ^ (j - 1)) < 4 * n) : ∃ k, sizeGo f (8 * 2 ^ j) n = 8 * 2 ^ k ∧ (k = 0 ∨ 3 * (8 * 2 ^ (k - 1)) < 4 * n) := by
  induction f generalizing j with
  | zero => exact ⟨j, rfl, h⟩
  | succ f ih =>
    simp only [sizeGo]
    split
    · rw [show 2 * (8 * 2 ^ j) = 8 * 2 ^ (j + 1) by rw [Nat.pow_succ]; omega]
      exact ih (j + 1) (.inr (by simpa using by omega))
    · exact ⟨j, rfl, h⟩
theorem sizeM_pow (n : Nat) : ∃ k, sizeM n = 8 * 2 ^ k ∧ (k = 0 ∨ 3 * (8 * 2 ^ (k - 1)) < 4 * n) := sizeGo_pow (4 * n) n 0 (.inl rfl)
theorem sizeM_mono {n m : Nat} (h : n ≤ m) : sizeM n ≤ sizeM m := by
  obtain ⟨k, e1, h1⟩ := sizeM_pow n
  obtain ⟨j, e2, h2⟩ := sizeM_pow m
  have hb := sizeM_big m
  rw [e2] at hb
  rw [e1, e2]
  rcases h1 with rfl | h1
  · have : 1 ≤ 2 ^ j := Nat.one_le_two_pow
    simp; omega
  · have h3 : 2 ^ (k - 1) < 2 ^ j := by omega
    have h4 : k - 1 < j := (Nat.pow_lt_pow_iff_right (by decide)).1 h3
    have : 2 ^ k ≤ 2 ^ j := Nat.pow_le_pow_right (by decide) (by omega)
    omega
theorem sizeM_half (n : Nat) : sizeM n = 8 ∨ sizeM n / 2 * 3 < n * 4 := by
  obtain ⟨k, e1, h1⟩ := sizeM_pow n
  rw [e1]
  rcases h1 with rfl | h1
  · exact .inl rfl
  · cases k with
    | zero => exact .inl rfl
    | succ k =>
      simp only [Nat.add_sub_cancel] at h1
      rw [Nat.pow_succ]
      exact .inr (by omega)
theorem sizeM_bits (n : Nat) (hn : n ≤ 1000000) : bitsV .and .i64 (sizeM n : Int) ((sizeM n : Int) - 1) = 0 := by
  have hb := sizeM_bound n
  obtain ⟨k, e1, _⟩ := sizeM_pow n
  have e2 : sizeM n = 2 ^ (k + 3) := by rw [e1, Nat.pow_add]; omega
  have e3 : ((sizeM n : Int) - 1) = ((2 ^ (k + 3) - 1 : Nat) : Int) := by omega
  have hlt : 2 ^ (k + 3) < 18446744073709551616 := by omega
  rw [e3, e2]
  have : (BitVec.ofInt 64 ((2 ^ (k + 3) : Nat) : Int) &&& BitVec.ofInt 64 ((2 ^ (k + 3) - 1 : Nat) : Int)).toNat = 0 := by
    rw [BitVec.ofInt_natCast, BitVec.ofInt_natCast, BitVec.toNat_and, BitVec.toNat_ofNat, BitVec.toNat_ofNat, Nat.mod_eq_of_lt (by omega), Nat.mod_eq_of_lt (by omega), Nat.and_two_pow_sub_one_eq_mod, Nat.mod_self]
  show IntKind.i64.wrap (((BitVec.ofInt 64 ((2 ^ (k + 3) : Nat) : Int) &&& BitVec.ofInt 64 ((2 ^ (k + 3) - 1 : Nat) : Int)).toNat : Nat) : Int) = 0
  rw [this]
  rfl
def encBo (b : Bool) : List IC := [.lit (.bool b)]
def seenM (S : List Int) (n i : Nat) : List Bool := (List.range (n + 1)).map fun j => decide (0 < j ∧ ((j : Nat) : Int) ∈ S.take i)
def cntM (S : List Int) (i : Nat) : Nat := (S.take i).countP (fun x => decide (x ≠ 0))
theorem cntM_succ (S : List Int) (i : Nat) (h : i < S.length) : cntM S (i + 1) = cntM S i + if S.getD i default = 0 then 0 else 1 := by
  unfold cntM
  rw [take_snoc S i h, List.countP_append, List.countP_singleton]
  by_cases e : S.getD i default = 0 <;> simp [e]
theorem cntM_all (S : List Int) : cntM S S.length + S.count 0 = S.length := by
  unfold cntM
  rw [List.take_length]
  have := List.length_eq_countP_add_countP (fun x : Int => decide (x ≠ 0)) (l := S)
  have e : S.count 0 = S.countP (fun x => decide ¬(decide (x ≠ 0)) = true) := by
    unfold List.count
    refine List.countP_congr fun x _ => ?_
    by_cases h : x = 0 <;> simp [h]
  omega
theorem seenM_get (S : List Int) (n i x : Nat) (h : x ≤ n) : (seenM S n i).getD x default = decide (0 < x ∧ (x : Int) ∈ S.take i) := by
  unfold seenM
  rw [List.getD_eq_getElem?_getD, List.getElem?_map, List.getElem?_range (by omega)]
  rfl
theorem seenM_zero (S : List Int) (n i : Nat) (h : i < S.length) (h0 : S.getD i default = 0) : seenM S n (i + 1) = seenM S n i := by
  unfold seenM
  refine List.map_congr_left fun j _ => ?_
  rw [take_snoc S i h, h0]
  simp only [List.mem_append, List.mem_singleton, decide_eq_decide]
  constructor
  · rintro ⟨a, b | b⟩
    · exact ⟨a, b⟩
    · omega
  · rintro ⟨a, b⟩
    exact ⟨a, .inl b⟩
theorem seenM_set (S : List Int) (n i x : Nat) (h : i < S.length) (h0 : S.getD i default = (x : Int)) (hx : 0 < x) (hn : x ≤ n) : seenM S n (i + 1) = (seenM S n i).set x true := by
  refine List.ext_getElem? fun j => ?_
  unfold seenM
  rw [List.getElem?_set, List.getElem?_map, List.getElem?_map]
  by_cases hj : j < n + 1
  · rw [List.getElem?_range hj, take_snoc S i h, h0]
    by_cases e : x = j
    · subst e
      simp [hj, hx]
    · rw [if_neg e]
      simp only [Option.map_some, List.mem_append, List.mem_singleton, Option.some.injEq, decide_eq_decide]
      constructor
      · rintro ⟨a, b | b⟩
        · exact ⟨a, b⟩
        · omega
      · rintro ⟨a, b⟩
        exact ⟨a, .inl b⟩
  · rw [List.getElem?_eq_none (by simp; omega)]
    simp
    omega
theorem seenM_init (S : List Int) (n : Nat) : seenM S n 0 = List.replicate (n + 1) false := by
  unfold seenM
  rw [List.eq_replicate_iff]
  exact ⟨by simp, by simp⟩
theorem laid_new (K : List (List Int)) (i : Nat) (h : i < (layM K).length) (h0 : (layM K).getD i default ≠ 0) : (layM K).getD i default ∉ (layM K).take i := fun hm => by
  obtain ⟨q, hq, e⟩ := List.getElem_of_mem hm
  rw [List.length_take] at hq
  have e2 : (layM K).getD q 0 = (layM K).getD i 0 := by
    show _ = (layM K).getD i default
    rw [← e, List.getElem_take, List.getD_eq_getElem?_getD, List.getElem?_eq_getElem (by omega)]
    rfl
  have := (layM_laid K).one q i (by omega) h e2 (by rw [e2]; exact h0)
  omega
end Go.Proofs.Ytpphdaphbkepfaa.Aw
