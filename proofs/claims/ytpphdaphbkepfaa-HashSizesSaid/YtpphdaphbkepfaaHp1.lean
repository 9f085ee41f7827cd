/- The plain law of tables: keys that are laid are found. -/
import Derived.Test.YtpphdaphbkepfaaHa5
set_option linter.unusedVariables false
set_option linter.unusedSimpArgs false
namespace Go.Proofs.Ytpphdaphbkepfaa.Aw
open Go Go.RowKit
theorem nodup_inj {α : Type} {l : List α} (h : l.Nodup) {i j : Nat} {hi : i < l.length} {hj : j < l.length} (e : l[i] = l[j]) : i = j := by
  have h' := List.pairwise_iff_getElem.1 h
  rcases Nat.lt_trichotomy i j with h1 | h1 | h1
  · exact absurd e (h' i j hi hj h1)
  · exact h1
  · exact absurd e.symm (h' j i hj hi h1)
theorem slotN_eq (key : List Int) (size k : Nat) (hk : k < size) : ∃ a, a < size ∧ ∀ k, k < size → slotN key size k = if a + k < size then a + k else a + k - size := by
  refine ⟨(hashM key % size).toNat, ?_, fun k hk => ?_⟩
  · have := Int.emod_lt_of_pos (hashM key) (show 0 < (size : Int) by omega)
    have := Int.emod_nonneg (hashM key) (show (size : Int) ≠ 0 by omega)
    omega
  · have h1 := Int.emod_lt_of_pos (hashM key) (show 0 < (size : Int) by omega)
    have h0 := Int.emod_nonneg (hashM key) (show (size : Int) ≠ 0 by omega)
    unfold slotN slotM
    generalize hashM key % size = a at h0 h1
    split
    · rw [Int.emod_eq_of_lt (by omega) (by omega)]; omega
    · rw [← Int.sub_emod_right, Int.emod_eq_of_lt (by omega) (by omega)]; omega
theorem slotN_lt (key : List Int) (size k : Nat) (hk : k < size) : slotN key size k < size := by
  obtain ⟨a, ha, h⟩ := slotN_eq key size k hk
  rw [h k hk]; split <;> omega
theorem slotN_inj (key : List Int) (size k k' : Nat) (hk : k < size) (hk' : k' < size) (e : slotN key size k = slotN key size k') : k = k' := by
  obtain ⟨a, ha, h⟩ := slotN_eq key size k hk
  rw [h k hk, h k' hk'] at e
  split at e <;> split at e <;> omega
theorem slotN_onto (key : List Int) (size p : Nat) (hp : p < size) : ∃ k, k < size ∧ slotN key size k = p := by
  obtain ⟨a, ha, h⟩ := slotN_eq key size p hp
  refine ⟨if a ≤ p then p - a else p + size - a, ?_, ?_⟩
  · split <;> omega
  · rw [h _ (by split <;> omega)]
    split <;> split <;> omega
/-- i of the keys are laid. -/
structure Laid (K : List (List Int)) (S : List Int) (i : Nat) : Prop where
  vals : ∀ p, p < S.length → S.getD p 0 = 0 ∨ ∃ j, j < i ∧ S.getD p 0 = (j + 1 : Nat)
  one : ∀ p q, p < S.length → q < S.length → S.getD p 0 = S.getD q 0 → S.getD p 0 ≠ 0 → p = q
  all : ∀ j, j < i → ∃ k, k < S.length ∧ S.getD (slotN (K.getD j default) S.length k) 0 = (j + 1 : Nat) ∧ ∀ k', k' < k → S.getD (slotN (K.getD j default) S.length k') 0 ≠ 0
  free : S.count 0 + i = S.length
theorem getD_set_eq {S : List Int} {p : Nat} {v : Int} (h : p < S.length) : (S.set p v).getD p 0 = v := by simp [h]
theorem getD_set_ne {S : List Int} {p q : Nat} {v : Int} (h : p ≠ q) : (S.set p v).getD q 0 = S.getD q 0 := by simp [h]
theorem Laid.zero (K : List (List Int)) (n : Nat) : Laid K (List.replicate n 0) 0 where
  vals := fun p hp => .inl (by simp at hp; simp [hp])
  one := fun p q hp hq e hne => by simp at hp; simp [hp] at hne
  all := fun j hj => by omega
  free := by simp
theorem Laid.find {K : List (List Int)} {S : List Int} {i : Nat} (h : Laid K S i) (hi : i < S.length) (key : List Int) : ∃ k, k < S.length ∧ S.getD (slotN key S.length k) 0 = 0 ∧ (∀ k', k' < k → S.getD (slotN key S.length k') 0 ≠ 0) ∧ ∀ n, placeM S key n = S.set (slotN key S.length k) (n + 1) := by
  have hc : 0 < S.count 0 := by have := h.free; omega
  obtain ⟨p, hp, hpv⟩ := List.getElem_of_mem (List.count_pos_iff.1 hc)
  obtain ⟨k0, hk0, hs⟩ := slotN_onto key S.length p hp
  have hf0 : freeAt S key k0 = true := by simp [freeAt, hs, hp, hpv]
  cases hf : (List.range S.length).find? (freeAt S key) with
  | none =>
    rw [List.find?_eq_none] at hf
    have := hf k0 (List.mem_range.2 hk0)
    rw [hf0] at this
    simp at this
  | some k =>
    have hfr := List.find?_range_eq_some.1 hf
    obtain ⟨h1, h2, h3⟩ := hfr
    refine ⟨k, by simpa using h2, by simpa [freeAt] using h1, fun k' hk' => ?_, fun n => ?_⟩
    · have := h3 k' hk'
      simpa [freeAt] using this
    · unfold placeM; rw [hf]
theorem Laid.step {K : List (List Int)} {S : List Int} {i : Nat} (h : Laid K S i) (hi : i < S.length) : Laid K (placeM S (K.getD i default) i) (i + 1) := by
  obtain ⟨k, hk, hz, hbef, hpl⟩ := h.find hi (K.getD i default)
  rw [hpl]
  have hlt := slotN_lt (K.getD i default) S.length k hk
  generalize hp : slotN (K.getD i default) S.length k = p at *
  have hne : ∀ q, S.getD q 0 ≠ 0 → p ≠ q := fun q hq e => hq (by rw [← e]; exact hz)
  constructor
  · intro q hq
    rw [List.length_set] at hq
    by_cases e : p = q
    · subst e
      rw [getD_set_eq hlt]
      exact .inr ⟨i, by omega, by omega⟩
    · rw [getD_set_ne e]
      rcases h.vals q hq with h1 | ⟨j, hj, h1⟩
      · exact .inl h1
      · exact .inr ⟨j, by omega, h1⟩
  · intro q q' hq hq' e hn
    rw [List.length_set] at hq hq'
    by_cases e1 : p = q <;> by_cases e2 : p = q'
    · omega
    · subst e1
      rw [getD_set_eq hlt, getD_set_ne e2] at e
      rcases h.vals q' hq' with h1 | ⟨j, hj, h1⟩ <;> omega
    · subst e2
      rw [getD_set_eq hlt, getD_set_ne e1] at e
      rcases h.vals q hq with h1 | ⟨j, hj, h1⟩ <;> omega
    · rw [getD_set_ne e1, getD_set_ne e2] at e
      rw [getD_set_ne e1] at hn
      exact h.one q q' hq hq' e hn
  · intro j hj
    rw [List.length_set]
    by_cases e : j = i
    · subst e
      refine ⟨k, hk, by rw [hp, getD_set_eq hlt]; omega, fun k' hk' => ?_⟩
      rw [getD_set_ne (hne _ (hbef k' hk'))]
      exact hbef k' hk'
    · obtain ⟨k1, h1, h2, h3⟩ := h.all j (by omega)
      refine ⟨k1, h1, ?_, fun k' hk' => ?_⟩
      · rw [getD_set_ne (hne _ (by rw [h2]; omega))]
        exact h2
      · rw [getD_set_ne (hne _ (h3 k' hk'))]
        exact h3 k' hk'
  · have hg : S[p] = 0 := by simpa [hlt] using hz
    rw [List.length_set, List.count_set hlt, hg]
    have := h.free
    have hcp : 0 < S.count 0 := List.count_pos_iff.2 (hg ▸ List.getElem_mem hlt)
    simp only [beq_self_eq_true, if_true]
    rw [if_neg (by simp; omega)]
    omega
theorem sizeGo_big (f s n : Nat) (h : 4 * n ≤ 3 * s + f) (hs : 1 ≤ s) : 4 * n ≤ 3 * sizeGo f s n := by
  induction f generalizing s with
  | zero => simpa [sizeGo] using h
  | succ f ih =>
    simp only [sizeGo]
    split
    · exact ih _ (by omega) (by omega)
    · omega
theorem sizeM_big (n : Nat) : 4 * n ≤ 3 * sizeM n := sizeGo_big _ _ _ (by omega) (by omega)
theorem layGo_laid (K : List (List Int)) (i : Nat) (hi : i ≤ K.length) : Laid K (layGo K i) i := by
  induction i with
  | zero => exact Laid.zero K _
  | succ i ih =>
    rw [layGo_succ]
    refine (ih (by omega)).step ?_
    rw [layGo_len]
    have := sizeM_big K.length
    have := (sizeM_bound K.length).1
    omega
theorem layM_laid (K : List (List Int)) : Laid K (layM K) K.length := layGo_laid K _ (Nat.le_refl _)
theorem layM_len (K : List (List Int)) : (layM K).length = sizeM K.length := layGo_len K _
theorem layM_vals (K : List (List Int)) : ∀ x ∈ layM K, x ≤ K.length ∧ 0 ≤ x := fun x hx => by
  obtain ⟨p, hp, rfl⟩ := List.getElem_of_mem hx
  have h1 := (layM_laid K).vals p hp
  rw [List.getD_eq_getElem?_getD, List.getElem?_eq_getElem hp] at h1
  simp only [Option.getD_some] at h1
  rcases h1 with h | ⟨j, hj, h⟩ <;> omega
theorem getD_inj {K : List (List Int)} (hn : K.Nodup) {i j : Nat} (hi : i < K.length) (hj : j < K.length) (e : K.getD i default = K.getD j default) : i = j := by
  simp only [List.getD_eq_getElem?_getD, List.getElem?_eq_getElem hi, List.getElem?_eq_getElem hj, Option.getD_some] at e
  exact nodup_inj hn e
theorem getD_idx {K : List (List Int)} {key : List Int} (h : key ∈ K) : K.idxOf key < K.length ∧ K.getD (K.idxOf key) default = key := by
  have h1 := List.idxOf_lt_length_of_mem h
  refine ⟨h1, ?_⟩
  rw [List.getD_eq_getElem?_getD, List.getElem?_eq_getElem h1, Option.getD_some, List.getElem_idxOf]
/-- A key of a table is found at its place; another one nowhere. -/
theorem find_at (K : List (List Int)) (hn : K.Nodup) (key : List Int) : findM K (layM K) key = atM K key := by
  have hL := layM_laid K
  generalize layM K = S at hL
  by_cases hm : key ∈ K
  · obtain ⟨hj, hk⟩ := getD_idx hm
    have hat : atM K key = (K.idxOf key : Nat) := by simp [atM, hm]
    rw [hat]
    generalize K.idxOf key = j at hj hk
    obtain ⟨k, h1, h2, h3⟩ := hL.all j hj
    rw [hk] at h2 h3
    refine findM_hit h1 (fun k' hk' => ?_) ?_
    · have h4 := h3 k' hk'
      have hlt := slotN_lt key S.length k' (by omega)
      rcases hL.vals _ hlt with h5 | ⟨j', hj', h5⟩
      · exact absurd h5 h4
      unfold probe
      rw [if_neg]
      show ¬ (S.getD _ 0 - 1 < 0 ∨ K.getD (S.getD _ 0 - 1).toNat default = key)
      rw [h5]
      rintro (h6 | h6)
      · omega
      · rw [show (((j' + 1 : Nat) : Int) - 1).toNat = j' by omega] at h6
        have := getD_inj hn hj' hj (by rw [h6, hk])
        subst this
        have := hL.one _ _ hlt (slotN_lt key S.length k h1) (by rw [h5, h2]) h4
        have := slotN_inj key S.length k' k (by omega) h1 this
        omega
    · unfold probe
      have e : S.getD (slotN key S.length k) default = (j + 1 : Nat) := h2
      rw [e, if_pos (.inr (by rw [show (((j + 1 : Nat) : Int) - 1).toNat = j by omega]; exact hk))]
      congr 1
      omega
  · rw [atM_miss K key hm]
    unfold findM
    cases hf : (List.range S.length).find? (fun k => (probe K S key k).isSome) with
    | none => rfl
    | some k =>
      obtain ⟨h1, h2, h3⟩ := List.find?_range_eq_some.1 hf
      have hlt := slotN_lt key S.length k (by simpa using h2)
      simp only []
      unfold probe at h1 ⊢
      split
      · rename_i hp
        have e : ∀ p, S.getD p default = S.getD p 0 := fun _ => rfl
        rw [e] at hp ⊢
        rcases hL.vals _ hlt with h5 | ⟨j', hj', h5⟩
        · rw [h5]; rfl
        · rw [h5] at hp
          rcases hp with hp | hp
          · omega
          · rw [show (((j' + 1 : Nat) : Int) - 1).toNat = j' by omega] at hp
            exact absurd (hp ▸ (by rw [List.getD_eq_getElem?_getD, List.getElem?_eq_getElem hj', Option.getD_some]; exact List.getElem_mem hj')) hm
      · rename_i hp
        rw [if_neg hp] at h1
        simp at h1
theorem layGo_append (K : List (List Int)) (key : List Int) (hs : sizeM (K.length + 1) = sizeM K.length) (i : Nat) (hi : i ≤ K.length) : layGo (K ++ [key]) i = layGo K i := by
  induction i with
  | zero => simp [layGo, hs]
  | succ i ih =>
    rw [layGo_succ, layGo_succ, ih (by omega)]
    congr 1
    simp [List.getElem?_append_left (show i < K.length by omega)]
theorem layM_append (K : List (List Int)) (key : List Int) (hs : sizeM (K.length + 1) = sizeM K.length) : layM (K ++ [key]) = placeM (layM K) key K.length := by
  rw [layM, List.length_append]
  show layGo (K ++ [key]) (K.length + 1) = _
  rw [layGo_succ, layGo_append K key hs _ (Nat.le_refl _)]
  simp [layM]
def putK (K : List (List Int)) (key : List Int) : List (List Int) := if key ∈ K then K else K ++ [key]
theorem nodup_at (K : List (List Int)) : K.Nodup ↔ ∀ i, i < K.length → atM K (K.getD i default) = i := by
  constructor
  · intro h i hi
    refine atM_hit K _ i hi (fun hm => ?_) rfl
    obtain ⟨j, hj, e⟩ := List.getElem_of_mem hm
    rw [List.length_take] at hj
    rw [List.getElem_take, List.getD_eq_getElem?_getD, List.getElem?_eq_getElem hi, Option.getD_some] at e
    have := nodup_inj h e
    omega
  · intro h
    refine List.pairwise_iff_getElem.2 fun i j hi hj hij e => ?_
    have h1 := h i hi
    have h2 := h j hj
    simp only [List.getD_eq_getElem?_getD, List.getElem?_eq_getElem hi, List.getElem?_eq_getElem hj, Option.getD_some, e] at h1 h2
    omega
end Go.Proofs.Ytpphdaphbkepfaa.Aw
