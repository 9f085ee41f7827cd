/- The plain law of tables, part 2: what is put. -/
import Derived.Test.YtpphdaphbkepfaaHa8
set_option linter.unusedVariables false
set_option linter.unusedSimpArgs false
namespace Go.Proofs.Ytpphdaphbkepfaa.Aw
open Go Go.RowKit
abbrev tabPV (A : Ar) (K : List (List Int)) : PV := keyedPV A K (layM K)
theorem few_bounds {K : List (List Int)} {S : List Int} (h : fewM K S = true) : S.length ≤ 2000 ∧ K.length ≤ 2000 ∧ ∀ x ∈ K, x.length ≤ 2000 := by
  have h1 : totM K S K.length ≤ 2000 := by simpa [fewM] using h
  have h2 : ∀ l : List (List Int), l.length ≤ (l.map fun x => 1 + x.length).sum ∧ ∀ x ∈ l, x.length ≤ (l.map fun x => 1 + x.length).sum := by
    intro l
    induction l with
    | nil => simp
    | cons y r ih =>
      simp only [List.map_cons, List.sum_cons, List.length_cons, List.mem_cons]
      refine ⟨by omega, ?_⟩
      rintro x (rfl | hx)
      · omega
      · have := ih.2 x hx; omega
  unfold totM at h1
  rw [List.take_length] at h1
  obtain ⟨h3, h4⟩ := h2 K
  exact ⟨by omega, by omega, fun x hx => by have := h4 x hx; omega⟩
theorem nodup_put {K : List (List Int)} (h : K.Nodup) (key : List Int) : (putK K key).Nodup := by
  unfold putK
  split
  · exact h
  · rename_i hm
    rw [List.nodup_append]
    exact ⟨h, by simp, fun a ha b hb => by rw [List.mem_singleton.1 hb]; rintro rfl; exact hm ha⟩
theorem mem_put (K : List (List Int)) (key : List Int) : key ∈ putK K key := by
  unfold putK
  split <;> simp_all
theorem put_put (K : List (List Int)) (key : List Int) : putK (putK K key) key = putK K key := by
  rw [putK, if_pos (mem_put K key)]
theorem put_len (K : List (List Int)) (key : List Int) : (putK K key).length ≤ K.length + 1 := by
  unfold putK
  split <;> simp
theorem put_idx (K : List (List Int)) (key : List Int) : (putK K key).idxOf key = K.idxOf key := by
  unfold putK
  split
  · rfl
  · rename_i hm
    rw [List.idxOf_append, if_neg hm, List.idxOf_eq_length hm]
    simp
theorem at_put (K : List (List Int)) (key : List Int) : atM (putK K key) key = (K.idxOf key : Nat) := by
  simp [atM, mem_put, put_idx]
theorem put_bound {K : List (List Int)} {key : List Int} {n : Nat} (h : ∀ x ∈ K, x.length ≤ n) (hk : key.length ≤ n) : ∀ x ∈ putK K key, x.length ≤ n := by
  intro x hx
  unfold putK at hx
  split at hx
  · exact h x hx
  · rcases List.mem_append.1 hx with hx | hx
    · exact h x hx
    · rw [List.mem_singleton.1 hx]; exact hk
theorem at_put_old (K : List (List Int)) (key x : List Int) (hx : x ∈ K) : atM (putK K key) x = atM K x := by
  unfold putK
  split
  · rfl
  · simp [atM, hx, List.idxOf_append]
end Go.Proofs.Ytpphdaphbkepfaa.Aw
