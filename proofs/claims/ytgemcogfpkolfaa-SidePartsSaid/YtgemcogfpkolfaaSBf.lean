/- Texts of the proof, put together: the abstract walk, contracts of the functions that the statement reaches, plain laws, part 6 of 6. -/
import Derived.Test.YtgemcogfpkolfaaSBd
import Derived.Test.YtgemcogfpkolfaaSBc
import Derived.ChangeShapes
import Derived.WideShapes
import Derived.Test.YtgemcogfpkolfaaSBe
/- A part of an expression, as an expression of its own: a plain law. -/
set_option linter.unusedVariables false
set_option linter.unusedSimpArgs false
namespace Go.Proofs.Ytgemcogfpkolfaa.Aw
open Go Go.RowKit
/-- The nodes of the expression that ends at a place, and begins at another. -/
def partD (E : List Nd) (b a : Nat) : List Nd := (E.take (a + 1)).drop b
theorem partD_len {E : List Nd} {b a : Nat} (ha : a < E.length) (hb : b ≤ a) : (partD E b a).length = a + 1 - b := by
  unfold partD; rw [List.length_drop, List.length_take]; omega
theorem partD_get {E : List Nd} {b a i : Nat} (ha : a < E.length) (hi : b + i ≤ a) : (partD E b a).getD i default = E.getD (b + i) default := by
  unfold partD
  simp only [List.getD_eq_getElem?_getD, List.getElem?_drop, List.getElem?_take]
  rw [if_pos (by omega)]
theorem pD_part {E : List Nd} {b a i : Nat} (ha : a < E.length) (hi : b + i ≤ a) : pD (partD E b a) i = pD E (b + i) := by
  unfold pD; rw [partD_get ha hi]
/-- How far back a place's expression begins, from each place in it. -/
structure InP (E : List Nd) (b a : Nat) : Prop where
  ha : a < E.length
  hb : b ≤ a
  one : manyD E (a + 1) = manyD E b + 1
  way : ∀ i, b < i → i ≤ a + 1 → ∃ t : Nat, 1 ≤ t ∧ (t : Int) ≤ manyD E i ∧ backD (stD E i) i t = b ∧ manyD E i = t + manyD E b
theorem inP {E : List Nd} (hg : goodD E) {a b : Nat} (ha : a < E.length) (hb : (stD E E.length).getD a default = b) : InP E b a := by
  have hsh := hg.shape
  have hw1 := wayD (hsh.mono (show a + 1 ≤ E.length by omega))
  have hm1 := (manyD_nonneg hsh (a + 1) (by omega)).2 (by omega)
  have h1 : backD (stD E (a + 1)) (a + 1 : Nat) 1 = b := by
    rw [← hb, stD_get E ha]
    show (stD E (a + 1)).getD (((a + 1 : Nat) : Int) - 1).toNat default = _
    rw [show (((a + 1 : Nat) : Int) - 1).toNat = a by omega, stD_get E (Nat.lt_succ_self a)]
  have hba : b ≤ a := by
    have := hw1.dec 0 (by omega)
    rw [show 0 + 1 = 1 from rfl, h1] at this
    simp only [backD] at this
    omega
  have key : ∀ d i, i + d = a + 1 → b < i → ∃ t : Nat, 1 ≤ t ∧ (t : Int) ≤ manyD E i ∧ backD (stD E i) i t = b ∧ manyD E i - t = manyD E (a + 1) - 1 := by
    intro d
    induction d with
    | zero =>
      intro i hi _
      obtain rfl : i = a + 1 := by omega
      exact ⟨1, Nat.le_refl _, by omega, h1, by omega⟩
    | succ d ih =>
      intro i hi hbi
      obtain ⟨t, t1, t2, t3, t4⟩ := ih (i + 1) (by omega) (by omega)
      have hp := hsh i (by omega)
      have hm : manyD E (i + 1) = manyD E i - pD E i + 1 := rfl
      obtain ⟨k, rfl⟩ : ∃ k, t = k + 1 := ⟨t - 1, by omega⟩
      have hs := backD_shift E i hp.1 (wayD (hsh.mono (show i ≤ E.length by omega))) k (by omega)
      rw [t3] at hs
      refine ⟨(pD E i).toNat + k, ?_, by omega, hs.symm, by omega⟩
      rcases Nat.eq_zero_or_pos ((pD E i).toNat + k) with h | h
      · rw [h] at hs
        simp only [backD] at hs
        omega
      · omega
  -- at the beginning itself nothing of it is open
  have hb0 : manyD E b = manyD E (a + 1) - 1 := by
    obtain ⟨u, u1, u2, u3, u4⟩ := key (a + 1 - (b + 1)) (b + 1) (by omega) (by omega)
    have hp := hsh b (by omega)
    have hm : manyD E (b + 1) = manyD E b - pD E b + 1 := rfl
    obtain ⟨k, rfl⟩ : ∃ k, u = k + 1 := ⟨u - 1, by omega⟩
    have hwb := wayD (hsh.mono (show b ≤ E.length by omega))
    have hs := backD_shift E b hp.1 hwb k (by omega)
    rw [u3] at hs
    rcases Nat.eq_zero_or_pos ((pD E b).toNat + k) with h | h
    · omega
    · exfalso
      have h0 := hwb.hi ((pD E b).toNat + k) (by omega)
      have hdec : ∀ q : Nat, 1 ≤ q → (q : Int) ≤ manyD E b → backD (stD E b) b q < b := by
        intro q hq1 hq2
        obtain ⟨r, rfl⟩ : ∃ r, q = r + 1 := ⟨q - 1, by omega⟩
        have := hwb.dec r (by omega)
        have := hwb.hi r (by omega)
        omega
      have := hdec ((pD E b).toNat + k) h (by omega)
      omega
  refine ⟨ha, hba, by omega, fun i hbi hia => ?_⟩
  obtain ⟨t, t1, t2, t3, t4⟩ := key (a + 1 - i) i (by omega) hbi
  exact ⟨t, t1, t2, t3, by omega⟩
theorem manyD_part {E : List Nd} {b a : Nat} (h : InP E b a) : ∀ i, b + i ≤ a + 1 → manyD (partD E b a) i = manyD E (b + i) - manyD E b
  | 0, _ => by simp [manyD]
  | i + 1, hi => by
    have ih := manyD_part h i (by omega)
    have hp := pD_part (E := E) (b := b) (i := i) h.ha (by omega)
    show manyD (partD E b a) i - pD (partD E b a) i + 1 = _
    rw [ih, hp]
    show _ = manyD E (b + i) - pD E (b + i) + 1 - manyD E b
    omega
theorem part_shape {E : List Nd} (hg : goodD E) {b a : Nat} (h : InP E b a) {i : Nat} (hi : b + i ≤ a) : 0 ≤ pD (partD E b a) i ∧ pD (partD E b a) i ≤ manyD (partD E b a) i := by
  have ha := h.ha
  have hp := pD_part (E := E) (b := b) (i := i) h.ha hi
  have hm := manyD_part h i (by omega)
  have hs := hg.shape (b + i) (by omega)
  obtain ⟨t, t1, t2, t3, t4⟩ := h.way (b + i + 1) (by omega) (by omega)
  have he : manyD E (b + i + 1) = manyD E (b + i) - pD E (b + i) + 1 := rfl
  omega
theorem part_good {E : List Nd} (hg : goodD E) {b a : Nat} (h : InP E b a) : goodD (partD E b a) ∧ manyD (partD E b a) (partD E b a).length = 1 := by
  have ha := h.ha
  have hl := partD_len h.ha h.hb
  refine ⟨fun i hi => ?_, ?_⟩
  · rw [hl] at hi
    have hi2 : b + i ≤ a := by omega
    have hs := part_shape hg h hi2
    have hm := hg.may (show b + i < E.length by omega)
    unfold okD
    rw [partD_get h.ha hi2, hm, Bool.true_and]
    exact decide_eq_true hs.2
  · rw [hl, manyD_part h _ (by have := h.hb; omega)]
    have h1 := h.one
    have := h.hb
    rw [show b + (a + 1 - b) = a + 1 by omega]
    omega
/-- The way back in the part is that in the whole, from where the part begins. -/
theorem part_way {E : List Nd} (hg : goodD E) {b a : Nat} (h : InP E b a) : ∀ i, b + i ≤ a + 1 → ∀ k : Nat, (k : Int) ≤ manyD (partD E b a) i → backD (stD (partD E b a) i) i k = backD (stD E (b + i)) (b + i : Nat) k - b
  | 0, _, k, hk => by
    obtain rfl : k = 0 := by simp [manyD] at hk; omega
    simp only [backD]
    omega
  | i + 1, hi, k, hk => by
    have ha := h.ha
    have hps := part_shape hg h (show b + i ≤ a by omega)
    have hpe := pD_part (E := E) (b := b) (i := i) h.ha (by omega)
    have hm1 : manyD (partD E b a) (i + 1) = manyD (partD E b a) i - pD (partD E b a) i + 1 := rfl
    cases k with
    | zero => simp only [backD]; omega
    | succ k =>
      have hP := part_good hg h
      have hl := partD_len h.ha h.hb
      have s1 := backD_shift (partD E b a) i hps.1 (wayD (hP.1.shape.mono (by rw [hl]; omega))) k (by omega)
      have hse := hg.shape (b + i) (by omega)
      have hme := manyD_part h i (by omega)
      have hmb := (manyD_nonneg hg.shape b (by have := h.hb; omega)).1
      have s2 := backD_shift E (b + i) hse.1 (wayD (hg.shape.mono (show b + i ≤ E.length by omega))) k (by omega)
      rw [s1, show b + (i + 1) = b + i + 1 by omega, s2, hpe]
      exact part_way hg h i (by omega) _ (by omega)
theorem part_kids {E : List Nd} (hg : goodD E) {b a : Nat} (h : InP E b a) {i : Nat} (hi : b + i ≤ a) {p : Nat} (hp : pD E (b + i) = p) {k : Nat} (hk : k < p) :
    (kidsD (stD (partD E b a) (partD E b a).length) i p).getD k default = (kidsD (stD E E.length) (b + i : Nat) p).getD k default - b := by
  have ha := h.ha
  have hP := part_good hg h
  have hl := partD_len h.ha h.hb
  have hps := part_shape hg h hi
  rw [pD_part h.ha hi] at hps
  have hse := hg.shape (b + i) (by omega)
  rw [kidsD_get _ _ _ _ hk, kidsD_get _ _ _ _ hk, backD_in hP.1.shape (by rw [hl]; omega) (p - 1 - k) (by omega), backD_in hg.shape (show b + i ≤ E.length by omega) (p - 1 - k) (by omega), part_way hg h i (by omega) _ (by omega)]
  omega
/-- Rows that are alike at a place, behind the same sets. -/
theorem setsD_alike {K K' : List Int} {f g : Nat → Int} {b : Nat} {js : List Nat} (hK : ∀ k ∈ js, 0 ≤ K'.getD k default ∧ K.getD k default = K'.getD k default + b) (hf : ∀ k ∈ js, f k = g k) : ∀ (o o' : List Int), (∀ k ∈ js, (K.getD k default).toNat < o.length ∧ (K'.getD k default).toNat < o'.length) →
    (∀ q : Nat, o.getD (b + q) default = o'.getD q default → (setsD o K f js).getD (b + q) default = (setsD o' K' g js).getD q default) ∧ ∀ k ∈ js, (setsD o K f js).getD (K.getD k default).toNat default = (setsD o' K' g js).getD (K'.getD k default).toNat default := by
  induction js with
  | nil => intro o o' _; exact ⟨fun q h => h, fun k hk => by cases hk⟩
  | cons j js ih =>
    intro o o' hl
    have hj := hK j List.mem_cons_self
    have hlj := hl j List.mem_cons_self
    obtain ⟨i1, i2⟩ := ih (fun k hk => hK k (List.mem_cons_of_mem _ hk)) (fun k hk => hf k (List.mem_cons_of_mem _ hk)) (o.set (K.getD j default).toNat (f j)) (o'.set (K'.getD j default).toNat (g j)) (fun k hk => by
      have := hl k (List.mem_cons_of_mem _ hk); rw [List.length_set, List.length_set]; exact this)
    have hfj := hf j List.mem_cons_self
    have hone : ∀ q : Nat, o.getD (b + q) default = o'.getD q default ∨ q = (K'.getD j default).toNat → (o.set (K.getD j default).toNat (f j)).getD (b + q) default = (o'.set (K'.getD j default).toNat (g j)).getD q default := by
      intro q hq
      rw [getDset, getDset]
      by_cases e : (K'.getD j default).toNat = q
      · rw [if_pos ⟨by omega, by omega⟩, if_pos ⟨e, by omega⟩, hfj]
      · rw [if_neg (by omega), if_neg (by omega)]
        rcases hq with hq | hq
        · exact hq
        · exact (e hq.symm).elim
    rw [setsD_cons, setsD_cons]
    refine ⟨fun q hq => i1 q (hone q (.inl hq)), fun k hk => ?_⟩
    rcases List.mem_cons.1 hk with rfl | hk
    · have := i1 (K'.getD k default).toNat (hone _ (.inr rfl))
      rwa [show b + (K'.getD k default).toNat = (K.getD k default).toNat by omega] at this
    · exact i2 k hk
/-- What stands behind the nodes that come yet is told. -/
theorem sd_still (l : List Sg) {E : List Nd} (hg : goodD E) (s : Int) (j : Nat) (hj : j < E.length) {q : Nat} (hq : E.length - 1 - j ≤ q) : (sdM l E (stD E E.length) s (j + 1)).getD q default = (sdM l E (stD E E.length) s j).getD q default := by
  rw [sdM, sdStep, setsD_other]
  intro k hk
  have hi : E.length - 1 - j < E.length := by omega
  have hp := hg.parts hi
  have := kids_in hg hi (p := (pD E (E.length - 1 - j)).toNat) (by omega) (List.mem_range.1 hk)
  omega
theorem sd_later (l : List Sg) {E : List Nd} (hg : goodD E) (s : Int) (j : Nat) : ∀ d, j + d ≤ E.length → ∀ q, E.length - j ≤ q + 1 → (sdM l E (stD E E.length) s (j + d)).getD q default = (sdM l E (stD E E.length) s j).getD q default
  | 0, _, _, _ => rfl
  | d + 1, hd, q, hq => by
    rw [← Nat.add_assoc, sd_still l hg s (j + d) (by omega) (by omega)]
    exact sd_later l hg s j d (by omega) q hq
structure PtInv (E : List Nd) (b a j : Nat) (o o' : List Int) : Prop where
  done : ∀ q : Nat, a + 1 - j ≤ b + q → b + q ≤ a → o.getD (b + q) default = o'.getD q default
  next : ∀ k : Nat, (k : Int) < manyD (partD E b a) (a + 1 - b - j) → o.getD (backD (stD E E.length) (a + 1 - j : Nat) k - 1).toNat default = o'.getD (backD (stD (partD E b a) (partD E b a).length) (a + 1 - b - j : Nat) k - 1).toNat default
theorem part_inv (l : List Sg) {E : List Nd} (hg : goodD E) (h1 : manyD E E.length = 1) {b a : Nat} (h : InP E b a) (s : Int) : ∀ j, b + j ≤ a + 1 → PtInv E b a j (sdM l E (stD E E.length) s (E.length - 1 - a + j)) (sdM l (partD E b a) (stD (partD E b a) (partD E b a).length) ((sidesD l E s).getD a default) j)
  | 0, _ => by
    have ha := h.ha
    have hb := h.hb
    have hP := part_good hg h
    have hl := partD_len h.ha h.hb
    refine ⟨fun q h2 h3 => by omega, fun k hk => ?_⟩
    rw [Nat.sub_zero, ← hl, hP.2] at hk
    obtain rfl : k = 0 := by omega
    have hok := sidesD_ok (l := l) hg h1 s ha
    have hs0 : side0 ((sidesD l E s).getD a default) = (sidesD l E s).getD a default := by
      unfold side0; unfold sideOk at hok; split <;> omega
    have e1 := sd_later l hg s (E.length - 1 - a) (a + 1) (by omega) a (by omega)
    rw [show E.length - 1 - a + (a + 1) = E.length by omega] at e1
    rw [Nat.add_zero, sdM, getDset, if_pos ⟨by simp only [backD]; omega, by simp only [backD, List.length_replicate]; omega⟩, hs0]
    simp only [backD]
    rw [show (((a + 1 - 0 : Nat) : Int) - 1).toNat = a by omega]
    exact e1.symm
  | j + 1, hj => by
    have ha := h.ha
    have hb := h.hb
    have ih := part_inv l hg h1 h s j (by omega)
    have hP := part_good hg h
    have hl := partD_len h.ha h.hb
    -- the node that comes now
    obtain ⟨i, hi⟩ : ∃ i, b + i = a - j := ⟨a - j - b, by omega⟩
    have hiE : E.length - 1 - (E.length - 1 - a + j) = b + i := by omega
    have hiP : (partD E b a).length - 1 - j = i := by omega
    have hps := part_shape hg h (show b + i ≤ a by omega)
    obtain ⟨p, hp⟩ : ∃ p : Nat, pD E (b + i) = p := ⟨(pD E (b + i)).toNat, by have := (hg.shape (b + i) (by omega)).1; omega⟩
    have hpp : pD (partD E b a) i = p := by rw [pD_part h.ha (by omega)]; exact hp
    have hn := ih.next
    rw [show a + 1 - b - j = i + 1 by omega, show a + 1 - j = b + i + 1 by omega] at hn
    have hm1 : manyD (partD E b a) (i + 1) = manyD (partD E b a) i - pD (partD E b a) i + 1 := rfl
    have h0 := hn 0 (by omega)
    rw [show (backD (stD E E.length) (b + i + 1 : Nat) 0 - 1).toNat = b + i by simp only [backD]; omega, show (backD (stD (partD E b a) (partD E b a).length) (i + 1 : Nat) 0 - 1).toNat = i by simp only [backD]; omega] at h0
    have hnode : (partD E b a).getD i default = E.getD (b + i) default := partD_get h.ha (by omega)
    have hlE := sdM_len l E (stD E E.length) s (E.length - 1 - a + j)
    have hlP := sdM_len l (partD E b a) (stD (partD E b a) (partD E b a).length) ((sidesD l E s).getD a default) j
    have hkE := fun k (hk : k < p) => kids_in hg (show b + i < E.length by omega) hp hk
    have hkP := fun k (hk : k < p) => kids_in hP.1 (show i < (partD E b a).length by omega) hpp hk
    have hkk := fun k (hk : k < p) => part_kids hg h (show b + i ≤ a by omega) hp hk
    have hal := setsD_alike (K := kidsD (stD E E.length) (b + i : Nat) p) (K' := kidsD (stD (partD E b a) (partD E b a).length) i p) (b := b) (js := List.range p)
      (f := fun k => turnD ((sdM l E (stD E E.length) s (E.length - 1 - a + j)).getD (b + i) default) (varyD l (ndK (E.getD (b + i) default)) (ndS (E.getD (b + i) default)) (ndN (E.getD (b + i) default)) k))
      (g := fun k => turnD ((sdM l (partD E b a) (stD (partD E b a) (partD E b a).length) ((sidesD l E s).getD a default) j).getD i default) (varyD l (ndK (E.getD (b + i) default)) (ndS (E.getD (b + i) default)) (ndN (E.getD (b + i) default)) k))
      (fun k hk => by
        have hk := List.mem_range.1 hk
        have := hkP k hk; have := hkk k hk
        omega) (fun k hk => by show turnD _ _ = turnD _ _; rw [h0]) (sdM l E (stD E E.length) s (E.length - 1 - a + j)) (sdM l (partD E b a) (stD (partD E b a) (partD E b a).length) ((sidesD l E s).getD a default) j) (fun k hk => by
        have hk := List.mem_range.1 hk
        have := hkE k hk; have := hkP k hk
        rw [hlE, hlP]; omega)
    rw [show E.length - 1 - a + (j + 1) = E.length - 1 - a + j + 1 by omega, sdM, sdM, sdStep, sdStep, hiE, hiP, hnode, hp, hpp, Int.toNat_natCast]
    refine ⟨fun q h2 h3 => hal.1 q ?_, fun k hk => ?_⟩
    · rcases Nat.lt_or_ge (b + q) (a + 1 - j) with h4 | h4
      · obtain rfl : q = i := by omega
        exact h0
      · exact ih.done q h4 h3
    · rw [show a + 1 - b - (j + 1) = i by omega] at hk ⊢
      rw [show a + 1 - (j + 1) = b + i by omega]
      rcases Nat.lt_or_ge k p with h4 | h4
      · have := hal.2 (p - 1 - k) (List.mem_range.2 (by omega))
        rw [kidsD_get _ _ _ _ (show p - 1 - k < p by omega), kidsD_get _ _ _ _ (show p - 1 - k < p by omega), show p - 1 - (p - 1 - k) = k by omega] at this
        exact this
      · have hq := hn (k - p + 1) (by omega)
        have hsE := hg.shape (b + i) (by omega)
        have hme := manyD_part h i (by omega)
        have hmb := (manyD_nonneg hg.shape b (by omega)).1
        have hmE : manyD E (b + i + 1) = manyD E (b + i) - pD E (b + i) + 1 := rfl
        have a1 := backD_in hg.shape (show b + i + 1 ≤ E.length by omega) (k - p + 1) (by omega)
        have a2 := backD_shift E (b + i) hsE.1 (wayD (hg.shape.mono (show b + i ≤ E.length by omega))) (k - p) (by omega)
        have a3 := backD_in hg.shape (show b + i ≤ E.length by omega) k (by omega)
        have c1 := backD_in hP.1.shape (show i + 1 ≤ (partD E b a).length by omega) (k - p + 1) (by omega)
        have c2 := backD_shift (partD E b a) i hps.1 (wayD (hP.1.shape.mono (show i ≤ (partD E b a).length by omega))) (k - p) (by omega)
        have c3 := backD_in hP.1.shape (show i ≤ (partD E b a).length by omega) k (by omega)
        rw [hp, Int.toNat_natCast, show p + (k - p) = k by omega] at a2
        rw [hpp, Int.toNat_natCast, show p + (k - p) = k by omega] at c2
        rw [a1, a2, ← a3, c1, c2, ← c3] at hq
        -- a root that stays: its place in both
        have w1 := part_way hg h i (by omega) k (by omega)
        have w2 := (wayD_in hP.1.shape (show i ≤ (partD E b a).length by omega)).pos k (by omega)
        have w3 := (wayD_in hP.1.shape (show i ≤ (partD E b a).length by omega)).hi k (by omega)
        have e : (backD (stD E E.length) (b + i : Nat) k - 1).toNat = b + (backD (stD (partD E b a) (partD E b a).length) i k - 1).toNat := by
          rw [a3, c3, w1] at *
          omega
        rw [e] at hq ⊢
        exact hal.1 _ hq
theorem part_sides (l : List Sg) {E : List Nd} (hg : goodD E) (h1 : manyD E E.length = 1) {b a : Nat} (h : InP E b a) (s : Int) : sidesD l (partD E b a) ((sidesD l E s).getD a default) = ((sidesD l E s).take (a + 1)).drop b := by
  have ha := h.ha
  have hb := h.hb
  have hl := partD_len h.ha h.hb
  have hlE : (sidesD l E s).length = E.length := sdM_len _ _ _ _ _
  have hlP : (sidesD l (partD E b a) ((sidesD l E s).getD a default)).length = (partD E b a).length := sdM_len _ _ _ _ _
  have hinv := part_inv l hg h1 h s (a + 1 - b) (by omega)
  apply List.ext_getElem
  · rw [hlP, hl, List.length_drop, List.length_take]; omega
  · intro q q1 q2
    rw [hlP, hl] at q1
    have hd := hinv.done q (by omega) (by omega)
    have hs := sd_later l hg s (E.length - 1 - a + (a + 1 - b)) b (by omega) (b + q) (by omega)
    rw [show E.length - 1 - a + (a + 1 - b) + b = E.length by omega] at hs
    rw [← hs] at hd
    rw [show a + 1 - b = (partD E b a).length by omega] at hd
    have gd : ∀ (L : List Int) (q : Nat) (h : q < L.length), L[q] = L.getD q default := by
      intro L q h
      rw [List.getD_eq_getElem?_getD, List.getElem?_eq_getElem h]
      rfl
    rw [gd, List.getElem_drop, List.getElem_take, gd]
    exact hd.symm
end Go.Proofs.Ytgemcogfpkolfaa.Aw

/- The abstract walk, part 42: an argument that is a text, read from the row's data. -/
set_option linter.unusedVariables false
namespace Go.Proofs.Ytgemcogfpkolfaa.Aw
open Go Go.RowKit Go.ChangeShapes Go.WideShapes
end Go.Proofs.Ytgemcogfpkolfaa.Aw

/- The abstract walk, part 43: short names for the tactics that close what is beside a step. Printed by inst.py. -/
set_option linter.unusedVariables false
namespace Go.Proofs.Ytgemcogfpkolfaa.Aw
open Go Go.RowKit
theorem Zd {p : Prop} (h : p := by (((try simp only [zn]) <;> (try simp (disch := omega) only [zz hA, zb, zy, reduceCtorEq, Bool.false_eq_true, Int.reduceLT, Int.reduceLE, Int.reduceNeg]) <;> (try simp only [zw])) <;> omega)) : p := h
theorem Zc {p : Prop} (h : p := by conv => lhs; cbv) : p := h
theorem Z1 {p : Prop} (h : p := by first | exact One.elemM hA tabOk rfl rfl rfl rfl Zd Zd | exact One.elemOwnM hA tabOk rfl rfl rfl rfl rfl Zd Zd) : p := h
theorem Z2 {p : Prop} (h : p := by first | exact One.clipM tabOk rfl rfl rfl rfl rfl Zd Zd | exact One.cut_hM hA tabOk rfl rfl rfl rfl Zd Zd | exact One.cut_lM hA tabOk rfl rfl rfl rfl Zd Zd | exact One.cut_lhM hA tabOk rfl rfl rfl rfl rfl Zd Zd Zd) : p := h
theorem Z7 {p : Prop} (h : p := by first | exact One.concatM hA rfl rfl rfl Zd) : p := h
theorem Z8 {p : Prop} (h : p := by first | exact One.eqBoolM hA tabOk rfl rfl rfl rfl rfl) : p := h
theorem Z9 {p : Prop} (h : p := by first | exact One.neBoolM hA tabOk rfl rfl rfl rfl rfl) : p := h
theorem Z10 {p : Prop} (h : p := by first | exact One.lenOwnM hA tabOk rfl rfl rfl rfl) : p := h
theorem Z11 {p : Prop} (h : p := by first | exact One.appendM hA tabOk _ rfl rfl rfl rfl rfl rfl Zd Zd | exact One.appendMM hA tabOk rfl rfl rfl rfl rfl Zd Zd | exact One.appendOwnM hA tabOk _ rfl rfl rfl rfl rfl rfl rfl Zd Zd | exact One.appendOwnMM hA tabOk rfl rfl rfl rfl rfl rfl Zd Zd | exact One.appendOwn0 hA tabOk rfl rfl rfl rfl rfl rfl Zd Zd) : p := h
theorem Z14 {p : Prop} (h : p := by first | exact One.loadRatM hA tabOk rfl rfl rfl rfl rfl rfl Zd) : p := h
theorem Z17 {p : Prop} (h : p := by first | exact One.build0 tabOk rfl rfl) : p := h
theorem Z18 {p : Prop} (h : p := by first | exact One.fieldRat tabOk rfl rfl rfl rfl (by decide) rfl rfl) : p := h
theorem ZX {p : Prop} (h : p := by first | exact One.elemM hA tabOk rfl rfl rfl rfl Zd Zd | exact One.elemOwnM hA tabOk rfl rfl rfl rfl rfl Zd Zd | exact One.cut_hM hA tabOk rfl rfl rfl rfl Zd Zd | exact One.cut_lM hA tabOk rfl rfl rfl rfl Zd Zd | exact One.cut_lhM hA tabOk rfl rfl rfl rfl rfl Zd Zd Zd | exact One.byteM hA tabOk rfl rfl rfl rfl rfl Zd Zd | exact One.quoM hA rfl rfl rfl Zd | exact One.remM hA rfl rfl rfl Zd | exact One.lenOwnM hA tabOk rfl rfl rfl rfl | exact One.loadRatM hA tabOk rfl rfl rfl rfl rfl rfl Zd | exact One.concatM hA rfl rfl rfl Zd) : p := h
theorem Ze {p : Prop} (h : p := by first | (exfalso; omega) | (refine rPV_then Zc ?_; rfl) | (refine rPV_then Zc ?_; refine congrArg (fun b => PV.c (IC.lit (Value.bool b))) ?_; ((try simp only [zn]) <;> (try simp (disch := omega) only [zz hA, zb, zy, reduceCtorEq, Bool.false_eq_true, Int.reduceLT, Int.reduceLE, Int.reduceNeg]) <;> (try simp only [zw])); done) | (refine rPV_then Zc ?_; refine congrArg (fun b => PV.c (IC.lit (Value.bool b))) ?_; ((try simp only [zn]) <;> (try simp (disch := omega) only [zz hA, zb, zy, reduceCtorEq, Bool.false_eq_true, Int.reduceLT, Int.reduceLE, Int.reduceNeg]) <;> (try simp only [zw])); omega)) : p := h
end Go.Proofs.Ytgemcogfpkolfaa.Aw


/- The abstract walk, part 44: an empty literal slice that nobody writes, as mere data. -/
set_option linter.unusedVariables false
set_option linter.unusedSimpArgs false
namespace Go.Proofs.Ytgemcogfpkolfaa.Aw
open Go Go.RowKit
theorem does_build0I {P : Program} {s : St} (t e : TypeId) (sz : Nat) (ht : (tyi P t).there = true) (hk : (tyi P t).k = .slice e) (hsz : (tyi P e).size = sz) :
    Does P s (fun ρ => do pure (.value (← Instr.buildSlice t 0 ((#[] : Array (Nat × Operand)).map fun (i, x) => (i, ρ x))))) (.ic (.sl sz true [])) s.st := fun G g w a hrel => by
  have hu := tk_slice hk
  obtain ⟨i0, hi0⟩ := info_there (there_elem ht hu)
  have hsize : i0.size = sz := by have : P.cellsOf e = sz := hsz; simpa [Program.cellsOf, hi0] using this
  have hrun : (Instr.buildSlice t 0 ((#[] : Array (Nat × Operand)).map fun (i, x) => (i, a.eval x))).run P w = .ok (.slice (some ⟨w.heap.size, 0, none⟩) 0 0) (w.alloc (.cells #[] e)) := by
    have e0 : Array.map (fun _ => (default : Value)) (Array.range 0) = #[] := by apply Array.eq_empty_of_size_eq_zero; simp
    simp [Instr.buildSlice, run_underlying hu, sizeOf, typeInfo, hi0, Instr.fill, newRow, e0]
  have hevo : Evo s.st g w s.st g (w.alloc (.cells #[] e)) := .below ⟨rfl, rfl, rfl, by simp, fun k hk => Below.heap_alloc w _ k hk⟩
  exact ⟨.value (.slice (some ⟨w.heap.size, 0, none⟩) 0 0), .slice (some ⟨w.heap.size, 0, none⟩) 0 0, g, w.alloc (.cells #[] e), by simp only [Sem.run_bind, hrun, Result.andThen_ok, Sem.run_pure], .inl rfl, hevo, hrel.sr.below ⟨rfl, rfl, rfl, by simp, fun k hk => Below.heap_alloc w _ k hk⟩, .ic _ _ (.nil sz true _ 0 (fun _ => rfl) (by simp [maxLen]))⟩
theorem One.build0I {r : Option Nat} {P : Program} {ops : Array Oper} {i : Nat} {s : St} {tab : List TI} (hT : TabOk P tab) {t e : TypeId} {j : TI} (h : opAt ops i s = some (.buildSlice t 0 #[])) (ht : slT tab t = some (e, j)) : One r P ops i s (.ic (.sl j.size true [])) s.st := by
  obtain ⟨g1, g2, rfl⟩ := slT_ok hT ht
  exact .does h rfl fun o hop => (does_build0I t e _ g1 g2 rfl).congr fun ρ => by simp only [execOp, hop]
/-- A typed row behind nothing. -/
theorem One.append0M {r : Option Nat} {P : Program} {ops : Array Oper} {i : Nat} {s : St} {tab : List TI} {A : Ar} (hA : A = real) (hT : TabOk P tab) {α : Type} {f : α → List IC} {l2 : List α} {t e : TypeId} {j : TI} {x y : Operand} {ex : Bool} {sz' : Nat} (h : opAt ops i s = some (.call { callee := .builtin .append, args := #[x, y], argTypes := #[t, t] })) (ht : slT tab t = some (e, j))
    (hj : j.zero.isSome = true) (hx : s.ev x = .ic (.sl sz' true [])) (hy : s.ev y = .ic (.sl j.size ex (A (.hid _) fun _ => List.map f l2))) (hn : l2.length * j.bytes ≤ 140737488355328) (hm : l2.length ≤ maxLen) :
    One r P ops i s (.ic (.sl j.size false (A (.hid _) fun _ => List.map f l2))) s.st := by
  have := One.append (r := r) hT h ht hj hx (.inr rfl) hy (by rw [rhid hA]; simpa using hn) (by rw [rhid hA]; simpa using hm)
  rw [List.nil_append] at this
  exact this
end Go.Proofs.Ytgemcogfpkolfaa.Aw

/- Laws SideParts, SideFirst. -/
set_option linter.unusedVariables false
set_option linter.unusedSimpArgs false
set_option linter.unusedSectionVars false
namespace Go.Proofs.Ytgemcogfpkolfaa.Aw
open Go Go.RowKit
set_option maxRecDepth 10000
attribute [local irreducible] AWp AOL QS One AOLg QSg NX QX TRg TX AllO Fin3
theorem wAt_part (l : List Sg) {E : List Nd} {b a : Nat} (h : InP E b a) {L : List Int} (hL : L.length = E.length) (i : Nat) (hi : b + i ≤ a) : wAt l (partD E b a) ((L.take (a + 1)).drop b) i = wAt l E L (b + i) := by
  have ha := h.ha
  have : ((L.take (a + 1)).drop b).getD i default = L.getD (b + i) default := by
    simp only [List.getD_eq_getElem?_getD, List.getElem?_drop, List.getElem?_take]
    rw [if_pos (by omega)]
  unfold wAt
  rw [partD_get h.ha hi, this]
/-- Where nothing may not be, nothing may not be in a part. -/
theorem check_part (l : List Sg) {E : List Nd} {b a : Nat} (h : InP E b a) {L : List Int} (hL : L.length = E.length) (hw : ∀ j, j ≤ a → wAt l E L j = 0) : checkW l (partD E b a) ((L.take (a + 1)).drop b) = 0 := by
  have hl := partD_len h.ha h.hb
  refine (check_ok fun j hj => ?_).2
  rw [hl] at hj
  rw [wAt_part l h hL j (by omega)]
  exact hw _ (by omega)
variable {A : Ar} (hA : A = real)
include hA
theorem sOf_at (l : List Sg) (E : List Nd) (s : Int) (hl : l.length ≤ 1000000) (hsz : FitG l) (hg : goodD E) (h1 : manyD E E.length = 1) (hE : E.length ≤ 1000000) {M : List Int} (hM : sidesD l E s = M) : ∀ z, z = s → PureCalls Try.prog 14 [slP A 2 (encG A) l, slP A 3 (encD A) E, UP z] (slP A 1 encU M) := by
  rintro z rfl
  subst hM
  exact sOf_c hA l E z hl hsz hg h1 hE
theorem sCheck_at (l : List Sg) (E : List Nd) (s : Int) (hl : l.length ≤ 1000000) (hsz : FitG l) (hg : goodD E) (h1 : manyD E E.length = 1) (hE : E.length ≤ 1000000) {M : List Int} (hM : sidesD l E s = M) : ∀ z, z = s → PureCalls Try.prog 12 [slP A 2 (encG A) l, slP A 3 (encD A) E, UP z] (.tup [IP (hid A (checkA l E M)), IP (hid A (checkW l E M))]) := by
  rintro z rfl
  subst hM
  exact sCheck_c hA l E z hl hsz hg h1 hE
set_option maxHeartbeats 8000000 in
theorem parts_law (l : List Sg) (E : List Nd) (s z : Int) (hsz : FitG l) (hsz2 : FitD E) : PureCalls Try.prog 5 [.agg [.sl 2 false (hid A (List.map (encG A) l)), .sl 3 false (hid A (List.map (encD A) E)), .lit (.int .u8 s), I z]] (BP true) := by
  have hsh := shown8_c hA
  have hof := of8_c hA l E hsz hsz2
  cases ho : of8M l E with
  | false =>
    rw [ho, hid_eq hA (α := Bool)] at hof
    refine PureCalls.of Try.func5 rfl (by kernel_rfl) rfl ?_
    try first | refine AOLg.of [] ?_ | refine QSg.of [] ?_
    repeat' (first | (refine AWp.pass ?_; first | refine AWp.seq ?_ | refine AWp.block ?_ | refine AWp.skip ?_ | refine AWp.regG [] Zc ?_ | refine AWp.cond_t rfl ?_ | refine AWp.cond_f rfl ?_ | (refine AWp.cond rfl ?_ ?_ <;> intro hc <;> (try rw [hc]) <;> ((try simp only [zn] at hc) <;> (try simp (disch := omega) only [zz hA, zb, zy, reduceCtorEq, Bool.false_eq_true, Int.reduceLT, Int.reduceLE, Int.reduceNeg] at hc) <;> (try simp only [zw] at hc)) <;> (try (exfalso; omega))) | refine AWp.exit ?_ | refine AWp.ret ⟨.inr rfl, _, RetOk.ev tabOk Zc, ?_⟩ | refine AWp.drawVG [] rfl (by decide +kernel) Zc ?_) | (refine AOLg.pass ?_; refine AOLg.nx hA tabOk Zc ?_; first | refine NX.done ?_ | refine NX.gt ?_ | refine NX.gf ?_ | (refine NX.gs ?_ ?_ <;> intro hc <;> rw [hc] <;> ((try simp only [zn] at hc) <;> (try simp (disch := omega) only [zz hA, zb, zy, reduceCtorEq, Bool.false_eq_true, Int.reduceLT, Int.reduceLE, Int.reduceNeg] at hc) <;> (try simp only [zw] at hc)) <;> (try (exfalso; omega))) | (refine NX.kC ?_; first | (with_reducible refine NX.call (hsh) ?_) | (with_reducible refine NX.call (hof) ?_) | ((first | refine NX.call (hsh) ?_ | refine NX.call (hof) ?_)) | fail) | (refine NX.kO ?_; (first | refine NX.callO (hsh) (by simp [allEq]) rfl ?_ | refine NX.callO (hof) (by simp [allEq]) rfl ?_)) | refine NX.k 1 (NX.one Z1 ?_) | refine NX.k 2 (NX.one Z2 ?_) | refine NX.k 7 (NX.one Z7 ?_) | refine NX.k 8 (NX.one Z8 ?_) | refine NX.k 9 (NX.one Z9 ?_) | refine NX.k 10 (NX.one Z10 ?_) | refine NX.k 11 (NX.one Z11 ?_) | refine NX.k 14 (NX.one Z14 ?_) | refine NX.k 17 (NX.one Z17 ?_) | refine NX.k 18 (NX.one Z18 ?_) | refine NX.raw ?_) | (refine TRg.pass ?_; refine TRg.nx hA tabOk Zc ?_; first | refine TX.done ?_ | refine TX.gt ?_ | refine TX.gf ?_ | (refine TX.gs ?_ ?_ <;> intro hc <;> rw [hc] <;> ((try simp only [zn] at hc) <;> (try simp (disch := omega) only [zz hA, zb, zy, reduceCtorEq, Bool.false_eq_true, Int.reduceLT, Int.reduceLE, Int.reduceNeg] at hc) <;> (try simp only [zw] at hc)) <;> (try (exfalso; omega))) | (refine TX.kC ?_; first | (with_reducible refine TX.call (hsh) ?_) | (with_reducible refine TX.call (hof) ?_) | ((first | refine TX.call (hsh) ?_ | refine TX.call (hof) ?_)) | fail) | (refine TX.kO ?_; (first | refine TX.callO (hsh) (by simp [allEq]) rfl ?_ | refine TX.callO (hof) (by simp [allEq]) rfl ?_)) | refine TX.k 1 (TX.one Z1 ?_) | refine TX.k 2 (TX.one Z2 ?_) | refine TX.k 7 (TX.one Z7 ?_) | refine TX.k 8 (TX.one Z8 ?_) | refine TX.k 9 (TX.one Z9 ?_) | refine TX.k 10 (TX.one Z10 ?_) | refine TX.k 11 (TX.one Z11 ?_) | refine TX.k 14 (TX.one Z14 ?_) | refine TX.k 17 (TX.one Z17 ?_) | refine TX.k 18 (TX.one Z18 ?_) | refine TX.raw ?_) | refine Fin3.of Zc (by repeat' (first | exact True.intro | exact rfl | refine And.intro ?_ ?_)) ?_ ?_ | (refine AllO.pass ?_; first | exact AllO.nil | (refine AllO.cons (One.ev hA tabOk ?_) ?_ <;> (first | refine AllO.pass ?_ | ((conv => lhs; cbv); done))) | (refine AllO.cons (One.skipB ?_) ?_ <;> (first | refine AllO.pass ?_ | ((conv => lhs; cbv); done))) | ((with_reducible refine AllO.call Zc (hsh) ?_ ?_) <;> (first | refine AllO.pass ?_ | exact rfl | exact Zd)) | ((with_reducible refine AllO.call Zc (hof) ?_ ?_) <;> (first | refine AllO.pass ?_ | exact rfl | exact Zd)) | refine AllO.consX ZX rfl rfl ?_) | refine Thn.exit ?_ | refine Blk.here ?_ | refine Blk.other (by decide) ?_ | refine ⟨.inl rfl, _, RetOk.ev tabOk Zc, ?_⟩ | fail)
    exact Ze
  | true =>
    rw [ho, hid_eq hA (α := Bool)] at hof
    obtain ⟨hll, hel, hg, h1, h2⟩ := of8M_st ho
    by_cases hr : 0 ≤ z ∧ z < E.length
    · obtain ⟨a, hz⟩ : ∃ a : Nat, z = a := ⟨z.toNat, by omega⟩
      have ha : a < E.length := by omega
      have hst := rStarts_c hA E (by omega) hg.shape
      have hSl := stD_len E E.length
      obtain ⟨b, hb⟩ : ∃ b : Nat, (stD E E.length).getD a default = b := ⟨((stD E E.length).getD a default).toNat, by
        rw [stD_get E ha]
        have hs := hg.shape a ha
        have := (wayD (hg.shape.mono (show a ≤ E.length by omega))).lo (pD E a).toNat (by omega)
        omega⟩
      have hin := inP hg ha hb
      have hba := hin.hb
      have hP := part_good hg hin
      have hPl := partD_len hin.ha hin.hb
      have hps := part_sides l hg h1 hin s
      have hLl : (sidesD l E s).length = E.length := sdM_len _ _ _ _ _
      have c1 := sOf_c hA l E s (by omega) hsz hg h1 (by omega)
      have c2 := sOf_at hA l (partD E b a) ((sidesD l E s).getD a default) (by omega) hsz hP.1 hP.2 (by omega) hps
      have c3 := sCheck_c hA l E s (by omega) hsz hg h1 (by omega)
      have c4 := sCheck_at hA l (partD E b a) ((sidesD l E s).getD a default) (by omega) hsz hP.1 hP.2 (by omega) hps
      have hcw : checkW l E (sidesD l E s) = 0 → checkW l (partD E b a) (((sidesD l E s).take (a + 1)).drop b) = 0 := fun h => by
        rcases check_cases l E (sidesD l E s) with ⟨_, _, h3⟩ | ⟨n, hn, e1, e2, e3, h3⟩
        · exact check_part l hin hLl fun j hj => h3 j (by omega)
        · omega
      have hzt : z.toNat = a := by omega
      have hbz : (stD E E.length).getD z.toNat default = b := by rw [hzt]; exact hb
      have hPd : (E.take (a + 1)).drop b = partD E b a := rfl
      generalize stD E E.length = S at *
      generalize hMd : ((sidesD l E s).take (a + 1)).drop b = M at *
      generalize checkA l E (sidesD l E s) = ca at *
      generalize checkW l E (sidesD l E s) = cw at *
      generalize checkA l (partD E b a) M = cb at *
      generalize checkW l (partD E b a) M = cv at *
      generalize sidesD l E s = L at *
      generalize partD E b a = P at *
      refine PureCalls.of Try.func5 rfl (by kernel_rfl) rfl ?_
      have e1 : A .add .i64 z 1 = z + 1 := by exact Zd
      have e2 : (z + 1).toNat = a + 1 := by omega
      have hrow : hid A (List.map (encD A) (List.drop (hid A (S.getD z.toNat default)).toNat (List.take (A .add .i64 z 1).toNat E))) = hid A (List.map (encD A) P) := by
        simp only [hid_eq hA, e1, hbz, e2, Int.toNat_natCast, hPd]
      have hrow2 : hid A (List.map encU (List.drop (hid A (S.getD z.toNat default)).toNat (List.take (A .add .i64 z 1).toNat L))) = hid A (List.map encU M) := by
        simp only [hid_eq hA, e1, hbz, e2, Int.toNat_natCast, hMd]
      try first | refine AOLg.of [] ?_ | refine QSg.of [] ?_
      repeat' (first | (refine AWp.pass ?_; first | refine AWp.seq ?_ | refine AWp.block ?_ | refine AWp.skip ?_ | refine AWp.regG [] Zc ?_ | refine AWp.cond_t rfl ?_ | refine AWp.cond_f rfl ?_ | (refine AWp.cond rfl ?_ ?_ <;> intro hc <;> (try rw [hc]) <;> ((try simp only [zn] at hc) <;> (try simp (disch := omega) only [zz hA, zb, zy, reduceCtorEq, Bool.false_eq_true, Int.reduceLT, Int.reduceLE, Int.reduceNeg] at hc) <;> (try simp only [zw] at hc)) <;> (try (exfalso; omega))) | refine AWp.exit ?_ | refine AWp.ret ⟨.inr rfl, _, RetOk.ev tabOk Zc, ?_⟩ | refine AWp.drawVG [] rfl (by decide +kernel) Zc ?_) | (refine AOLg.pass ?_; refine AOLg.nx hA tabOk Zc ?_; first | refine NX.done ?_ | refine NX.gt ?_ | refine NX.gf ?_ | (refine NX.gs ?_ ?_ <;> intro hc <;> rw [hc] <;> ((try simp only [zn] at hc) <;> (try simp (disch := omega) only [zz hA, zb, zy, reduceCtorEq, Bool.false_eq_true, Int.reduceLT, Int.reduceLE, Int.reduceNeg] at hc) <;> (try simp only [zw] at hc)) <;> (try (exfalso; omega))) | (refine NX.kC ?_; first | (with_reducible refine NX.call (hsh) ?_) | (with_reducible refine NX.call (hof) ?_) | (with_reducible refine NX.call (c1) ?_) | (with_reducible refine NX.call (hst) ?_) | ((first | refine NX.call (hsh) ?_ | refine NX.call (hof) ?_ | refine NX.call (c1) ?_ | refine NX.call (hst) ?_)) | fail) | (refine NX.kO ?_; (first | refine NX.callO (hsh) (by simp [allEq]) rfl ?_ | refine NX.callO (hof) (by simp [allEq]) rfl ?_ | refine NX.callO (c1) (by simp [allEq]) rfl ?_ | refine NX.callO (hst) (by simp [allEq]) rfl ?_)) | refine NX.k 1 (NX.one Z1 ?_) | refine NX.k 2 (NX.one Z2 ?_) | refine NX.k 7 (NX.one Z7 ?_) | refine NX.k 8 (NX.one Z8 ?_) | refine NX.k 9 (NX.one Z9 ?_) | refine NX.k 10 (NX.one Z10 ?_) | refine NX.k 11 (NX.one Z11 ?_) | refine NX.k 14 (NX.one Z14 ?_) | refine NX.k 17 (NX.one Z17 ?_) | refine NX.k 18 (NX.one Z18 ?_) | refine NX.raw ?_) | (refine TRg.pass ?_; refine TRg.nx hA tabOk Zc ?_; first | refine TX.done ?_ | refine TX.gt ?_ | refine TX.gf ?_ | (refine TX.gs ?_ ?_ <;> intro hc <;> rw [hc] <;> ((try simp only [zn] at hc) <;> (try simp (disch := omega) only [zz hA, zb, zy, reduceCtorEq, Bool.false_eq_true, Int.reduceLT, Int.reduceLE, Int.reduceNeg] at hc) <;> (try simp only [zw] at hc)) <;> (try (exfalso; omega))) | (refine TX.kC ?_; first | (with_reducible refine TX.call (hsh) ?_) | (with_reducible refine TX.call (hof) ?_) | (with_reducible refine TX.call (c1) ?_) | (with_reducible refine TX.call (hst) ?_) | ((first | refine TX.call (hsh) ?_ | refine TX.call (hof) ?_ | refine TX.call (c1) ?_ | refine TX.call (hst) ?_)) | fail) | (refine TX.kO ?_; (first | refine TX.callO (hsh) (by simp [allEq]) rfl ?_ | refine TX.callO (hof) (by simp [allEq]) rfl ?_ | refine TX.callO (c1) (by simp [allEq]) rfl ?_ | refine TX.callO (hst) (by simp [allEq]) rfl ?_)) | refine TX.k 1 (TX.one Z1 ?_) | refine TX.k 2 (TX.one Z2 ?_) | refine TX.k 7 (TX.one Z7 ?_) | refine TX.k 8 (TX.one Z8 ?_) | refine TX.k 9 (TX.one Z9 ?_) | refine TX.k 10 (TX.one Z10 ?_) | refine TX.k 11 (TX.one Z11 ?_) | refine TX.k 14 (TX.one Z14 ?_) | refine TX.k 17 (TX.one Z17 ?_) | refine TX.k 18 (TX.one Z18 ?_) | refine TX.raw ?_) | refine Fin3.of Zc (by repeat' (first | exact True.intro | exact rfl | refine And.intro ?_ ?_)) ?_ ?_ | (refine AllO.pass ?_; first | exact AllO.nil | (refine AllO.cons (One.ev hA tabOk ?_) ?_ <;> (first | refine AllO.pass ?_ | ((conv => lhs; cbv); done))) | (refine AllO.cons (One.skipB ?_) ?_ <;> (first | refine AllO.pass ?_ | ((conv => lhs; cbv); done))) | ((with_reducible refine AllO.call Zc (hsh) ?_ ?_) <;> (first | refine AllO.pass ?_ | exact rfl | exact Zd)) | ((with_reducible refine AllO.call Zc (hof) ?_ ?_) <;> (first | refine AllO.pass ?_ | exact rfl | exact Zd)) | ((with_reducible refine AllO.call Zc (c1) ?_ ?_) <;> (first | refine AllO.pass ?_ | exact rfl | exact Zd)) | ((with_reducible refine AllO.call Zc (hst) ?_ ?_) <;> (first | refine AllO.pass ?_ | exact rfl | exact Zd)) | refine AllO.consX ZX rfl rfl ?_) | refine Thn.exit ?_ | refine Blk.here ?_ | refine Blk.other (by decide) ?_ | refine ⟨.inl rfl, _, RetOk.ev tabOk Zc, ?_⟩ | fail)
      simp only [hrow]
      refine AOL.freeze 1 1 38 3 true _ rfl ?_
      refine AOL.norm (by conv => lhs; cbv) ?_
      try first | refine AOLg.of [] ?_ | refine QSg.of [] ?_
      repeat' (first | (refine AWp.pass ?_; first | refine AWp.seq ?_ | refine AWp.block ?_ | refine AWp.skip ?_ | refine AWp.regG [] Zc ?_ | refine AWp.cond_t rfl ?_ | refine AWp.cond_f rfl ?_ | (refine AWp.cond rfl ?_ ?_ <;> intro hc <;> (try rw [hc]) <;> ((try simp only [zn] at hc) <;> (try simp (disch := omega) only [zz hA, zb, zy, reduceCtorEq, Bool.false_eq_true, Int.reduceLT, Int.reduceLE, Int.reduceNeg] at hc) <;> (try simp only [zw] at hc)) <;> (try (exfalso; omega))) | refine AWp.exit ?_ | refine AWp.ret ⟨.inr rfl, _, RetOk.ev tabOk Zc, ?_⟩ | refine AWp.drawVG [] rfl (by decide +kernel) Zc ?_) | (refine AOLg.pass ?_; refine AOLg.nx hA tabOk Zc ?_; first | refine NX.done ?_ | refine NX.gt ?_ | refine NX.gf ?_ | (refine NX.gs ?_ ?_ <;> intro hc <;> rw [hc] <;> ((try simp only [zn] at hc) <;> (try simp (disch := omega) only [zz hA, zb, zy, reduceCtorEq, Bool.false_eq_true, Int.reduceLT, Int.reduceLE, Int.reduceNeg] at hc) <;> (try simp only [zw] at hc)) <;> (try (exfalso; omega))) | (refine NX.kC ?_; first | (with_reducible refine NX.call (c2 _ (by simp only [hid_eq hA, hzt])) ?_) | (with_reducible refine NX.call (c3) ?_) | (with_reducible refine NX.call (c4 _ (by simp only [hid_eq hA, hzt])) ?_) | ((first | refine NX.call (c2 _ (by simp only [hid_eq hA, hzt])) ?_ | refine NX.call (c3) ?_ | refine NX.call (c4 _ (by simp only [hid_eq hA, hzt])) ?_)) | fail) | (refine NX.kO ?_; (first | refine NX.callO (c2 _ (by simp only [hid_eq hA, hzt])) (by simp [allEq]) rfl ?_ | refine NX.callO (c3) (by simp [allEq]) rfl ?_ | refine NX.callO (c4 _ (by simp only [hid_eq hA, hzt])) (by simp [allEq]) rfl ?_)) | refine NX.k 1 (NX.one Z1 ?_) | refine NX.k 2 (NX.one Z2 ?_) | refine NX.k 7 (NX.one Z7 ?_) | refine NX.k 8 (NX.one Z8 ?_) | refine NX.k 9 (NX.one Z9 ?_) | refine NX.k 10 (NX.one Z10 ?_) | refine NX.k 11 (NX.one Z11 ?_) | refine NX.k 14 (NX.one Z14 ?_) | refine NX.k 17 (NX.one Z17 ?_) | refine NX.k 18 (NX.one Z18 ?_) | (refine NX.one (One.bytesM (l := M) hA tabOk rfl rfl rfl rfl rfl rfl rfl) ?_) | (refine NX.one (One.bytesM (l := M) hA tabOk rfl rfl rfl rfl rfl rfl hrow2) ?_) | refine NX.raw ?_) | (refine TRg.pass ?_; refine TRg.nx hA tabOk Zc ?_; first | refine TX.done ?_ | refine TX.gt ?_ | refine TX.gf ?_ | (refine TX.gs ?_ ?_ <;> intro hc <;> rw [hc] <;> ((try simp only [zn] at hc) <;> (try simp (disch := omega) only [zz hA, zb, zy, reduceCtorEq, Bool.false_eq_true, Int.reduceLT, Int.reduceLE, Int.reduceNeg] at hc) <;> (try simp only [zw] at hc)) <;> (try (exfalso; omega))) | (refine TX.kC ?_; first | (with_reducible refine TX.call (c2 _ (by simp only [hid_eq hA, hzt])) ?_) | (with_reducible refine TX.call (c3) ?_) | (with_reducible refine TX.call (c4 _ (by simp only [hid_eq hA, hzt])) ?_) | ((first | refine TX.call (c2 _ (by simp only [hid_eq hA, hzt])) ?_ | refine TX.call (c3) ?_ | refine TX.call (c4 _ (by simp only [hid_eq hA, hzt])) ?_)) | fail) | (refine TX.kO ?_; (first | refine TX.callO (c2 _ (by simp only [hid_eq hA, hzt])) (by simp [allEq]) rfl ?_ | refine TX.callO (c3) (by simp [allEq]) rfl ?_ | refine TX.callO (c4 _ (by simp only [hid_eq hA, hzt])) (by simp [allEq]) rfl ?_)) | refine TX.k 1 (TX.one Z1 ?_) | refine TX.k 2 (TX.one Z2 ?_) | refine TX.k 7 (TX.one Z7 ?_) | refine TX.k 8 (TX.one Z8 ?_) | refine TX.k 9 (TX.one Z9 ?_) | refine TX.k 10 (TX.one Z10 ?_) | refine TX.k 11 (TX.one Z11 ?_) | refine TX.k 14 (TX.one Z14 ?_) | refine TX.k 17 (TX.one Z17 ?_) | refine TX.k 18 (TX.one Z18 ?_) | (refine TX.one (One.bytesM (l := M) hA tabOk rfl rfl rfl rfl rfl rfl rfl) ?_) | (refine TX.one (One.bytesM (l := M) hA tabOk rfl rfl rfl rfl rfl rfl hrow2) ?_) | refine TX.raw ?_) | refine Fin3.of Zc (by repeat' (first | exact True.intro | exact rfl | refine And.intro ?_ ?_)) ?_ ?_ | (refine AllO.pass ?_; first | exact AllO.nil | (refine AllO.cons (One.ev hA tabOk ?_) ?_ <;> (first | refine AllO.pass ?_ | ((conv => lhs; cbv); done))) | (refine AllO.cons (One.skipB ?_) ?_ <;> (first | refine AllO.pass ?_ | ((conv => lhs; cbv); done))) | ((with_reducible refine AllO.call Zc (c2 _ (by simp only [hid_eq hA, hzt])) ?_ ?_) <;> (first | refine AllO.pass ?_ | exact rfl | exact Zd)) | ((with_reducible refine AllO.call Zc (c3) ?_ ?_) <;> (first | refine AllO.pass ?_ | exact rfl | exact Zd)) | ((with_reducible refine AllO.call Zc (c4 _ (by simp only [hid_eq hA, hzt])) ?_ ?_) <;> (first | refine AllO.pass ?_ | exact rfl | exact Zd)) | refine AllO.consX ZX rfl rfl ?_ | ((refine AllO.consX (One.bytesM (l := M) hA tabOk rfl rfl rfl rfl rfl rfl rfl) rfl rfl ?_) <;> (first | refine AllO.pass ?_ | exact Zd)) | ((refine AllO.consX (One.bytesM (l := M) hA tabOk rfl rfl rfl rfl rfl rfl hrow2) rfl rfl ?_) <;> (first | refine AllO.pass ?_ | exact Zd))) | refine Thn.exit ?_ | refine Blk.here ?_ | refine Blk.other (by decide) ?_ | refine ⟨.inl rfl, _, RetOk.ev tabOk Zc, ?_⟩ | fail)
      all_goals exact Ze
    · refine PureCalls.of Try.func5 rfl (by kernel_rfl) rfl ?_
      try first | refine AOLg.of [] ?_ | refine QSg.of [] ?_
      repeat' (first | (refine AWp.pass ?_; first | refine AWp.seq ?_ | refine AWp.block ?_ | refine AWp.skip ?_ | refine AWp.regG [] Zc ?_ | refine AWp.cond_t rfl ?_ | refine AWp.cond_f rfl ?_ | (refine AWp.cond rfl ?_ ?_ <;> intro hc <;> (try rw [hc]) <;> ((try simp only [zn] at hc) <;> (try simp (disch := omega) only [zz hA, zb, zy, reduceCtorEq, Bool.false_eq_true, Int.reduceLT, Int.reduceLE, Int.reduceNeg] at hc) <;> (try simp only [zw] at hc)) <;> (try (exfalso; omega))) | refine AWp.exit ?_ | refine AWp.ret ⟨.inr rfl, _, RetOk.ev tabOk Zc, ?_⟩ | refine AWp.drawVG [] rfl (by decide +kernel) Zc ?_) | (refine AOLg.pass ?_; refine AOLg.nx hA tabOk Zc ?_; first | refine NX.done ?_ | refine NX.gt ?_ | refine NX.gf ?_ | (refine NX.gs ?_ ?_ <;> intro hc <;> rw [hc] <;> ((try simp only [zn] at hc) <;> (try simp (disch := omega) only [zz hA, zb, zy, reduceCtorEq, Bool.false_eq_true, Int.reduceLT, Int.reduceLE, Int.reduceNeg] at hc) <;> (try simp only [zw] at hc)) <;> (try (exfalso; omega))) | (refine NX.kC ?_; first | (with_reducible refine NX.call (hsh) ?_) | (with_reducible refine NX.call (hof) ?_) | ((first | refine NX.call (hsh) ?_ | refine NX.call (hof) ?_)) | fail) | (refine NX.kO ?_; (first | refine NX.callO (hsh) (by simp [allEq]) rfl ?_ | refine NX.callO (hof) (by simp [allEq]) rfl ?_)) | refine NX.k 1 (NX.one Z1 ?_) | refine NX.k 2 (NX.one Z2 ?_) | refine NX.k 7 (NX.one Z7 ?_) | refine NX.k 8 (NX.one Z8 ?_) | refine NX.k 9 (NX.one Z9 ?_) | refine NX.k 10 (NX.one Z10 ?_) | refine NX.k 11 (NX.one Z11 ?_) | refine NX.k 14 (NX.one Z14 ?_) | refine NX.k 17 (NX.one Z17 ?_) | refine NX.k 18 (NX.one Z18 ?_) | refine NX.raw ?_) | (refine TRg.pass ?_; refine TRg.nx hA tabOk Zc ?_; first | refine TX.done ?_ | refine TX.gt ?_ | refine TX.gf ?_ | (refine TX.gs ?_ ?_ <;> intro hc <;> rw [hc] <;> ((try simp only [zn] at hc) <;> (try simp (disch := omega) only [zz hA, zb, zy, reduceCtorEq, Bool.false_eq_true, Int.reduceLT, Int.reduceLE, Int.reduceNeg] at hc) <;> (try simp only [zw] at hc)) <;> (try (exfalso; omega))) | (refine TX.kC ?_; first | (with_reducible refine TX.call (hsh) ?_) | (with_reducible refine TX.call (hof) ?_) | ((first | refine TX.call (hsh) ?_ | refine TX.call (hof) ?_)) | fail) | (refine TX.kO ?_; (first | refine TX.callO (hsh) (by simp [allEq]) rfl ?_ | refine TX.callO (hof) (by simp [allEq]) rfl ?_)) | refine TX.k 1 (TX.one Z1 ?_) | refine TX.k 2 (TX.one Z2 ?_) | refine TX.k 7 (TX.one Z7 ?_) | refine TX.k 8 (TX.one Z8 ?_) | refine TX.k 9 (TX.one Z9 ?_) | refine TX.k 10 (TX.one Z10 ?_) | refine TX.k 11 (TX.one Z11 ?_) | refine TX.k 14 (TX.one Z14 ?_) | refine TX.k 17 (TX.one Z17 ?_) | refine TX.k 18 (TX.one Z18 ?_) | refine TX.raw ?_) | refine Fin3.of Zc (by repeat' (first | exact True.intro | exact rfl | refine And.intro ?_ ?_)) ?_ ?_ | (refine AllO.pass ?_; first | exact AllO.nil | (refine AllO.cons (One.ev hA tabOk ?_) ?_ <;> (first | refine AllO.pass ?_ | ((conv => lhs; cbv); done))) | (refine AllO.cons (One.skipB ?_) ?_ <;> (first | refine AllO.pass ?_ | ((conv => lhs; cbv); done))) | ((with_reducible refine AllO.call Zc (hsh) ?_ ?_) <;> (first | refine AllO.pass ?_ | exact rfl | exact Zd)) | ((with_reducible refine AllO.call Zc (hof) ?_ ?_) <;> (first | refine AllO.pass ?_ | exact rfl | exact Zd)) | refine AllO.consX ZX rfl rfl ?_) | refine Thn.exit ?_ | refine Blk.here ?_ | refine Blk.other (by decide) ?_ | refine ⟨.inl rfl, _, RetOk.ev tabOk Zc, ?_⟩ | fail)
      all_goals exact Ze
set_option maxHeartbeats 8000000 in
theorem first_law (l : List Sg) (E : List Nd) (s z : Int) (hsz : FitG l) (hsz2 : FitD E) : PureCalls Try.prog 8 [.agg [.sl 2 false (hid A (List.map (encG A) l)), .sl 3 false (hid A (List.map (encD A) E)), .lit (.int .u8 s), I z]] (BP true) := by
  have hsh := shown8_c hA
  have hof := of8_c hA l E hsz hsz2
  cases ho : of8M l E with
  | false =>
    rw [ho, hid_eq hA (α := Bool)] at hof
    refine PureCalls.of Try.func8 rfl (by kernel_rfl) rfl ?_
    try first | refine AOLg.of [] ?_ | refine QSg.of [] ?_
    repeat' (first | (refine AWp.pass ?_; first | refine AWp.seq ?_ | refine AWp.block ?_ | refine AWp.skip ?_ | refine AWp.regG [] Zc ?_ | refine AWp.cond_t rfl ?_ | refine AWp.cond_f rfl ?_ | (refine AWp.cond rfl ?_ ?_ <;> intro hc <;> (try rw [hc]) <;> ((try simp only [zn] at hc) <;> (try simp (disch := omega) only [zz hA, zb, zy, reduceCtorEq, Bool.false_eq_true, Int.reduceLT, Int.reduceLE, Int.reduceNeg] at hc) <;> (try simp only [zw] at hc)) <;> (try (exfalso; omega))) | refine AWp.exit ?_ | refine AWp.ret ⟨.inr rfl, _, RetOk.ev tabOk Zc, ?_⟩ | refine AWp.drawVG [] rfl (by decide +kernel) Zc ?_) | (refine AOLg.pass ?_; refine AOLg.nx hA tabOk Zc ?_; first | refine NX.done ?_ | refine NX.gt ?_ | refine NX.gf ?_ | (refine NX.gs ?_ ?_ <;> intro hc <;> rw [hc] <;> ((try simp only [zn] at hc) <;> (try simp (disch := omega) only [zz hA, zb, zy, reduceCtorEq, Bool.false_eq_true, Int.reduceLT, Int.reduceLE, Int.reduceNeg] at hc) <;> (try simp only [zw] at hc)) <;> (try (exfalso; omega))) | (refine NX.kC ?_; first | (with_reducible refine NX.call (hsh) ?_) | (with_reducible refine NX.call (hof) ?_) | ((first | refine NX.call (hsh) ?_ | refine NX.call (hof) ?_)) | fail) | (refine NX.kO ?_; (first | refine NX.callO (hsh) (by simp [allEq]) rfl ?_ | refine NX.callO (hof) (by simp [allEq]) rfl ?_)) | refine NX.k 1 (NX.one Z1 ?_) | refine NX.k 2 (NX.one Z2 ?_) | refine NX.k 7 (NX.one Z7 ?_) | refine NX.k 8 (NX.one Z8 ?_) | refine NX.k 9 (NX.one Z9 ?_) | refine NX.k 10 (NX.one Z10 ?_) | refine NX.k 11 (NX.one Z11 ?_) | refine NX.k 14 (NX.one Z14 ?_) | refine NX.k 17 (NX.one Z17 ?_) | refine NX.k 18 (NX.one Z18 ?_) | refine NX.raw ?_) | (refine TRg.pass ?_; refine TRg.nx hA tabOk Zc ?_; first | refine TX.done ?_ | refine TX.gt ?_ | refine TX.gf ?_ | (refine TX.gs ?_ ?_ <;> intro hc <;> rw [hc] <;> ((try simp only [zn] at hc) <;> (try simp (disch := omega) only [zz hA, zb, zy, reduceCtorEq, Bool.false_eq_true, Int.reduceLT, Int.reduceLE, Int.reduceNeg] at hc) <;> (try simp only [zw] at hc)) <;> (try (exfalso; omega))) | (refine TX.kC ?_; first | (with_reducible refine TX.call (hsh) ?_) | (with_reducible refine TX.call (hof) ?_) | ((first | refine TX.call (hsh) ?_ | refine TX.call (hof) ?_)) | fail) | (refine TX.kO ?_; (first | refine TX.callO (hsh) (by simp [allEq]) rfl ?_ | refine TX.callO (hof) (by simp [allEq]) rfl ?_)) | refine TX.k 1 (TX.one Z1 ?_) | refine TX.k 2 (TX.one Z2 ?_) | refine TX.k 7 (TX.one Z7 ?_) | refine TX.k 8 (TX.one Z8 ?_) | refine TX.k 9 (TX.one Z9 ?_) | refine TX.k 10 (TX.one Z10 ?_) | refine TX.k 11 (TX.one Z11 ?_) | refine TX.k 14 (TX.one Z14 ?_) | refine TX.k 17 (TX.one Z17 ?_) | refine TX.k 18 (TX.one Z18 ?_) | refine TX.raw ?_) | refine Fin3.of Zc (by repeat' (first | exact True.intro | exact rfl | refine And.intro ?_ ?_)) ?_ ?_ | (refine AllO.pass ?_; first | exact AllO.nil | (refine AllO.cons (One.ev hA tabOk ?_) ?_ <;> (first | refine AllO.pass ?_ | ((conv => lhs; cbv); done))) | (refine AllO.cons (One.skipB ?_) ?_ <;> (first | refine AllO.pass ?_ | ((conv => lhs; cbv); done))) | ((with_reducible refine AllO.call Zc (hsh) ?_ ?_) <;> (first | refine AllO.pass ?_ | exact rfl | exact Zd)) | ((with_reducible refine AllO.call Zc (hof) ?_ ?_) <;> (first | refine AllO.pass ?_ | exact rfl | exact Zd)) | refine AllO.consX ZX rfl rfl ?_) | refine Thn.exit ?_ | refine Blk.here ?_ | refine Blk.other (by decide) ?_ | refine ⟨.inl rfl, _, RetOk.ev tabOk Zc, ?_⟩ | fail)
    exact Ze
  | true =>
    rw [ho, hid_eq hA (α := Bool)] at hof
    obtain ⟨hll, hel, hg, h1, h2⟩ := of8M_st ho
    have c1 := sOf_c hA l E s (by omega) hsz hg h1 (by omega)
    have c3 := sCheck_c hA l E s (by omega) hsz hg h1 (by omega)
    have hLl : (sidesD l E s).length = E.length := sdM_len _ _ _ _ _
    rcases check_cases l E (sidesD l E s) with ⟨e1, e2, h3⟩ | ⟨n, hn, e1, e2, e3, h3⟩
    · rw [e1, e2] at c3
      simp only [hid_eq hA (α := Int)] at c3
      clear h3 e1 e2
      generalize sidesD l E s = L at *
      refine PureCalls.of Try.func8 rfl (by kernel_rfl) rfl ?_
      try first | refine AOLg.of [] ?_ | refine QSg.of [] ?_
      repeat' (first | (refine AWp.pass ?_; first | refine AWp.seq ?_ | refine AWp.block ?_ | refine AWp.skip ?_ | refine AWp.regG [] Zc ?_ | refine AWp.cond_t rfl ?_ | refine AWp.cond_f rfl ?_ | (refine AWp.cond rfl ?_ ?_ <;> intro hc <;> (try rw [hc]) <;> ((try simp only [zn] at hc) <;> (try simp (disch := omega) only [zz hA, zb, zy, reduceCtorEq, Bool.false_eq_true, Int.reduceLT, Int.reduceLE, Int.reduceNeg] at hc) <;> (try simp only [zw] at hc)) <;> (try (exfalso; omega))) | refine AWp.exit ?_ | refine AWp.ret ⟨.inr rfl, _, RetOk.ev tabOk Zc, ?_⟩ | refine AWp.drawVG [] rfl (by decide +kernel) Zc ?_) | (refine AOLg.pass ?_; refine AOLg.nx hA tabOk Zc ?_; first | refine NX.done ?_ | refine NX.gt ?_ | refine NX.gf ?_ | (refine NX.gs ?_ ?_ <;> intro hc <;> rw [hc] <;> ((try simp only [zn] at hc) <;> (try simp (disch := omega) only [zz hA, zb, zy, reduceCtorEq, Bool.false_eq_true, Int.reduceLT, Int.reduceLE, Int.reduceNeg] at hc) <;> (try simp only [zw] at hc)) <;> (try (exfalso; omega))) | (refine NX.kC ?_; first | (with_reducible refine NX.call (hsh) ?_) | (with_reducible refine NX.call (hof) ?_) | (with_reducible refine NX.call (c1) ?_) | (with_reducible refine NX.call (c3) ?_) | ((first | refine NX.call (hsh) ?_ | refine NX.call (hof) ?_ | refine NX.call (c1) ?_ | refine NX.call (c3) ?_)) | fail) | (refine NX.kO ?_; (first | refine NX.callO (hsh) (by simp [allEq]) rfl ?_ | refine NX.callO (hof) (by simp [allEq]) rfl ?_ | refine NX.callO (c1) (by simp [allEq]) rfl ?_ | refine NX.callO (c3) (by simp [allEq]) rfl ?_)) | refine NX.k 1 (NX.one Z1 ?_) | refine NX.k 2 (NX.one Z2 ?_) | refine NX.k 7 (NX.one Z7 ?_) | refine NX.k 8 (NX.one Z8 ?_) | refine NX.k 9 (NX.one Z9 ?_) | refine NX.k 10 (NX.one Z10 ?_) | refine NX.k 11 (NX.one Z11 ?_) | refine NX.k 14 (NX.one Z14 ?_) | refine NX.k 17 (NX.one Z17 ?_) | refine NX.k 18 (NX.one Z18 ?_) | refine NX.raw ?_) | (refine TRg.pass ?_; refine TRg.nx hA tabOk Zc ?_; first | refine TX.done ?_ | refine TX.gt ?_ | refine TX.gf ?_ | (refine TX.gs ?_ ?_ <;> intro hc <;> rw [hc] <;> ((try simp only [zn] at hc) <;> (try simp (disch := omega) only [zz hA, zb, zy, reduceCtorEq, Bool.false_eq_true, Int.reduceLT, Int.reduceLE, Int.reduceNeg] at hc) <;> (try simp only [zw] at hc)) <;> (try (exfalso; omega))) | (refine TX.kC ?_; first | (with_reducible refine TX.call (hsh) ?_) | (with_reducible refine TX.call (hof) ?_) | (with_reducible refine TX.call (c1) ?_) | (with_reducible refine TX.call (c3) ?_) | ((first | refine TX.call (hsh) ?_ | refine TX.call (hof) ?_ | refine TX.call (c1) ?_ | refine TX.call (c3) ?_)) | fail) | (refine TX.kO ?_; (first | refine TX.callO (hsh) (by simp [allEq]) rfl ?_ | refine TX.callO (hof) (by simp [allEq]) rfl ?_ | refine TX.callO (c1) (by simp [allEq]) rfl ?_ | refine TX.callO (c3) (by simp [allEq]) rfl ?_)) | refine TX.k 1 (TX.one Z1 ?_) | refine TX.k 2 (TX.one Z2 ?_) | refine TX.k 7 (TX.one Z7 ?_) | refine TX.k 8 (TX.one Z8 ?_) | refine TX.k 9 (TX.one Z9 ?_) | refine TX.k 10 (TX.one Z10 ?_) | refine TX.k 11 (TX.one Z11 ?_) | refine TX.k 14 (TX.one Z14 ?_) | refine TX.k 17 (TX.one Z17 ?_) | refine TX.k 18 (TX.one Z18 ?_) | refine TX.raw ?_) | refine Fin3.of Zc (by repeat' (first | exact True.intro | exact rfl | refine And.intro ?_ ?_)) ?_ ?_ | (refine AllO.pass ?_; first | exact AllO.nil | (refine AllO.cons (One.ev hA tabOk ?_) ?_ <;> (first | refine AllO.pass ?_ | ((conv => lhs; cbv); done))) | (refine AllO.cons (One.skipB ?_) ?_ <;> (first | refine AllO.pass ?_ | ((conv => lhs; cbv); done))) | ((with_reducible refine AllO.call Zc (hsh) ?_ ?_) <;> (first | refine AllO.pass ?_ | exact rfl | exact Zd)) | ((with_reducible refine AllO.call Zc (hof) ?_ ?_) <;> (first | refine AllO.pass ?_ | exact rfl | exact Zd)) | ((with_reducible refine AllO.call Zc (c1) ?_ ?_) <;> (first | refine AllO.pass ?_ | exact rfl | exact Zd)) | ((with_reducible refine AllO.call Zc (c3) ?_ ?_) <;> (first | refine AllO.pass ?_ | exact rfl | exact Zd)) | refine AllO.consX ZX rfl rfl ?_) | refine Thn.exit ?_ | refine Blk.here ?_ | refine Blk.other (by decide) ?_ | refine ⟨.inl rfl, _, RetOk.ev tabOk Zc, ?_⟩ | fail)
      all_goals exact Ze
    · rw [e2] at c3
      by_cases hr : 0 ≤ z ∧ z < n
      · obtain ⟨a, hz⟩ : ∃ a : Nat, z = a := ⟨z.toNat, by omega⟩
        have ha : a < E.length := by omega
        have hst := rStarts_c hA E (by omega) hg.shape
        have hSl := stD_len E E.length
        obtain ⟨b, hb⟩ : ∃ b : Nat, (stD E E.length).getD a default = b := ⟨((stD E E.length).getD a default).toNat, by
          rw [stD_get E ha]
          have hs := hg.shape a ha
          have := (wayD (hg.shape.mono (show a ≤ E.length by omega))).lo (pD E a).toNat (by omega)
          omega⟩
        have hin := inP hg ha hb
        have hba := hin.hb
        have hP := part_good hg hin
        have hPl := partD_len hin.ha hin.hb
        have hps := part_sides l hg h1 hin s
        have c4 := sCheck_at hA l (partD E b a) ((sidesD l E s).getD a default) (by omega) hsz hP.1 hP.2 (by omega) hps
        have hcv : checkW l (partD E b a) (((sidesD l E s).take (a + 1)).drop b) = 0 := check_part l hin hLl fun j hj => h3 j (by omega)
        have hzt : z.toNat = a := by omega
        have hbz : (stD E E.length).getD z.toNat default = b := by rw [hzt]; exact hb
        have hPd : (E.take (a + 1)).drop b = partD E b a := rfl
        rw [hcv] at c4
        generalize stD E E.length = S at *
        generalize wAt l E (sidesD l E s) n = cw at *
        generalize hca : checkA l E (sidesD l E s) = ca at *
        generalize checkA l (partD E b a) (((sidesD l E s).take (a + 1)).drop b) = cb at *
        clear h3
        generalize sidesD l E s = L at *
        generalize partD E b a = P at *
        simp only [hid_eq hA (α := Int) (x := 0)] at c4
        have e4 : A .add .i64 z 1 = z + 1 := by exact Zd
        have e5 : (z + 1).toNat = a + 1 := by omega
        have hrow : hid A (List.map (encD A) (List.drop (hid A (S.getD z.toNat default)).toNat (List.take (A .add .i64 z 1).toNat E))) = hid A (List.map (encD A) P) := by
          simp only [hid_eq hA, e4, hbz, e5, Int.toNat_natCast, hPd]
        refine PureCalls.of Try.func8 rfl (by kernel_rfl) rfl ?_
        have c5 : ∀ q, q = L.getD a default → PureCalls Try.prog 12 [slP A 2 (encG A) l, .c (.sl 3 false (hid A (List.map (encD A) (List.drop (hid A (S.getD z.toNat default)).toNat (List.take (A .add .i64 z 1).toNat E))))), UP q] (.tup [IP (hid A cb), IP 0]) := by
          rw [hrow]; exact c4
        try first | refine AOLg.of [81] ?_ | refine QSg.of [81] ?_
        repeat' (first | (refine AWp.pass ?_; first | refine AWp.seq ?_ | refine AWp.block ?_ | refine AWp.skip ?_ | refine AWp.regG [81] Zc ?_ | refine AWp.cond_t rfl ?_ | refine AWp.cond_f rfl ?_ | (refine AWp.cond rfl ?_ ?_ <;> intro hc <;> (try rw [hc]) <;> ((try simp only [zn] at hc) <;> (try simp (disch := omega) only [zz hA, zb, zy, reduceCtorEq, Bool.false_eq_true, Int.reduceLT, Int.reduceLE, Int.reduceNeg] at hc) <;> (try simp only [zw] at hc)) <;> (try (exfalso; omega))) | refine AWp.exit ?_ | refine AWp.ret ⟨.inr rfl, _, RetOk.ev tabOk Zc, ?_⟩ | refine AWp.drawVG [81] rfl (by decide +kernel) Zc ?_) | (refine AOLg.pass ?_; refine AOLg.nx hA tabOk Zc ?_; first | refine NX.done ?_ | refine NX.gt ?_ | refine NX.gf ?_ | (refine NX.gs ?_ ?_ <;> intro hc <;> rw [hc] <;> ((try simp only [zn] at hc) <;> (try simp (disch := omega) only [zz hA, zb, zy, reduceCtorEq, Bool.false_eq_true, Int.reduceLT, Int.reduceLE, Int.reduceNeg] at hc) <;> (try simp only [zw] at hc)) <;> (try (exfalso; omega))) | (refine NX.kC ?_; first | (with_reducible refine NX.call (hsh) ?_) | (with_reducible refine NX.call (hof) ?_) | (with_reducible refine NX.call (c1) ?_) | (with_reducible refine NX.call (c3) ?_) | (with_reducible refine NX.call (hst) ?_) | (with_reducible refine NX.call (c5 _ (by simp only [hid_eq hA, hzt])) ?_) | ((first | refine NX.call (hsh) ?_ | refine NX.call (hof) ?_ | refine NX.call (c1) ?_ | refine NX.call (c3) ?_ | refine NX.call (hst) ?_ | refine NX.call (c5 _ (by simp only [hid_eq hA, hzt])) ?_)) | fail) | (refine NX.kO ?_; (first | refine NX.callO (hsh) (by simp [allEq]) rfl ?_ | refine NX.callO (hof) (by simp [allEq]) rfl ?_ | refine NX.callO (c1) (by simp [allEq]) rfl ?_ | refine NX.callO (c3) (by simp [allEq]) rfl ?_ | refine NX.callO (hst) (by simp [allEq]) rfl ?_ | refine NX.callO (c5 _ (by simp only [hid_eq hA, hzt])) (by simp [allEq]) rfl ?_)) | refine NX.k 1 (NX.one Z1 ?_) | refine NX.k 2 (NX.one Z2 ?_) | refine NX.k 7 (NX.one Z7 ?_) | refine NX.k 8 (NX.one Z8 ?_) | refine NX.k 9 (NX.one Z9 ?_) | refine NX.k 10 (NX.one Z10 ?_) | refine NX.k 11 (NX.one Z11 ?_) | refine NX.k 14 (NX.one Z14 ?_) | refine NX.k 17 (NX.one Z17 ?_) | refine NX.k 18 (NX.one Z18 ?_) | (refine NX.one (One.build0I tabOk rfl rfl) ?_) | (refine NX.one (One.append0M hA tabOk rfl rfl rfl rfl rfl Zd Zd) ?_) | refine NX.raw ?_) | (refine TRg.pass ?_; refine TRg.nx hA tabOk Zc ?_; first | refine TX.done ?_ | refine TX.gt ?_ | refine TX.gf ?_ | (refine TX.gs ?_ ?_ <;> intro hc <;> rw [hc] <;> ((try simp only [zn] at hc) <;> (try simp (disch := omega) only [zz hA, zb, zy, reduceCtorEq, Bool.false_eq_true, Int.reduceLT, Int.reduceLE, Int.reduceNeg] at hc) <;> (try simp only [zw] at hc)) <;> (try (exfalso; omega))) | (refine TX.kC ?_; first | (with_reducible refine TX.call (hsh) ?_) | (with_reducible refine TX.call (hof) ?_) | (with_reducible refine TX.call (c1) ?_) | (with_reducible refine TX.call (c3) ?_) | (with_reducible refine TX.call (hst) ?_) | (with_reducible refine TX.call (c5 _ (by simp only [hid_eq hA, hzt])) ?_) | ((first | refine TX.call (hsh) ?_ | refine TX.call (hof) ?_ | refine TX.call (c1) ?_ | refine TX.call (c3) ?_ | refine TX.call (hst) ?_ | refine TX.call (c5 _ (by simp only [hid_eq hA, hzt])) ?_)) | fail) | (refine TX.kO ?_; (first | refine TX.callO (hsh) (by simp [allEq]) rfl ?_ | refine TX.callO (hof) (by simp [allEq]) rfl ?_ | refine TX.callO (c1) (by simp [allEq]) rfl ?_ | refine TX.callO (c3) (by simp [allEq]) rfl ?_ | refine TX.callO (hst) (by simp [allEq]) rfl ?_ | refine TX.callO (c5 _ (by simp only [hid_eq hA, hzt])) (by simp [allEq]) rfl ?_)) | refine TX.k 1 (TX.one Z1 ?_) | refine TX.k 2 (TX.one Z2 ?_) | refine TX.k 7 (TX.one Z7 ?_) | refine TX.k 8 (TX.one Z8 ?_) | refine TX.k 9 (TX.one Z9 ?_) | refine TX.k 10 (TX.one Z10 ?_) | refine TX.k 11 (TX.one Z11 ?_) | refine TX.k 14 (TX.one Z14 ?_) | refine TX.k 17 (TX.one Z17 ?_) | refine TX.k 18 (TX.one Z18 ?_) | (refine TX.one (One.build0I tabOk rfl rfl) ?_) | (refine TX.one (One.append0M hA tabOk rfl rfl rfl rfl rfl Zd Zd) ?_) | refine TX.raw ?_) | refine Fin3.of Zc (by repeat' (first | exact True.intro | exact rfl | refine And.intro ?_ ?_)) ?_ ?_ | (refine AllO.pass ?_; first | exact AllO.nil | (refine AllO.cons (One.ev hA tabOk ?_) ?_ <;> (first | refine AllO.pass ?_ | ((conv => lhs; cbv); done))) | (refine AllO.cons (One.skipB ?_) ?_ <;> (first | refine AllO.pass ?_ | ((conv => lhs; cbv); done))) | ((with_reducible refine AllO.call Zc (hsh) ?_ ?_) <;> (first | refine AllO.pass ?_ | exact rfl | exact Zd)) | ((with_reducible refine AllO.call Zc (hof) ?_ ?_) <;> (first | refine AllO.pass ?_ | exact rfl | exact Zd)) | ((with_reducible refine AllO.call Zc (c1) ?_ ?_) <;> (first | refine AllO.pass ?_ | exact rfl | exact Zd)) | ((with_reducible refine AllO.call Zc (c3) ?_ ?_) <;> (first | refine AllO.pass ?_ | exact rfl | exact Zd)) | ((with_reducible refine AllO.call Zc (hst) ?_ ?_) <;> (first | refine AllO.pass ?_ | exact rfl | exact Zd)) | ((with_reducible refine AllO.call Zc (c5 _ (by simp only [hid_eq hA, hzt])) ?_ ?_) <;> (first | refine AllO.pass ?_ | exact rfl | exact Zd)) | refine AllO.consX ZX rfl rfl ?_ | ((refine AllO.consX (One.build0I tabOk rfl rfl) rfl rfl ?_) <;> (first | refine AllO.pass ?_ | exact Zd))) | refine Thn.exit ?_ | refine Blk.here ?_ | refine Blk.other (by decide) ?_ | refine ⟨.inl rfl, _, RetOk.ev tabOk Zc, ?_⟩ | fail)
        all_goals exact Ze
      · clear h3
        generalize wAt l E (sidesD l E s) n = cw at *
        generalize checkA l E (sidesD l E s) = ca at *
        generalize sidesD l E s = L at *
        refine PureCalls.of Try.func8 rfl (by kernel_rfl) rfl ?_
        try first | refine AOLg.of [] ?_ | refine QSg.of [] ?_
        repeat' (first | (refine AWp.pass ?_; first | refine AWp.seq ?_ | refine AWp.block ?_ | refine AWp.skip ?_ | refine AWp.regG [] Zc ?_ | refine AWp.cond_t rfl ?_ | refine AWp.cond_f rfl ?_ | (refine AWp.cond rfl ?_ ?_ <;> intro hc <;> (try rw [hc]) <;> ((try simp only [zn] at hc) <;> (try simp (disch := omega) only [zz hA, zb, zy, reduceCtorEq, Bool.false_eq_true, Int.reduceLT, Int.reduceLE, Int.reduceNeg] at hc) <;> (try simp only [zw] at hc)) <;> (try (exfalso; omega))) | refine AWp.exit ?_ | refine AWp.ret ⟨.inr rfl, _, RetOk.ev tabOk Zc, ?_⟩ | refine AWp.drawVG [] rfl (by decide +kernel) Zc ?_) | (refine AOLg.pass ?_; refine AOLg.nx hA tabOk Zc ?_; first | refine NX.done ?_ | refine NX.gt ?_ | refine NX.gf ?_ | (refine NX.gs ?_ ?_ <;> intro hc <;> rw [hc] <;> ((try simp only [zn] at hc) <;> (try simp (disch := omega) only [zz hA, zb, zy, reduceCtorEq, Bool.false_eq_true, Int.reduceLT, Int.reduceLE, Int.reduceNeg] at hc) <;> (try simp only [zw] at hc)) <;> (try (exfalso; omega))) | (refine NX.kC ?_; first | (with_reducible refine NX.call (hsh) ?_) | (with_reducible refine NX.call (hof) ?_) | (with_reducible refine NX.call (c1) ?_) | (with_reducible refine NX.call (c3) ?_) | ((first | refine NX.call (hsh) ?_ | refine NX.call (hof) ?_ | refine NX.call (c1) ?_ | refine NX.call (c3) ?_)) | fail) | (refine NX.kO ?_; (first | refine NX.callO (hsh) (by simp [allEq]) rfl ?_ | refine NX.callO (hof) (by simp [allEq]) rfl ?_ | refine NX.callO (c1) (by simp [allEq]) rfl ?_ | refine NX.callO (c3) (by simp [allEq]) rfl ?_)) | refine NX.k 1 (NX.one Z1 ?_) | refine NX.k 2 (NX.one Z2 ?_) | refine NX.k 7 (NX.one Z7 ?_) | refine NX.k 8 (NX.one Z8 ?_) | refine NX.k 9 (NX.one Z9 ?_) | refine NX.k 10 (NX.one Z10 ?_) | refine NX.k 11 (NX.one Z11 ?_) | refine NX.k 14 (NX.one Z14 ?_) | refine NX.k 17 (NX.one Z17 ?_) | refine NX.k 18 (NX.one Z18 ?_) | refine NX.raw ?_) | (refine TRg.pass ?_; refine TRg.nx hA tabOk Zc ?_; first | refine TX.done ?_ | refine TX.gt ?_ | refine TX.gf ?_ | (refine TX.gs ?_ ?_ <;> intro hc <;> rw [hc] <;> ((try simp only [zn] at hc) <;> (try simp (disch := omega) only [zz hA, zb, zy, reduceCtorEq, Bool.false_eq_true, Int.reduceLT, Int.reduceLE, Int.reduceNeg] at hc) <;> (try simp only [zw] at hc)) <;> (try (exfalso; omega))) | (refine TX.kC ?_; first | (with_reducible refine TX.call (hsh) ?_) | (with_reducible refine TX.call (hof) ?_) | (with_reducible refine TX.call (c1) ?_) | (with_reducible refine TX.call (c3) ?_) | ((first | refine TX.call (hsh) ?_ | refine TX.call (hof) ?_ | refine TX.call (c1) ?_ | refine TX.call (c3) ?_)) | fail) | (refine TX.kO ?_; (first | refine TX.callO (hsh) (by simp [allEq]) rfl ?_ | refine TX.callO (hof) (by simp [allEq]) rfl ?_ | refine TX.callO (c1) (by simp [allEq]) rfl ?_ | refine TX.callO (c3) (by simp [allEq]) rfl ?_)) | refine TX.k 1 (TX.one Z1 ?_) | refine TX.k 2 (TX.one Z2 ?_) | refine TX.k 7 (TX.one Z7 ?_) | refine TX.k 8 (TX.one Z8 ?_) | refine TX.k 9 (TX.one Z9 ?_) | refine TX.k 10 (TX.one Z10 ?_) | refine TX.k 11 (TX.one Z11 ?_) | refine TX.k 14 (TX.one Z14 ?_) | refine TX.k 17 (TX.one Z17 ?_) | refine TX.k 18 (TX.one Z18 ?_) | refine TX.raw ?_) | refine Fin3.of Zc (by repeat' (first | exact True.intro | exact rfl | refine And.intro ?_ ?_)) ?_ ?_ | (refine AllO.pass ?_; first | exact AllO.nil | (refine AllO.cons (One.ev hA tabOk ?_) ?_ <;> (first | refine AllO.pass ?_ | ((conv => lhs; cbv); done))) | (refine AllO.cons (One.skipB ?_) ?_ <;> (first | refine AllO.pass ?_ | ((conv => lhs; cbv); done))) | ((with_reducible refine AllO.call Zc (hsh) ?_ ?_) <;> (first | refine AllO.pass ?_ | exact rfl | exact Zd)) | ((with_reducible refine AllO.call Zc (hof) ?_ ?_) <;> (first | refine AllO.pass ?_ | exact rfl | exact Zd)) | ((with_reducible refine AllO.call Zc (c1) ?_ ?_) <;> (first | refine AllO.pass ?_ | exact rfl | exact Zd)) | ((with_reducible refine AllO.call Zc (c3) ?_ ?_) <;> (first | refine AllO.pass ?_ | exact rfl | exact Zd)) | refine AllO.consX ZX rfl rfl ?_) | refine Thn.exit ?_ | refine Blk.here ?_ | refine Blk.other (by decide) ?_ | refine ⟨.inl rfl, _, RetOk.ev tabOk Zc, ?_⟩ | fail)
        all_goals exact Ze
end Go.Proofs.Ytgemcogfpkolfaa.Aw

/- Laws SideParts and SideFirst over the row's data. -/
set_option linter.unusedVariables false
set_option linter.unusedSectionVars false
namespace Go.Proofs.Ytgemcogfpkolfaa.Aw
open Go Go.RowKit
def shSide : List Sh := [.sl 32 (.st [.str, .str]), .sl 32 (.st [.int .i64, .str, .int .i64]), .int .u8, .int .i64]
theorem decSide {ics : List IC} (h : Decs shSide ics) : ∃ (l : List Sg) (E : List Nd) (s z : Int), ics = [.sl 2 false (hid real (List.map (encG real) l)), .sl 3 false (hid real (List.map (encD real) E)), .lit (.int .u8 s), I z] ∧ FitG l ∧ FitD E := by
  obtain ⟨a0, b0, rfl, ⟨r, rfl, h0, _⟩, a1, b1, rfl, ⟨q, rfl, h1, _⟩, a2, b2, rfl, ⟨s, rfl, _⟩, a3, b3, rfl, ⟨z, rfl, _⟩, rfl⟩ := h
  obtain ⟨l, rfl, hl⟩ := decSg h0
  obtain ⟨E, rfl, hE⟩ := decNd h1
  exact ⟨l, E, s, z, rfl, hl, hE⟩
variable {A : Ar} (hA : A = real)
include hA
theorem partsL (l : List Sg) (hl : FitG l) (E : List Nd) (hE : FitD E) (s z : Int) : PureCalls Try.prog 5 [.agg [.sl 2 false (hid A (List.map (encG A) l)), .sl 3 false (hid A (List.map (encD A) E)), .lit (.int .u8 s), I z]] (BP true) := parts_law hA l E s z hl hE
theorem firstL (l : List Sg) (hl : FitG l) (E : List Nd) (hE : FitD E) (s z : Int) : PureCalls Try.prog 8 [.agg [.sl 2 false (hid A (List.map (encG A) l)), .sl 3 false (hid A (List.map (encD A) E)), .lit (.int .u8 s), I z]] (BP true) := first_law hA l E s z hl hE
end Go.Proofs.Ytgemcogfpkolfaa.Aw
