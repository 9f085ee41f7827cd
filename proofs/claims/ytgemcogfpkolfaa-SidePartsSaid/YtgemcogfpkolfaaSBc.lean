/- Texts of the proof, put together: the abstract walk, contracts of the functions that the statement reaches, plain laws, part 3 of 6. -/
import Derived.Test.YtgemcogfpkolfaaSBb
import Derived.Laws.BytesString
/- The abstract walk, part 39: regions that draw their order, where operations turn the store: walked once in the text's order, and what may come later told again. -/
set_option linter.unusedVariables false
set_option linter.unusedSimpArgs false
namespace Go.Proofs.Ytgemcogfpkolfaa.Aw
open Go Go.RowKit
/-! ### what is ahead -/
inductive Ah (ops : Array Oper) : Nat → Nat → Prop where
  | on {i : Nat} {o : Oper} {e : Edge} (ho : ops[i]? = some o) (he : e ∈ o.after) (hb : bindsE e = true) : Ah ops i e.on
  | tr {i : Nat} {o : Oper} {e : Edge} {j : Nat} (ho : ops[i]? = some o) (he : e ∈ o.after) (hb : bindsE e = true) (h : Ah ops e.on j) : Ah ops i j
theorem Ah.listed {ops : Array Oper} {listed : Array Bool} (hc : Closed ops listed) {i j : Nat} (h : Ah ops i j) : (∀ o, ops[i]? = some o → ∀ e ∈ o.after, bindsE e = true → listed.getD e.on false = true) → listed.getD j false = true := by
  induction h with
  | on ho he hb => intro k; exact k _ ho _ he hb
  | tr ho he hb h ih => intro k; exact ih fun o' ho' e' he' hb' => hc _ o' (k _ ho _ he hb) ho' e' he' hb'
theorem Ah.of_listed {ops : Array Oper} {listed : Array Bool} (hc : Closed ops listed) {i j : Nat} (h : Ah ops i j) (hi : listed.getD i false = true) : listed.getD j false = true := h.listed hc fun o ho e he hb => hc i o hi ho e he hb
def maskOf (acc : List Nat) : List Edge → Nat
  | [] => 0
  | e :: r => match bindsE e with
    | true => (2 ^ e.on ||| acc.getD e.on 0) ||| maskOf acc r
    | false => maskOf acc r
def masks : List Oper → List Nat → List Nat
  | [], acc => acc
  | o :: r, acc => masks r (acc ++ [maskOf acc o.after.toList])
theorem maskOf_ok {acc : List Nat} {j : Nat} : ∀ {l : List Edge}, (maskOf acc l).testBit j = true → ∃ e ∈ l, bindsE e = true ∧ (e.on = j ∨ (acc.getD e.on 0).testBit j = true)
  | [], h => by simp [maskOf] at h
  | e :: r, h => by
    simp only [maskOf] at h
    split at h
    · rename_i hb
      simp only [Nat.testBit_or, Bool.or_eq_true] at h
      rcases h with (h | h) | h
      · refine ⟨e, List.mem_cons_self, hb, .inl ?_⟩
        rw [Nat.testBit_two_pow] at h
        simpa using h
      · exact ⟨e, List.mem_cons_self, hb, .inr h⟩
      · obtain ⟨e', h1, h2, h3⟩ := maskOf_ok h
        exact ⟨e', List.mem_cons_of_mem _ h1, h2, h3⟩
    · obtain ⟨e', h1, h2, h3⟩ := maskOf_ok h
      exact ⟨e', List.mem_cons_of_mem _ h1, h2, h3⟩
theorem masks_ok {ops : Array Oper} : ∀ (l : List Oper) (acc : List Nat), (∀ k o, l[k]? = some o → ops[acc.length + k]? = some o) → (∀ i j, (acc.getD i 0).testBit j = true → Ah ops i j) → ∀ i j, ((masks l acc).getD i 0).testBit j = true → Ah ops i j
  | [], acc, _, h => h
  | o :: r, acc, hl, h => by
    refine masks_ok r _ (fun k o' hk => ?_) fun i j hij => ?_
    · have := hl (k + 1) o' (by simpa using hk)
      rw [List.length_append, List.length_cons, List.length_nil]
      rw [← this]; congr 1; omega
    · rcases Nat.lt_trichotomy i acc.length with hi | hi | hi
      · rw [List.getD_eq_getElem?_getD, List.getElem?_append_left hi, ← List.getD_eq_getElem?_getD] at hij
        exact h i j hij
      · subst hi
        rw [List.getD_eq_getElem?_getD, List.getElem?_append_right (Nat.le_refl _)] at hij
        simp only [Nat.sub_self, List.getElem?_cons_zero, Option.getD_some] at hij
        obtain ⟨e, he, hb, hj⟩ := maskOf_ok hij
        have ho := hl 0 o rfl
        rw [Nat.add_zero] at ho
        rcases hj with hj | hj
        · subst hj; exact .on ho (by simpa using he) hb
        · exact .tr ho (by simpa using he) hb (h _ _ hj)
      · rw [List.getD_eq_getElem?_getD, List.getElem?_eq_none (by simp; omega)] at hij
        simp at hij
/-- Operations that turn the store. -/
def chOp : Op → Bool
  | .alloc _ => true
  | .box _ _ => true
  | .store _ _ _ => true
  | .makeSlice _ _ _ => true
  | _ => false
def chAt (ops : Array Oper) (i : Nat) : Bool := match ops[i]? with
  | some o => chOp o.op
  | none => false
/-- The numbers of those that turn the store. -/
def chs (ops : Array Oper) : List Nat := (List.range ops.size).filter (chAt ops)
def ahM (ms : List Nat) (i j : Nat) : Bool := (ms.getD i 0).testBit j
def drawVB (ops : Array Oper) : Bool :=
  let ms := masks ops.toList []
  let cs := chs ops
  ops.toList.all (fun o => notDefer o.op) &&
  (List.range ops.size).all (fun i => match ops[i]? with
    | some o => o.after.toList.all (fun e => !bindsE e || Nat.blt e.on i) &&
      (match o.dst with | some d => (List.range ops.size).all (fun j => Nat.beq i j || !(dstOf ops j == some d)) | none => chOp o.op) &&
      (o.looksAt ops).all (fun t => (List.range ops.size).all (fun j => !(dstOf ops j == some t) || (Nat.blt j i && ahM ms i j) || (Nat.blt i j && ahM ms j i)))
    | none => false) &&
  cs.all (fun c => cs.all (fun d => !Nat.blt d c || ahM ms c d))
/-! ### the walk in the text's order -/
structure TRec where
  i : Nat
  s : St
  x : AV
  st : List AObj
def TR (r : Option Nat) (P : Program) (ops : Array Oper) : List Nat → St → List TRec → (St → List TRec → Prop) → Prop
  | [], s, rc, Q => Q s rc
  | i :: rest, s, rc, Q => ∃ x st', One r P ops i (lookS ops i s) x st' ∧ TR r P ops rest (putS s (dstOf ops i) x st') (rc ++ [⟨i, s, x, st'⟩]) Q
/-- Stores, version by version. -/
def vers (ops : Array Oper) (s0 : List AObj) : List TRec → List (List AObj)
  | [] => [s0]
  | t :: r => match chAt ops t.i with
    | true => s0 :: vers ops t.st r
    | false => vers ops s0 r
/-- May operation i come when so many of those that turn the store have come? -/
def okV (ms cs : List Nat) (i m : Nat) : Bool := (List.range cs.length).all fun j => match cs[j]? with
  | some c => (!ahM ms i c || Nat.blt j m) && (!ahM ms c i || Nat.ble m j)
  | none => true
def later (ops : Array Oper) (ms cs : List Nat) (S : List (List AObj)) (t : TRec) (m : Nat) : List (Nat × St × AV) := match okV ms cs t.i m && !Nat.beq m (cs.filter (fun c => Nat.blt c t.i)).length with
  | true => match S[m]? with
    | some st => [(t.i, lookS ops t.i ⟨t.s.nt, t.s.env, st⟩, t.x)]
    | none => []
  | false => []
def obl (ops : Array Oper) (ms cs : List Nat) (S : List (List AObj)) : List TRec → List (Nat × St × AV)
  | [] => []
  | t :: r => match chAt ops t.i with
    | true => obl ops ms cs S r
    | false => (List.range (cs.length + 1)).flatMap (later ops ms cs S t) ++ obl ops ms cs S r
def AllO (r : Option Nat) (P : Program) (ops : Array Oper) : List (Nat × St × AV) → Prop
  | [] => True
  | p :: l => One r P ops p.1 p.2.1 p.2.2 p.2.1.st ∧ AllO r P ops l
def SameQ (ops : Array Oper) : List TRec → Prop
  | [] => True
  | t :: r => (match chAt ops t.i with | true => True | false => t.st = t.s.st) ∧ SameQ ops r
theorem AllO_mem {r : Option Nat} {P : Program} {ops : Array Oper} : ∀ {l : List (Nat × St × AV)}, AllO r P ops l → ∀ p ∈ l, One r P ops p.1 p.2.1 p.2.2 p.2.1.st
  | [], _, p, hp => by simp at hp
  | q :: l, h, p, hp => by
    rcases List.mem_cons.1 hp with rfl | hp
    · exact h.1
    · exact AllO_mem h.2 p hp
theorem SameQ_mem {ops : Array Oper} : ∀ {l : List TRec}, SameQ ops l → ∀ t ∈ l, chAt ops t.i = false → t.st = t.s.st
  | [], _, t, ht, _ => by simp at ht
  | q :: l, h, t, ht, hc => by
    rcases List.mem_cons.1 ht with rfl | ht
    · have := h.1; rw [hc] at this; exact this
    · exact SameQ_mem h.2 t ht hc
/-- What a walk in the text's order is, put together. -/
theorem TR.collect {r : Option Nat} {P : Program} {ops : Array Oper} {Q : St → List TRec → Prop} : ∀ (n k : Nat) (s : St) (rc : List TRec), TR r P ops ((List.range n).map (k + ·)) s rc Q →
    ∃ (se : Nat → St) (xs : Nat → AV), se k = s ∧ (∀ i, k ≤ i → i < k + n → One r P ops i (lookS ops i (se i)) (xs i) (se (i + 1)).st ∧ se (i + 1) = putS (se i) (dstOf ops i) (xs i) (se (i + 1)).st) ∧
      Q (se (k + n)) (rc ++ (List.range n).map fun j => ⟨k + j, se (k + j), xs (k + j), (se (k + j + 1)).st⟩)
  | 0, k, s, rc, h => ⟨fun _ => s, fun _ => .any, rfl, fun i h1 h2 => by omega, by simpa [TR] using h⟩
  | n + 1, k, s, rc, h => by
    rw [List.range_succ_eq_map, List.map_cons, List.map_map] at h
    simp only [TR, Nat.add_zero] at h
    obtain ⟨x, st', hone, hrest⟩ := h
    have e : (List.range n).map ((fun x => k + x) ∘ Nat.succ) = (List.range n).map (k + 1 + ·) := List.map_congr_left fun j _ => by simp; omega
    rw [e] at hrest
    obtain ⟨se, xs, h0, h1, h2⟩ := TR.collect n (k + 1) _ _ hrest
    have hst : (se (k + 1)).st = st' := by rw [h0, putS_st]
    refine ⟨fun i => if i = k then s else se i, fun i => if i = k then x else xs i, by simp, fun i hi1 hi2 => ?_, ?_⟩
    · by_cases hik : i = k
      · subst hik
        simp only [if_true, if_neg (show ¬ i + 1 = i by omega)]
        refine ⟨by rw [hst]; exact hone, by rw [hst]; exact h0⟩
      · simp only [if_neg hik, if_neg (show ¬ i + 1 = k by omega)]
        exact h1 i (by omega) (by omega)
    · simp only [if_neg (show ¬ k + (n + 1) = k by omega)]
      rw [show k + (n + 1) = k + 1 + n by omega]
      have : (List.range (n + 1)).map (fun j => (⟨k + j, if k + j = k then s else se (k + j), if k + j = k then x else xs (k + j), (if k + j + 1 = k then s else se (k + j + 1)).st⟩ : TRec)) =
          ⟨k, s, x, st'⟩ :: (List.range n).map fun j => ⟨k + 1 + j, se (k + 1 + j), xs (k + 1 + j), (se (k + 1 + j + 1)).st⟩ := by
        rw [List.range_succ_eq_map, List.map_cons, List.map_map]
        simp only [Nat.add_zero, if_true, if_neg (show ¬ k + 1 = k by omega), hst]
        congr 1
        refine List.map_congr_left fun j _ => ?_
        simp only [Function.comp, Nat.succ_eq_add_one, if_neg (show ¬ k + (j + 1) = k by omega), if_neg (show ¬ k + (j + 1) + 1 = k by omega)]
        rw [show k + (j + 1) = k + 1 + j by omega]
      rw [this, List.append_cons]
      exact h2
/-! ### counting -/
section cnt
variable (p : Nat → Bool)
def cnt (i : Nat) : Nat := ((List.range i).filter p).length
theorem cnt_succ (i : Nat) : cnt p (i + 1) = cnt p i + if p i then 1 else 0 := by
  unfold cnt
  rw [List.range_succ, List.filter_append, List.length_append]
  cases h : p i <;> simp [h]
theorem cnt_get {n i : Nat} (hi : i < n) (hp : p i = true) : ((List.range n).filter p)[cnt p i]? = some i := by
  induction n with
  | zero => omega
  | succ n ih =>
    rw [List.range_succ, List.filter_append]
    by_cases h : i < n
    · have := ih h
      rw [List.getElem?_append_left (List.getElem?_eq_some_iff.1 this).1]
      exact this
    · obtain rfl : i = n := by omega
      unfold cnt
      rw [List.getElem?_append_right (Nat.le_refl _)]
      simp [hp]
theorem cnt_lt {n i : Nat} : ∀ {j c : Nat}, ((List.range n).filter p)[j]? = some c → c < n ∧ p c = true ∧ j = cnt p c := by
  induction n with
  | zero => intro j c h; simp at h
  | succ n ih =>
    intro j c h
    rw [List.range_succ, List.filter_append] at h
    by_cases hj : j < ((List.range n).filter p).length
    · rw [List.getElem?_append_left hj] at h
      obtain ⟨h1, h2, h3⟩ := ih h
      exact ⟨by omega, h2, h3⟩
    · rw [List.getElem?_append_right (by omega)] at h
      cases hp : p n with
      | false => simp [hp] at h
      | true =>
        simp only [List.filter_cons, hp, if_true, List.filter_nil] at h
        have hlt := (List.getElem?_eq_some_iff.1 h).1
        simp only [List.length_cons, List.length_nil] at hlt
        have h0 : j - ((List.range n).filter p).length = 0 := by omega
        rw [h0] at h
        simp only [List.getElem?_cons_zero, Option.some.injEq] at h
        subst h
        exact ⟨by omega, hp, by unfold cnt; omega⟩
theorem cnt_below {n i : Nat} (hi : i ≤ n) : (((List.range n).filter p).filter (fun c => Nat.blt c i)).length = cnt p i := by
  induction n with
  | zero =>
    obtain rfl : i = 0 := by omega
    rfl
  | succ n ih =>
    by_cases h : i ≤ n
    · rw [List.range_succ, List.filter_append, List.filter_append, List.length_append, ih h]
      have : (List.filter (fun c => Nat.blt c i) (List.filter p [n])).length = 0 := by
        rw [List.length_eq_zero_iff, List.filter_eq_nil_iff]
        intro a ha
        have := (List.mem_filter.1 ha).1
        simp only [List.mem_singleton] at this
        subst this
        intro hb
        have := Nat.le_of_ble_eq_true hb
        omega
      omega
    · obtain rfl : i = n + 1 := by omega
      rw [List.filter_eq_self.2]
      · rfl
      · intro a ha
        have := (List.mem_filter.1 ha).1
        rw [List.mem_range] at this
        exact Nat.ble_eq_true_of_le this
theorem cnt_mono {i j : Nat} (h : i ≤ j) : cnt p i ≤ cnt p j := by
  induction j with
  | zero =>
    obtain rfl : i = 0 := by omega
    exact Nat.le_refl _
  | succ j ih =>
    by_cases e : i = j + 1
    · subst e; exact Nat.le_refl _
    · have := ih (by omega); rw [cnt_succ]; omega
theorem cnt_strict {i j : Nat} (h : i < j) (hp : p i = true) : cnt p i < cnt p j := by
  have h1 := cnt_mono p (show i + 1 ≤ j by omega)
  rw [cnt_succ, hp] at h1
  simp at h1
  omega
end cnt
theorem obl_mem {ops : Array Oper} {ms cs : List Nat} {S : List (List AObj)} {t : TRec} (hc : chAt ops t.i = false) {m : Nat} (hm : m ≤ cs.length) (hk : okV ms cs t.i m = true) (hne : m ≠ (cs.filter (fun c => Nat.blt c t.i)).length) {st : List AObj} (hS : S[m]? = some st) :
    ∀ {l : List TRec}, t ∈ l → (t.i, lookS ops t.i ⟨t.s.nt, t.s.env, st⟩, t.x) ∈ obl ops ms cs S l
  | [], h => by simp at h
  | q :: l, h => by
    have hb : Nat.beq m (cs.filter (fun c => Nat.blt c t.i)).length = false := by
      cases e : Nat.beq m (cs.filter (fun c => Nat.blt c t.i)).length with
      | false => rfl
      | true => exact absurd (Nat.eq_of_beq_eq_true e) hne
    rcases List.mem_cons.1 h with rfl | h
    · simp only [obl, hc]
      refine List.mem_append_left _ (List.mem_flatMap.2 ⟨m, List.mem_range.2 (by omega), ?_⟩)
      simp only [later, hk, hb, hS, Bool.not_false, Bool.and_self, List.mem_singleton]
    · have ih := obl_mem hc hm hk hne hS h
      simp only [obl]
      cases chAt ops q.i with
      | true => exact ih
      | false => exact List.mem_append_right _ ih
section main
variable {r : Option Nat} {P : Program} {ops : Array Oper}
/-- What the region's text is asked. -/
structure TextV (ops : Array Oper) (ms : List Nat) : Prop where
  eqm : ms = masks ops.toList []
  nd : ops.toList.all (fun o => notDefer o.op) = true
  e : ∀ i o, ops[i]? = some o → ∀ e ∈ o.after, bindsE e = true → e.on < i
  d : ∀ i d, i < ops.size → dstOf ops i = some d → ∀ j, j < ops.size → dstOf ops j = some d → j = i
  l : ∀ i o, ops[i]? = some o → ∀ t ∈ o.looksAt ops, ∀ j, j < ops.size → dstOf ops j = some t → (j < i ∧ ahM ms i j = true) ∨ (i < j ∧ ahM ms j i = true)
  c : ∀ i j, i < ops.size → j < i → chAt ops i = true → chAt ops j = true → ahM ms i j = true
theorem ahM_ok {ms : List Nat} (h : ms = masks ops.toList []) {i j : Nat} (ha : ahM ms i j = true) : Ah ops i j := by
  subst h
  exact masks_ok ops.toList [] (fun k o hk => by simpa using hk) (fun i j hij => by simp at hij) i j ha
theorem textV (h : drawVB ops = true) : TextV ops (masks ops.toList []) := by
  simp only [drawVB, Bool.and_eq_true, List.all_eq_true, List.mem_range] at h
  obtain ⟨⟨h0, h1⟩, h2⟩ := h
  have get : ∀ i o, ops[i]? = some o → (∀ e ∈ o.after.toList, (!bindsE e || Nat.blt e.on i) = true) ∧ (match o.dst with | some d => (List.range ops.size).all (fun j => Nat.beq i j || !(dstOf ops j == some d)) | none => chOp o.op) = true ∧
      (o.looksAt ops).all (fun t => (List.range ops.size).all (fun j => !(dstOf ops j == some t) || (Nat.blt j i && ahM (masks ops.toList []) i j) || (Nat.blt i j && ahM (masks ops.toList []) j i))) = true := fun i o ho => by
    have := h1 i (Array.getElem?_eq_some_iff.1 ho).1
    simp only [ho, Bool.and_eq_true, List.all_eq_true] at this
    exact ⟨this.1.1, this.1.2, by rw [List.all_eq_true]; intro t ht; rw [List.all_eq_true]; exact this.2 t ht⟩
  refine ⟨rfl, List.all_eq_true.2 h0, fun i o ho e he hb => ?_, fun i d hi hd j hj hjd => ?_, fun i o ho t ht j hj hjt => ?_, fun i j hi hj hc hd => ?_⟩
  · have := (get i o ho).1 e (by simpa using he)
    rw [hb] at this
    simp only [Bool.not_true, Bool.false_or] at this
    exact Nat.le_of_ble_eq_true this
  · have ho := Array.getElem?_eq_getElem hi
    have := (get i _ ho).2.1
    simp only [dstOf, ho, Option.bind_some] at hd
    rw [hd] at this
    simp only [List.all_eq_true, List.mem_range] at this
    have := this j hj
    simp only [hjd, beq_self_eq_true, Bool.not_true, Bool.or_false] at this
    exact (Nat.eq_of_beq_eq_true this).symm
  · have := (get i o ho).2.2
    simp only [List.all_eq_true, List.mem_range] at this
    have := this t ht j hj
    simp only [hjt, beq_self_eq_true, Bool.not_true, Bool.false_or, Bool.or_eq_true, Bool.and_eq_true] at this
    rcases this with ⟨a, b⟩ | ⟨a, b⟩
    · exact .inl ⟨Nat.le_of_ble_eq_true a, b⟩
    · exact .inr ⟨Nat.le_of_ble_eq_true a, b⟩
  · have := h2 i (List.mem_filter.2 ⟨List.mem_range.2 hi, hc⟩) j (List.mem_filter.2 ⟨List.mem_range.2 (by omega), hd⟩)
    have hb : Nat.blt j i = true := Nat.ble_eq_true_of_le hj
    rw [hb] at this
    simpa using this
theorem drawV_any {G : Nat → Prop} {ms : List Nat} (hT : TextV ops ms) {s0 : St} {se : Nat → St} {xs : Nat → AV} {S : Nat → List AObj} {g0 : Ghost} {w0 : World} {a0 : Act} {QQ : Exit → Act → World → Prop} {Q : St → Prop}
    (hS : ∀ i, i ≤ ops.size → (se i).st = S (cnt (chAt ops) i))
    (D1 : ∀ i j t, i ≤ ops.size → j < i → dstOf ops j = some t → (se i).get t = xs j) (D2 : ∀ i t, i ≤ ops.size → (∀ j, j < i → dstOf ops j ≠ some t) → (se i).get t = s0.get t)
    (hone : ∀ i, i < ops.size → One r P ops i (lookS ops i ⟨s0.nt, (se i).env, S (cnt (chAt ops) i)⟩) (xs i) (S (cnt (chAt ops) (i + 1))))
    (hlat : ∀ i m, i < ops.size → chAt ops i = false → m ≤ cnt (chAt ops) ops.size → okV ms (chs ops) i m = true → One r P ops i (lookS ops i ⟨s0.nt, (se i).env, S m⟩) (xs i) (S m))
    (hQ : Q ⟨s0.nt, (se ops.size).env, S (cnt (chAt ops) ops.size)⟩)
    (kk : ∀ s' g' w' a', Q s' → Rel G s' g' w' a' → Evo s0.st g0 w0 s'.st g' w' → a'.defers = a0.defers → QQ Exit.normal a' w') :
    ∀ (fuel : Nat) (listed : Array Bool) (a : Act) (g : Ghost) (w : World) (m : Nat), listed.size = ops.size → left listed ops.size = fuel → Closed ops listed → (∀ j, j < ops.size → chAt ops j = true → (listed.getD j false = true ↔ cnt (chAt ops) j < m)) → m ≤ cnt (chAt ops) ops.size →
      a.tmps.size = s0.nt → SR G (S m) g w → (∀ j t, j < ops.size → dstOf ops j = some t → listed.getD j false = true → AR G (S m) g w (xs j) (a.tmps.getD t undef)) →
      (∀ t, (∀ j, j < ops.size → dstOf ops j = some t → listed.getD j false = false) → AR G (S m) g w (s0.get t) (a.tmps.getD t undef)) →
      Evo s0.st g0 w0 (S m) g w → a.defers = a0.defers → wpAnyIn (FW r) 0 P .any ops QQ fuel listed a w := by
  intro fuel
  induction fuel with
  | zero =>
    intro listed a g w m hs hl hc hm hmM hsz hsr hv1 hv2 hev hdf
    have h1 : ∀ j, j < ops.size → listed.getD j true = true := fun j hj => by
      unfold left at hl
      rw [List.length_eq_zero_iff, List.filter_eq_nil_iff] at hl
      have := hl j (List.mem_range.2 hj)
      simpa using this
    have h1' : ∀ j, j < ops.size → listed.getD j false = true := fun j hj => by rw [getD_tf (by omega) false true]; exact h1 j hj
    refine ⟨?_, ?_⟩
    · rw [List.eq_nil_iff_forall_not_mem]
      intro j hj
      obtain ⟨hj1, hj2, _⟩ := mem_ready hj
      rw [h1 j hj1] at hj2
      simp at hj2
    · have em : m = cnt (chAt ops) ops.size := by
        rcases Nat.lt_or_ge m (cnt (chAt ops) ops.size) with hlt | hge
        · exfalso
          have hget : (chs ops)[m]? = some ((chs ops)[m]'hlt) := List.getElem?_eq_getElem hlt
          obtain ⟨c1, c2, c3⟩ := cnt_lt (chAt ops) (i := 0) hget
          have := (hm _ c1 c2).1 (h1' _ c1)
          omega
        · omega
      subst em
      refine kk _ g w a hQ ⟨fun t => ?_, hsz, hsr⟩ hev hdf
      show AR G _ g w ((se ops.size).get t) _
      by_cases hw : ∃ j, j < ops.size ∧ dstOf ops j = some t
      · obtain ⟨j, hj, hjt⟩ := hw
        rw [D1 _ j t (Nat.le_refl _) hj hjt]
        exact hv1 j t hj hjt (h1' j hj)
      · rw [D2 _ t (Nat.le_refl _) fun j hj hjt => hw ⟨j, hj, hjt⟩]
        exact hv2 t fun j hj hjt => absurd ⟨j, hj, hjt⟩ hw
  | succ fuel ih =>
    intro listed a g w m hs hl hc hm hmM hsz hsr hv1 hv2 hev hdf
    have hex : ∃ j, j < ops.size ∧ listed.getD j true = false := by
      by_cases he : ∃ j, j < ops.size ∧ listed.getD j true = false
      · exact he
      · exfalso
        have : left listed ops.size = 0 := by
          unfold left
          rw [List.length_eq_zero_iff, List.filter_eq_nil_iff]
          intro j hj
          cases hb : listed.getD j true with
          | true => simp
          | false => exact absurd ⟨j, List.mem_range.1 hj, hb⟩ he
        omega
    refine ⟨fun hnil => ?_, fun i hi => ?_⟩
    · exfalso
      have least : ∀ n j, j ≤ n → j < ops.size → listed.getD j true = false → ∃ i, i < ops.size ∧ listed.getD i true = false ∧ ∀ k, k < i → listed.getD k true = true := by
        intro n
        induction n with
        | zero =>
          intro j hj hjq hjl
          exact ⟨j, hjq, hjl, fun k hk => by omega⟩
        | succ n ihn =>
          intro j hj hjq hjl
          by_cases hk : ∃ k, k < j ∧ listed.getD k true = false
          · obtain ⟨k, hk1, hk2⟩ := hk
            exact ihn k (by omega) (by omega) hk2
          · refine ⟨j, hjq, hjl, fun k hk' => ?_⟩
            cases hb : listed.getD k true with
            | true => rfl
            | false => exact absurd ⟨k, hk', hb⟩ hk
      obtain ⟨j, hj1, hj2⟩ := hex
      obtain ⟨i, hi1, hi2, hi3⟩ := least j j (Nat.le_refl _) hj1 hj2
      have ho := Array.getElem?_eq_getElem hi1
      have hmem := ready_of ho hi2 (fun e hem hb => by
        have := hT.e i _ ho e hem hb
        rw [getD_tf (by omega) false true]
        exact hi3 _ this)
      rw [hnil] at hmem
      exact List.not_mem_nil hmem
    · obtain ⟨hi1, hi2, o, ho, he⟩ := mem_ready hi
      have hpre : ∀ o', ops[i]? = some o' → ∀ e ∈ o'.after, bindsE e = true → listed.getD e.on false = true := fun o' ho' => by
        rw [ho] at ho'
        obtain rfl := Option.some.inj ho'
        exact he
      have hnot : listed.getD i false = false := by rw [getD_tf (by omega) false true]; exact hi2
      have ahd : ∀ j, ahM ms i j = true → listed.getD j false = true := fun j h => (ahM_ok hT.eqm h).listed hc hpre
      have bhd : ∀ j, ahM ms j i = true → listed.getD j false = false := fun j h => by
        cases hb : listed.getD j false with
        | false => rfl
        | true =>
          have := (ahM_ok hT.eqm h).of_listed hc hb
          rw [hnot] at this
          cases this
      -- the operation, at the version that the store has
      have key : ∃ m', m' ≤ cnt (chAt ops) ops.size ∧ One r P ops i (lookS ops i ⟨s0.nt, (se i).env, S m⟩) (xs i) (S m') ∧ (∀ j, j < ops.size → chAt ops j = true → ((listed.setIfInBounds i true).getD j false = true ↔ cnt (chAt ops) j < m')) := by
        cases hch : chAt ops i with
        | true =>
          have e1 : m = cnt (chAt ops) i := by
            have h1 : ¬ cnt (chAt ops) i < m := fun h => by
              have := (hm i hi1 hch).2 h
              rw [hnot] at this
              cases this
            rcases Nat.lt_or_ge m (cnt (chAt ops) i) with hlt | hge
            · exfalso
              have hlt2 : m < (chs ops).length := Nat.lt_of_lt_of_le hlt (cnt_mono _ (Nat.le_of_lt hi1))
              have hget : (chs ops)[m]? = some ((chs ops)[m]'hlt2) := List.getElem?_eq_getElem hlt2
              obtain ⟨c1, c2, c3⟩ := cnt_lt (chAt ops) (i := 0) hget
              have hci : (chs ops)[m] < i := by
                rcases Nat.lt_trichotomy ((chs ops)[m]'hlt2) i with h | h | h
                · exact h
                · rw [h] at c3; omega
                · have := cnt_strict (chAt ops) h hch; omega
              have := (hm _ c1 c2).1 (ahd _ (hT.c i _ hi1 hci hch c2))
              omega
            · omega
          subst e1
          refine ⟨cnt (chAt ops) (i + 1), cnt_mono _ hi1, hone i hi1, fun j hj hcj => ?_⟩
          rw [getD_setB _ _ _ _ (by omega), cnt_succ, hch]
          by_cases e : i = j
          · subst e; simp
          · rw [if_neg e, hm j hj hcj]
            simp only [if_true]
            constructor
            · intro h; omega
            · intro h
              rcases Nat.lt_or_ge j i with h' | h'
              · exact cnt_strict _ h' hcj
              · have := cnt_strict (chAt ops) (show i < j by omega) hch; omega
        | false =>
          refine ⟨m, hmM, hlat i m hi1 hch hmM ?_, fun j hj hcj => ?_⟩
          · unfold okV
            rw [List.all_eq_true]
            intro j hj
            rw [List.mem_range] at hj
            have hget : (chs ops)[j]? = some ((chs ops)[j]'hj) := List.getElem?_eq_getElem hj
            obtain ⟨c1, c2, c3⟩ := cnt_lt (chAt ops) (i := 0) hget
            rw [hget]
            simp only [Bool.and_eq_true, Bool.or_eq_true, Bool.not_eq_true']
            refine ⟨?_, ?_⟩
            · cases ha : ahM ms i ((chs ops)[j]'hj) with
              | false => exact .inl rfl
              | true =>
                right
                have := (hm _ c1 c2).1 (ahd _ ha)
                exact Nat.ble_eq_true_of_le (by omega)
            · cases ha : ahM ms ((chs ops)[j]'hj) i with
              | false => exact .inl rfl
              | true =>
                right
                have h1 := bhd _ ha
                have : ¬ cnt (chAt ops) ((chs ops)[j]'hj) < m := fun h => by
                  have := (hm _ c1 c2).2 h
                  rw [h1] at this
                  cases this
                exact Nat.ble_eq_true_of_le (by omega)
          · rw [getD_setB _ _ _ _ (by omega)]
            have : i ≠ j := fun e => by subst e; rw [hch] at hcj; cases hcj
            rw [if_neg this]
            exact hm j hj hcj
      obtain ⟨m', hm'M, h1, hm'⟩ := key
      have hlk : lookS ops i ⟨s0.nt, (se i).env, S m⟩ = restr ⟨s0.nt, (se i).env, S m⟩ (o.looksAt ops) := by simp only [lookS, ho]
      rw [hlk] at h1
      have hrel : Rel G (restr ⟨s0.nt, (se i).env, S m⟩ (o.looksAt ops)) g w a := by
        refine ⟨fun t => ?_, hsz, hsr⟩
        show AR G (S m) g w (look ((o.looksAt ops).map fun t => (t, St.get ⟨s0.nt, (se i).env, S m⟩ t)) t) _
        rw [look_restr]
        split
        · rename_i ht
          show AR G (S m) g w ((se i).get t) _
          by_cases hw : ∃ j, j < ops.size ∧ dstOf ops j = some t
          · obtain ⟨j, hj, hjt⟩ := hw
            rcases hT.l i o ho t ht j hj hjt with ⟨h2, h3⟩ | ⟨h2, h3⟩
            · rw [D1 i j t (by omega) h2 hjt]
              exact hv1 j t hj hjt (ahd j h3)
            · rw [D2 i t (by omega) fun q hq hqt => by have := hT.d j t hj hjt q (by omega) hqt; omega]
              exact hv2 t fun q hq hqt => by
                obtain rfl := hT.d j t hj hjt q hq hqt
                exact bhd _ h3
          · rw [D2 i t (by omega) fun j hj hjt => hw ⟨j, by omega, hjt⟩]
            exact hv2 t fun j hj hjt => absurd ⟨j, hj, hjt⟩ hw
        · exact .any _
      have h := h1 [] (fun s' => s' = putS (restr ⟨s0.nt, (se i).env, S m⟩ (o.looksAt ops)) (dstOf ops i) (xs i) (S m')) (AOL.nil rfl) G g w a (fun e a' w' => match e with | .normal => wpAnyIn (FW r) 0 P .any ops QQ fuel (listed.setIfInBounds i true) a' w' | e => QQ e a' w') hrel ?_
      · exact wpOpIn_of h
      · rintro s' g' w' a' rfl hr' hev' hdf' hfr
        rw [putS_st] at hev'
        have hev' : Evo (S m) g w (S m') g' w' := hev'
        have hsr' : SR G (S m') g' w' := by have := hr'.sr; rw [putS_st] at this; exact this
        have hnt : a'.tmps.size = s0.nt := hr'.size.trans (by cases dstOf ops i <;> rfl)
        have hdo : dstOf ops i = o.dst := by simp [dstOf, ho]
        have same : ∀ t, dstOf ops i ≠ some t → a'.tmps.getD t undef = a.tmps.getD t undef := fun t ht => hfr t fun j hj p hp => by
          obtain rfl := List.mem_singleton.1 hj
          rw [ho] at hp
          obtain rfl := Option.some.inj hp
          rw [← hdo]
          exact ht
        refine ih _ a' g' w' m' (by simp [hs]) ?_ (closed_set hc ho (by omega) he) hm' hm'M hnt hsr' (fun j t hj hjt hlj => ?_) (fun t ht => ?_) (hev.trans hev') (hdf'.trans hdf)
        · have := left_set (listed := listed) (by omega) hi1 hi2
          omega
        · rw [getD_setB _ _ _ _ (by omega)] at hlj
          by_cases e : i = j
          · subst e
            have := hr'.slots t
            rw [putS_st] at this
            have hg : (putS (restr ⟨s0.nt, (se i).env, S m⟩ (o.looksAt ops)) (dstOf ops i) (xs i) (S m')).get t = xs i := by
              rw [hjt]
              exact look_cons_eq
            rw [hg] at this
            exact this
          · rw [if_neg e] at hlj
            have hne : dstOf ops i ≠ some t := fun h => e (hT.d j t hj hjt i hi1 h)
            rw [same t hne]
            exact (hv1 j t hj hjt hlj).evo hev'
        · have hne : dstOf ops i ≠ some t := fun h => by
            have := ht i hi1 h
            rw [getD_setB _ _ _ _ (by omega), if_pos rfl] at this
            cases this
          rw [same t hne]
          refine (hv2 t fun j hj hjt => ?_).evo hev'
          have := ht j hj hjt
          rw [getD_setB _ _ _ _ (by omega)] at this
          split at this
          · cases this
          · exact this
end main
section fin
variable {r : Option Nat} {P : Program} {ops : Array Oper}
def stV (ops : Array Oper) (s : List AObj) (se : Nat → St) : Nat → List AObj
  | 0 => s
  | m + 1 => (se ((chs ops).getD m 0 + 1)).st
theorem stV_eq {s : St} {se : Nat → St} (h0 : se 0 = s) (hq : ∀ i, i < ops.size → chAt ops i = false → (se (i + 1)).st = (se i).st) : ∀ i, i ≤ ops.size → (se i).st = stV ops s.st se (cnt (chAt ops) i)
  | 0, _ => by rw [h0]; rfl
  | i + 1, hi => by
    rw [cnt_succ]
    cases hc : chAt ops i with
    | true =>
      have hg := cnt_get (chAt ops) (n := ops.size) (by omega) hc
      have : (chs ops).getD (cnt (chAt ops) i) 0 = i := by rw [List.getD_eq_getElem?_getD]; unfold chs; rw [hg]; rfl
      simp only [if_true, stV, this]
    | false =>
      rw [hq i (by omega) hc]
      simpa using stV_eq h0 hq i (by omega)
theorem vers_get {s : St} {se : Nat → St} {xs : Nat → AV} (hS : ∀ i, i ≤ ops.size → (se i).st = stV ops s.st se (cnt (chAt ops) i)) :
    ∀ (n k : Nat), k + n = ops.size → ∀ j, cnt (chAt ops) k + j ≤ cnt (chAt ops) ops.size →
      (vers ops (stV ops s.st se (cnt (chAt ops) k)) ((List.range n).map fun j => ⟨k + j, se (k + j), xs (k + j), (se (k + j + 1)).st⟩))[j]? = some (stV ops s.st se (cnt (chAt ops) k + j))
  | 0, k, hk, j, hj => by
    obtain rfl : k = ops.size := by omega
    obtain rfl : j = 0 := by omega
    rfl
  | n + 1, k, hk, j, hj => by
    have e : (List.range (n + 1)).map (fun j => (⟨k + j, se (k + j), xs (k + j), (se (k + j + 1)).st⟩ : TRec)) = ⟨k, se k, xs k, (se (k + 1)).st⟩ :: (List.range n).map fun j => ⟨k + 1 + j, se (k + 1 + j), xs (k + 1 + j), (se (k + 1 + j + 1)).st⟩ := by
      rw [List.range_succ_eq_map, List.map_cons, List.map_map]
      simp only [Nat.add_zero]
      congr 1
      refine List.map_congr_left fun j _ => ?_
      simp only [Function.comp, Nat.succ_eq_add_one]
      rw [show k + (j + 1) = k + 1 + j by omega]
    rw [e]
    have ih := vers_get (xs := xs) hS n (k + 1) (by omega)
    cases hc : chAt ops k with
    | true =>
      have e2 : cnt (chAt ops) (k + 1) = cnt (chAt ops) k + 1 := by rw [cnt_succ, hc]; rfl
      simp only [vers, hc]
      rw [hS (k + 1) (by omega)]
      cases j with
      | zero => rfl
      | succ j =>
        rw [List.getElem?_cons_succ, ih j (by omega), e2]
        congr 2; omega
    | false =>
      have e2 : cnt (chAt ops) (k + 1) = cnt (chAt ops) k := by rw [cnt_succ, hc]; rfl
      simp only [vers, hc]
      rw [← e2] at hj ⊢
      exact ih j hj
theorem AWp.drawV {id : Nat} {s : St} {Q : Exit → St → Prop} {l : List Nat} (hm : P.follows .mixedOrders = true) (hb : drawVB ops = true) (hl : List.range ops.size = l)
    (h : TR r P ops l s [] fun T rc => SameQ ops rc ∧ AllO r P ops (obl ops (masks ops.toList []) (chs ops) (vers ops s.st rc) rc) ∧ Q .normal T) : AWp r P (.region id ops true) s Q := fun G g w a B QQ hr hB hd k => by
  subst hl
  have hT := textV hb
  have h' : TR r P ops ((List.range ops.size).map (0 + ·)) s [] fun T rc => SameQ ops rc ∧ AllO r P ops (obl ops (masks ops.toList []) (chs ops) (vers ops s.st rc) rc) ∧ Q .normal T := by
    have : (List.range ops.size).map (0 + ·) = List.range ops.size := by
      have : (List.range ops.size).map (fun x => 0 + x) = (List.range ops.size).map (fun x => x) := List.map_congr_left fun x _ => Nat.zero_add x
      rw [this, List.map_id']
    rw [this]; exact h
  obtain ⟨se, xs, h0, h1, hq, ho, hQ⟩ := TR.collect _ _ _ _ h'
  rw [List.nil_append] at hq ho
  rw [Nat.zero_add] at hQ
  have hq' : ∀ i, i < ops.size → chAt ops i = false → (se (i + 1)).st = (se i).st := fun i hi hc => by
    have := SameQ_mem hq ⟨0 + i, se (0 + i), xs (0 + i), (se (0 + i + 1)).st⟩ (List.mem_map.2 ⟨i, List.mem_range.2 hi, rfl⟩) (by rw [Nat.zero_add]; exact hc)
    simp only [Nat.zero_add] at this
    exact this
  have hS := stV_eq h0 hq'
  have hnt : ∀ i, i ≤ ops.size → (se i).nt = s.nt := fun i => by
    induction i with
    | zero => intro _; rw [h0]
    | succ i ih =>
      intro hi
      rw [(h1 i (Nat.zero_le _) (by omega)).2]
      have : (putS (se i) (dstOf ops i) (xs i) (se (i + 1)).st).nt = (se i).nt := by cases dstOf ops i <;> rfl
      rw [this]; exact ih (by omega)
  have hget : ∀ i t, i < ops.size → (se (i + 1)).get t = if dstOf ops i = some t then xs i else (se i).get t := fun i t hi => by
    rw [(h1 i (Nat.zero_le _) (by omega)).2]
    cases hdo : dstOf ops i with
    | none => simp [putS]; rfl
    | some d =>
      show look ((d, xs i) :: (se i).env) t = _
      by_cases e : d = t
      · subst e; rw [look_cons_eq]; simp
      · rw [look_cons_ne e]; simp [e]; rfl
  have D2 : ∀ i t, i ≤ ops.size → (∀ j, j < i → dstOf ops j ≠ some t) → (se i).get t = s.get t := fun i => by
    induction i with
    | zero => intro t _ _; rw [h0]
    | succ i ih =>
      intro t hi hn
      rw [hget i t (by omega), if_neg (hn i (Nat.lt_succ_self i))]
      exact ih t (by omega) fun j hj => hn j (by omega)
  have D1 : ∀ i j t, i ≤ ops.size → j < i → dstOf ops j = some t → (se i).get t = xs j := fun i => by
    induction i with
    | zero => intro j t _ hj _; omega
    | succ i ih =>
      intro j t hi hj hjt
      rw [hget i t (by omega)]
      by_cases e : j = i
      · subst e; rw [if_pos hjt]
      · rw [if_neg fun h => e (hT.d i t (by omega) h j (by omega) hjt)]
        exact ih j t (by omega) (by omega) hjt
  have hlk : ∀ i m, i ≤ ops.size → lookS ops i ⟨s.nt, (se i).env, m⟩ = lookS ops i ⟨(se i).nt, (se i).env, m⟩ := fun i m hi => by rw [hnt i hi]
  have hM : (chs ops).length = cnt (chAt ops) ops.size := rfl
  have hv : ∀ m, m ≤ cnt (chAt ops) ops.size → (vers ops s.st ((List.range ops.size).map fun j => ⟨0 + j, se (0 + j), xs (0 + j), (se (0 + j + 1)).st⟩))[m]? = some (stV ops s.st se m) := fun m hm => by
    have := vers_get (xs := xs) hS ops.size 0 (by omega) m (by simpa [cnt] using hm)
    simpa [cnt, stV] using this
  have ev0 : Evo s.st g w s.st g { w with drawn := w.drawn + 1 } := .below ⟨rfl, rfl, rfl, Nat.le_refl _, fun _ _ => rfl⟩
  have sr0 : SR G s.st g { w with drawn := w.drawn + 1 } := hr.sr.below (w := w) (w' := { w with drawn := w.drawn + 1 }) ⟨rfl, rfl, rfl, Nat.le_refl _, fun _ _ => rfl⟩
  refine wpIn_region_any hm ?_
  refine drawV_any (G := G) hT (s0 := s) (se := se) (xs := xs) (S := stV ops s.st se) (g0 := g) (w0 := w) (a0 := a) (Q := Q .normal) hS D1 D2 (fun i hi => ?_) (fun i m hi hc hmM hok => ?_) ?_ (fun s' g' w' a' qs hr' he' hd' => k _ s' g' w' a' qs hr' he' (by rw [hd']; exact hd.evo hr.sr he')) ops.size _ a g _ 0 (by simp) ?_ ?_ ?_ (Nat.zero_le _) hr.size sr0 ?_ ?_ ev0 rfl
  · have := (h1 i (Nat.zero_le _) (by omega)).1
    rw [← hS i (by omega), ← hS (i + 1) (by omega), hlk i _ (by omega)]
    exact this
  · by_cases e : m = cnt (chAt ops) i
    · subst e
      have := (h1 i (Nat.zero_le _) (by omega)).1
      rw [hq' i hi hc] at this
      rw [← hS i (by omega), hlk i _ (by omega)]
      exact this
    · have hmem := obl_mem (ops := ops) (ms := masks ops.toList []) (cs := chs ops) (S := vers ops s.st ((List.range ops.size).map fun j => ⟨0 + j, se (0 + j), xs (0 + j), (se (0 + j + 1)).st⟩)) (t := ⟨0 + i, se (0 + i), xs (0 + i), (se (0 + i + 1)).st⟩) (by rw [Nat.zero_add]; exact hc) (m := m) hmM
        (by simp only [Nat.zero_add]; exact hok) (by simp only [Nat.zero_add]; unfold chs; rw [cnt_below _ (by omega)]; exact e) (hv m hmM) (List.mem_map.2 (⟨i, List.mem_range.2 hi, rfl⟩ : ∃ a, a ∈ List.range ops.size ∧ (fun j => (⟨0 + j, se (0 + j), xs (0 + j), (se (0 + j + 1)).st⟩ : TRec)) a = ⟨0 + i, se (0 + i), xs (0 + i), (se (0 + i + 1)).st⟩))
      have := AllO_mem ho _ hmem
      simp only [Nat.zero_add] at this
      rw [lookS_st] at this
      rw [hlk i _ (by omega)]
      exact this
  · have e : (⟨s.nt, (se ops.size).env, stV ops s.st se (cnt (chAt ops) ops.size)⟩ : St) = se ops.size := by
      rw [← hS _ (Nat.le_refl _), ← hnt _ (Nat.le_refl _)]
    rw [e]; exact hQ
  · unfold left
    have : (List.range ops.size).filter (fun j => !(Array.replicate ops.size false).getD j true) = List.range ops.size := by
      rw [List.filter_eq_self]
      intro j hj
      have := List.mem_range.1 hj
      simp [this]
    rw [this, List.length_range]
  · intro i o hi ho e hem hbe
    exfalso
    have := (Array.getElem?_eq_some_iff.1 ho).1
    simp [this] at hi
  · intro j hj _
    simp [hj]
  · intro j t hj _ hl
    simp [hj] at hl
  · intro t _
    exact (hr.slots t).evo ev0
/-! ### for the tactics -/
def advT (A : Ar) (tab : List TI) (ops : Array Oper) (D G : List Nat) : List Nat → St → List TRec → List Nat × St × List TRec
  | [], s, rc => ([], s, rc)
  | i :: rest, s, rc => match ops[i]? with
    | some o => match hint ops G (lookS ops i s) o && !stops D o with
      | true => match gd ops (lookS ops i s) o.guard with
        | some true => match ev1 A tab (lookS ops i s) o.op with
          | some (x, st') => match dstOk (lookS ops i s) o.dst with
            | true => advT A tab ops D G rest (putS s o.dst x st') (rc ++ [⟨i, s, x, st'⟩])
            | false => (i :: rest, s, rc)
          | none => (i :: rest, s, rc)
        | some false => match dstOk (lookS ops i s) o.dst with
          | true => advT A tab ops D G rest (putS s o.dst (.tup []) s.st) (rc ++ [⟨i, s, .tup [], s.st⟩])
          | false => (i :: rest, s, rc)
        | none => (i :: rest, s, rc)
      | false => (i :: rest, s, rc)
    | none => (i :: rest, s, rc)
theorem TR.adv {A : Ar} {tab : List TI} (hA : A = real) (hT : TabOk P tab) {D Gh : List Nat} {Q : St → List TRec → Prop} : ∀ (l : List Nat) (s : St) (rc : List TRec), TR r P ops (advT A tab ops D Gh l s rc).1 (advT A tab ops D Gh l s rc).2.1 (advT A tab ops D Gh l s rc).2.2 Q → TR r P ops l s rc Q
  | [], s, rc, h => h
  | i :: rest, s, rc, h => by
    simp only [advT] at h
    cases ho : ops[i]? with
    | none => simp only [ho] at h; exact h
    | some o =>
      simp only [ho] at h
      have hdo : dstOf ops i = o.dst := by simp [dstOf, ho]
      cases hh : (hint ops Gh (lookS ops i s) o && !stops D o) with
      | false => simp only [hh] at h; exact h
      | true =>
        simp only [hh] at h
        cases hg : gd ops (lookS ops i s) o.guard with
        | none => simp only [hg] at h; exact h
        | some b =>
          cases b with
          | true =>
            simp only [hg] at h
            cases he : ev1 A tab (lookS ops i s) o.op with
            | none => simp only [he] at h; exact h
            | some p =>
              obtain ⟨x, st'⟩ := p
              simp only [he] at h
              cases hd : dstOk (lookS ops i s) o.dst with
              | false => simp only [hd] at h; exact h
              | true =>
                simp only [hd] at h
                refine ⟨x, st', fun rest' Q' k => ?_, by rw [hdo]; exact TR.adv hA hT rest _ _ h⟩
                rw [hdo] at k
                exact AOL.step ho hg hd (ev1_nd he) (ev1_mem hA hT he) k
          | false =>
            simp only [hg] at h
            cases hd : dstOk (lookS ops i s) o.dst with
            | false => simp only [hd] at h; exact h
            | true =>
              simp only [hd] at h
              refine ⟨.tup [], s.st, fun rest' Q' k => ?_, by rw [hdo]; exact TR.adv hA hT rest _ _ h⟩
              refine AOL.skip ho hg hd ?_
              rw [hdo] at k
              rw [lookS_st]
              exact k
def tnxt (A : Ar) (tab : List TI) (ops : Array Oper) (D G : List Nat) (l : List Nat) (s : St) (rc : List TRec) : List Nat × St × List TRec × Ev := match advT A tab ops D G l s rc with
  | (l', s', rc') => (l', s', rc', qevOf D G ops l' s')
def TRg (D G : List Nat) (r : Option Nat) (P : Program) (ops : Array Oper) (l : List Nat) (s : St) (rc : List TRec) (Q : St → List TRec → Prop) : Prop := TR r P ops l s rc Q
def TX (D G : List Nat) (r : Option Nat) (P : Program) (ops : Array Oper) (l : List Nat) (s : St) (rc : List TRec) (Q : St → List TRec → Prop) (ev : Ev) : Prop := qevOf D G ops l s = ev → TR r P ops l s rc Q
variable {D Gh : List Nat} {Q : St → List TRec → Prop}
theorem TRg.nx {A : Ar} {tab : List TI} (hA : A = real) (hT : TabOk P tab) {l l' : List Nat} {s s' : St} {rc rc' : List TRec} {ev : Ev} (h : tnxt A tab ops D Gh l s rc = (l', s', rc', ev)) (k : TX D Gh r P ops l' s' rc' Q ev) : TRg D Gh r P ops l s rc Q := by
  simp only [tnxt, Prod.mk.injEq] at h
  obtain ⟨h1, h2, h3, h4⟩ := h
  refine TR.adv hA hT (D := D) (Gh := Gh) l s rc ?_
  rw [h1, h2, h3]
  rw [h1, h2] at h4
  exact k h4
theorem TRg.pass {l : List Nat} {s : St} {rc : List TRec} (k : TRg D Gh r P ops l s rc Q) : TRg D Gh r P ops l s rc Q := k
theorem TX.done {s : St} {rc : List TRec} (h : Q s rc) : TX D Gh r P ops [] s rc Q .done := fun _ => h
theorem TX.gt {j : Nat} {l : List Nat} {s : St} {rc : List TRec} (k : TRg D (j :: Gh) r P ops l s rc Q) : TX D Gh r P ops l s rc Q (.guard j true) := fun _ => k
theorem TX.gf {j : Nat} {l : List Nat} {s : St} {rc : List TRec} (k : TRg D (j :: Gh) r P ops l s rc Q) : TX D Gh r P ops l s rc Q (.guard j false) := fun _ => k
theorem TX.gs {j : Nat} {b : Bool} {l : List Nat} {s : St} {rc : List TRec} (h1 : b = true → TRg D (j :: Gh) r P ops l s rc Q) (h2 : b = false → TRg D (j :: Gh) r P ops l s rc Q) : TX D Gh r P ops l s rc Q (.guard j b) := fun _ => by
  cases b with
  | true => exact h1 rfl
  | false => exact h2 rfl
theorem TX.one {ev : Ev} {i : Nat} {rest : List Nat} {s : St} {rc : List TRec} {x : AV} {st' : List AObj} (h : One r P ops i (lookS ops i s) x st') (k : TRg D Gh r P ops rest (putS s (dstOf ops i) x st') (rc ++ [⟨i, s, x, st'⟩]) Q) : TX D Gh r P ops (i :: rest) s rc Q ev := fun _ => ⟨x, st', h, k⟩
theorem TX.call {i : Nat} {rest : List Nat} {s : St} {rc : List TRec} {f : FuncId} {p : List PV} {y : PV} (hc : PureCalls P f p y) (k : TRg D Gh r P ops rest (putS s (dstOf ops i) y.av s.st) (rc ++ [⟨i, s, y.av, s.st⟩]) Q) : TX D Gh r P ops (i :: rest) s rc Q (.call f p) := fun h => by
  obtain ⟨op, h1, h2⟩ := evOf_op (l := rest) (i := i) h (by simp) (by simp) (by simp)
  obtain ⟨x, args, ts, first, cap, rfl, h3, h4⟩ := opEv_call h2
  have := One.call (r := r) false h1 h3 h4 hc rfl
  rw [lookS_st] at this
  exact ⟨_, _, this, k⟩
theorem TX.callO {i : Nat} {rest : List Nat} {s : St} {rc : List TRec} {own : Bool} {f : FuncId} {p : List PV} {q : List (Nat × Nat)} {y : PV} (hc : PureCalls P f p y) (hq : allEq q) (hn : (!own || noSl y) = true) (k : TRg D Gh r P ops rest (putS s (dstOf ops i) y.av s.st) (rc ++ [⟨i, s, y.av, s.st⟩]) Q) : TX D Gh r P ops (i :: rest) s rc Q (.callO own f p q) := fun h => by
  obtain ⟨op, h1, h2⟩ := evOf_op (l := rest) (i := i) h (by simp) (by simp) (by simp)
  obtain ⟨x, args, ts, first, cap, rfl, h3, h4⟩ := opEv_callO h2
  have := One.callO (r := r) own h1 h3 h4 hc hn hq
  rw [lookS_st] at this
  exact ⟨_, _, this, k⟩
theorem TX.raw {ev : Ev} {l : List Nat} {s : St} {rc : List TRec} (h : TR r P ops l s rc Q) : TX D Gh r P ops l s rc Q ev := fun _ => h
theorem TX.k (n : Nat) {l : List Nat} {s : St} {rc : List TRec} (h : TX D Gh r P ops l s rc Q (.one n)) : TX D Gh r P ops l s rc Q (.one n) := h
theorem TX.kC {f : FuncId} {p : List PV} {l : List Nat} {s : St} {rc : List TRec} (h : TX D Gh r P ops l s rc Q (.call f p)) : TX D Gh r P ops l s rc Q (.call f p) := h
theorem TX.kO {own : Bool} {f : FuncId} {p : List PV} {q : List (Nat × Nat)} {l : List Nat} {s : St} {rc : List TRec} (h : TX D Gh r P ops l s rc Q (.callO own f p q)) : TX D Gh r P ops l s rc Q (.callO own f p q) := h
/-- What is left behind the walk: the obligations, written out. -/
def Fin3 (r : Option Nat) (P : Program) (ops : Array Oper) (l : List (Nat × St × AV)) (sq : Prop) (K : Prop) : Prop := sq ∧ AllO r P ops l ∧ K
theorem AWp.drawVG (D : List Nat) {id : Nat} {s : St} {Q : Exit → St → Prop} {l : List Nat} (hm : P.follows .mixedOrders = true) (hb : drawVB ops = true) (hl : List.range ops.size = l)
    (h : TRg D [] r P ops l s [] fun T rc => Fin3 r P ops (obl ops (masks ops.toList []) (chs ops) (vers ops s.st rc) rc) (SameQ ops rc) (Q .normal T)) : AWp r P (.region id ops true) s Q := AWp.drawV hm hb hl h
theorem Fin3.of {l l' : List (Nat × St × AV)} {sq K : Prop} (e : l = l') (h1 : sq) (h2 : AllO r P ops l') (h3 : K) : Fin3 r P ops l sq K := ⟨h1, e ▸ h2, h3⟩
theorem AllO.nil : AllO r P ops [] := trivial
theorem AllO.cons {i : Nat} {s : St} {x : AV} {l : List (Nat × St × AV)} (h : One r P ops i s x s.st) (k : AllO r P ops l) : AllO r P ops ((i, s, x) :: l) := ⟨h, k⟩
theorem AllO.consX {i : Nat} {s : St} {x x' : AV} {st' : List AObj} {l : List (Nat × St × AV)} (h : One r P ops i s x' st') (e : x' = x) (e2 : st' = s.st) (k : AllO r P ops l) : AllO r P ops ((i, s, x) :: l) := by
  subst e e2
  exact ⟨h, k⟩
theorem AllO.pass {l : List (Nat × St × AV)} (k : AllO r P ops l) : AllO r P ops l := k
theorem AllO.call {i : Nat} {s : St} {x : AV} {l : List (Nat × St × AV)} {f : FuncId} {p : List PV} {y : PV} (h : callAt ops i s = some (f, p)) (hc : PureCalls P f p y) (e : y.av = x) (k : AllO r P ops l) : AllO r P ops ((i, s, x) :: l) := by
  subst e
  exact ⟨One.callF h hc, k⟩
def skipAt (ops : Array Oper) (i : Nat) (s : St) : Bool := match ops[i]? with
  | some o => match gd ops s o.guard with
    | some false => dstOk s o.dst
    | _ => false
  | none => false
theorem One.skipB {i : Nat} {s : St} (h : skipAt ops i s = true) : One r P ops i s (.tup []) s.st := fun rest Q k => by
  unfold skipAt at h
  split at h
  · rename_i o ho
    split at h
    · rename_i hg
      have hdo : dstOf ops i = o.dst := by simp [dstOf, ho]
      rw [hdo] at k
      exact AOL.skip ho hg h k
    · simp at h
  · simp at h
end fin
end Go.Proofs.Ytgemcogfpkolfaa.Aw

/- Plain words that many contracts use: what holds of all places, the first place, strings. -/
set_option linter.unusedVariables false
set_option linter.unusedSimpArgs false
namespace Go.Proofs.Ytgemcogfpkolfaa.Aw
open Go Go.RowKit
def allB (n : Nat) (p : Nat → Bool) : Bool := (List.range n).all p
theorem allB_t {n : Nat} {p : Nat → Bool} (h : ∀ i, i < n → p i = true) : allB n p = true := by
  unfold allB; rw [List.all_eq_true]; exact fun i hi => h i (List.mem_range.1 hi)
theorem allB_f {n : Nat} {p : Nat → Bool} {i : Nat} (hi : i < n) (h : p i = false) : allB n p = false := by
  cases hb : allB n p with
  | false => rfl
  | true =>
    unfold allB at hb
    rw [List.all_eq_true] at hb
    rw [hb i (List.mem_range.2 hi)] at h
    cases h
theorem allB_get {n : Nat} {p : Nat → Bool} (h : allB n p = true) {i : Nat} (hi : i < n) : p i = true := by
  unfold allB at h
  rw [List.all_eq_true] at h
  exact h i (List.mem_range.2 hi)
/-- The first place of which something is so; -1: none. -/
def idxB (n : Nat) (p : Nat → Bool) : Int := match (List.range n).find? p with
  | some i => (i : Int)
  | none => -1
theorem idxB_none {n : Nat} {p : Nat → Bool} (h : ∀ i, i < n → p i = false) : idxB n p = -1 := by
  have : (List.range n).find? p = none := by
    rw [List.find?_eq_none]
    intro i hi
    rw [h i (List.mem_range.1 hi)]; simp
  unfold idxB; rw [this]
theorem idxB_at {n : Nat} {p : Nat → Bool} {i : Nat} (hi : i < n) (h : p i = true) (hf : ∀ j, j < i → p j = false) : idxB n p = i := by
  have : (List.range n).find? p = some i := by
    rw [List.find?_range_eq_some]
    exact ⟨h, List.mem_range.2 hi, fun j hj => by rw [hf j hj]; rfl⟩
  unfold idxB; rw [this]
theorem idxB_cases (n : Nat) (p : Nat → Bool) : (idxB n p = -1 ∧ ∀ i, i < n → p i = false) ∨ ∃ i, i < n ∧ idxB n p = i ∧ p i = true ∧ ∀ j, j < i → p j = false := by
  unfold idxB
  cases h : (List.range n).find? p with
  | none =>
    left
    refine ⟨rfl, fun i hi => ?_⟩
    rw [List.find?_eq_none] at h
    have := h i (List.mem_range.2 hi)
    simpa using this
  | some i =>
    right
    rw [List.find?_range_eq_some] at h
    obtain ⟨h1, h2, h3⟩ := h
    exact ⟨i, List.mem_range.1 h2, rfl, h1, fun j hj => by have := h3 j hj; simpa using this⟩
theorem idxB_bound (n : Nat) (p : Nat → Bool) : -1 ≤ idxB n p ∧ idxB n p < n := by
  rcases idxB_cases n p with ⟨h, _⟩ | ⟨i, hi, h, _⟩ <;> rw [h] <;> omega
/-- Two texts are the same. -/
def eqS (a b : ByteArray) : Bool := decide (a.toList = b.toList)
abbrev SP (s : ByteArray) : PV := .c (.lit (.string s))
abbrev UP (z : Int) : PV := .c (.lit (.int .u8 z))
end Go.Proofs.Ytgemcogfpkolfaa.Aw

/- Contracts of the document's answer of layer 1: names, constructors, rows of them. -/
set_option linter.unusedVariables false
set_option linter.unusedSimpArgs false
namespace Go.Proofs.Ytgemcogfpkolfaa.Aw
open Go Go.RowKit
set_option maxRecDepth 10000
attribute [local irreducible] AWp AOL QS One AOLg QSg NX QX TRg TX AllO Fin3
theorem stepB {p : Nat → Bool} {k : Nat} (h : ∀ i, i < k → p i = true) (hk : p k = true) : ∀ i, i < k + 1 → p i = true := fun i hi => by
  rcases Nat.lt_or_ge i k with h1 | h1
  · exact h i h1
  · obtain rfl : i = k := by omega
    exact hk
def smallM (c : Int) : Bool := decide (97 ≤ c) && decide (c ≤ 122)
def bigM (c : Int) : Bool := decide (65 ≤ c) && decide (c ≤ 90)
def figM (c : Int) : Bool := (decide (48 ≤ c) && decide (c ≤ 57)) || decide (c = 95)
def nameOk (s : ByteArray) (i : Nat) : Bool := (smallM (sb s i) || bigM (sb s i)) || (!decide (i = 0) && figM (sb s i))
def nameM (s : ByteArray) : Bool := decide (1 ≤ s.size) && decide (s.size ≤ 20) && allB s.size (nameOk s)
def conM (s : ByteArray) : Bool := nameM s && smallM (sb s 0)
def varM (s : ByteArray) : Bool := nameM s && bigM (sb s 0)
def partOk (s : ByteArray) (i : Nat) : Bool := decide (sb s i = 43) || decide (sb s i = 45) || decide (sb s i = 61)
def argsM (s : ByteArray) : Bool := allB s.size (partOk s) && decide (s.size ≤ 8)
abbrev Sg := ByteArray × ByteArray
def sgN (n : Sg) : ByteArray := n.1
def sgA (n : Sg) : ByteArray := n.2
def encG (A : Ar) (n : Sg) : List IC := [.lit (.string (hid A (sgN n))), .lit (.string (hid A (sgA n)))]
def findG (l : List Sg) (s : ByteArray) : Int := idxB l.length fun i => eqS (sgN (l.getD i default)) s
def sigOk (l : List Sg) (i : Nat) : Bool := (conM (sgN (l.getD i default)) && argsM (sgA (l.getD i default))) && decide ((i : Int) ≤ findG l (sgN (l.getD i default)))
def rightG (l : List Sg) : Bool := allB l.length (sigOk l) && decide (l.length ≤ 64)
variable {A : Ar} (hA : A = real)
include hA
theorem small_c (c : Int) : PureCalls Try.prog 50 [UP c] (BP (hid A (smallM c))) := by
  refine PureCalls.of Try.func50 rfl (by kernel_rfl) rfl ?_
  try first | refine AOLg.of [] ?_ | refine QSg.of [] ?_
  repeat' (first
    | (refine AWp.pass ?_; first
        | refine AWp.seq ?_
        | refine AWp.block ?_
        | refine AWp.skip ?_
        | refine AWp.regG [] (by conv => lhs; cbv) ?_
        | refine AWp.cond_t rfl ?_
        | refine AWp.cond_f rfl ?_
        | (refine AWp.cond rfl ?_ ?_ <;> intro hc <;> (try rw [hc]) <;> ((try simp only [zn] at hc) <;> (try simp (disch := omega) only [zz hA, zb, zy, reduceCtorEq, Bool.false_eq_true, Int.reduceLT, Int.reduceLE, Int.reduceNeg] at hc) <;> (try simp only [zw] at hc)) <;> (try (exfalso; omega)))
        | refine AWp.exit ?_
        | refine AWp.ret ⟨.inr rfl, _, RetOk.ev tabOk (by conv => lhs; cbv), ?_⟩)
    | (refine AOLg.pass ?_; refine AOLg.nx hA tabOk (by conv => lhs; cbv) ?_; first
        | refine NX.done ?_
        | refine NX.gt ?_
        | refine NX.gf ?_
        | (refine NX.gs ?_ ?_ <;> intro hc <;> rw [hc] <;> ((try simp only [zn] at hc) <;> (try simp (disch := omega) only [zz hA, zb, zy, reduceCtorEq, Bool.false_eq_true, Int.reduceLT, Int.reduceLE, Int.reduceNeg] at hc) <;> (try simp only [zw] at hc)) <;> (try (exfalso; omega)))
        | refine NX.raw ?_)
    | refine Thn.exit ?_
    | refine Blk.here ?_
    | refine Blk.other (by decide) ?_
    | refine ⟨.inl rfl, _, RetOk.ev tabOk (by conv => lhs; cbv), ?_⟩
    | fail)
  all_goals (refine rPV_then (by conv => lhs; cbv) ?_; refine congrArg (fun b => PV.c (IC.lit (Value.bool b))) ?_; rw [Bool.eq_iff_iff]; (try simp only [zn]); (try simp (disch := omega) only [zz hA, zb, zy, reduceCtorEq, Bool.false_eq_true, Int.reduceLT, Int.reduceLE, Int.reduceNeg, smallM, Bool.and_eq_true, Bool.or_eq_true, Bool.not_eq_true, decide_eq_true_eq, decide_eq_false_iff_not, true_iff, iff_true, false_iff, iff_false, and_true, true_and, or_true, true_or, and_false, false_and, or_false, false_or, not_true_eq_false, not_false_eq_true]); first | done | omega)
theorem big_c (c : Int) : PureCalls Try.prog 55 [UP c] (BP (hid A (bigM c))) := by
  refine PureCalls.of Try.func55 rfl (by kernel_rfl) rfl ?_
  try first | refine AOLg.of [] ?_ | refine QSg.of [] ?_
  repeat' (first
    | (refine AWp.pass ?_; first
        | refine AWp.seq ?_
        | refine AWp.block ?_
        | refine AWp.skip ?_
        | refine AWp.regG [] (by conv => lhs; cbv) ?_
        | refine AWp.cond_t rfl ?_
        | refine AWp.cond_f rfl ?_
        | (refine AWp.cond rfl ?_ ?_ <;> intro hc <;> (try rw [hc]) <;> ((try simp only [zn] at hc) <;> (try simp (disch := omega) only [zz hA, zb, zy, reduceCtorEq, Bool.false_eq_true, Int.reduceLT, Int.reduceLE, Int.reduceNeg] at hc) <;> (try simp only [zw] at hc)) <;> (try (exfalso; omega)))
        | refine AWp.exit ?_
        | refine AWp.ret ⟨.inr rfl, _, RetOk.ev tabOk (by conv => lhs; cbv), ?_⟩)
    | (refine AOLg.pass ?_; refine AOLg.nx hA tabOk (by conv => lhs; cbv) ?_; first
        | refine NX.done ?_
        | refine NX.gt ?_
        | refine NX.gf ?_
        | (refine NX.gs ?_ ?_ <;> intro hc <;> rw [hc] <;> ((try simp only [zn] at hc) <;> (try simp (disch := omega) only [zz hA, zb, zy, reduceCtorEq, Bool.false_eq_true, Int.reduceLT, Int.reduceLE, Int.reduceNeg] at hc) <;> (try simp only [zw] at hc)) <;> (try (exfalso; omega)))
        | refine NX.raw ?_)
    | refine Thn.exit ?_
    | refine Blk.here ?_
    | refine Blk.other (by decide) ?_
    | refine ⟨.inl rfl, _, RetOk.ev tabOk (by conv => lhs; cbv), ?_⟩
    | fail)
  all_goals (refine rPV_then (by conv => lhs; cbv) ?_; refine congrArg (fun b => PV.c (IC.lit (Value.bool b))) ?_; rw [Bool.eq_iff_iff]; (try simp only [zn]); (try simp (disch := omega) only [zz hA, zb, zy, reduceCtorEq, Bool.false_eq_true, Int.reduceLT, Int.reduceLE, Int.reduceNeg, bigM, Bool.and_eq_true, Bool.or_eq_true, Bool.not_eq_true, decide_eq_true_eq, decide_eq_false_iff_not, true_iff, iff_true, false_iff, iff_false, and_true, true_and, or_true, true_or, and_false, false_and, or_false, false_or, not_true_eq_false, not_false_eq_true]); first | done | omega)
theorem name_c (s : ByteArray) : PureCalls Try.prog 49 [SP s] (BP (hid A (nameM s))) := by
  refine PureCalls.of Try.func49 rfl (by kernel_rfl) rfl ?_
  try first | refine AOLg.of [] ?_ | refine QSg.of [] ?_
  repeat' (first
    | (refine AWp.pass ?_; first
        | refine AWp.seq ?_
        | refine AWp.block ?_
        | refine AWp.skip ?_
        | refine AWp.regG [] (by conv => lhs; cbv) ?_
        | refine AWp.cond_t rfl ?_
        | refine AWp.cond_f rfl ?_
        | (refine AWp.cond rfl ?_ ?_ <;> intro hc <;> (try rw [hc]) <;> ((try simp only [zn] at hc) <;> (try simp (disch := omega) only [zz hA, zb, zy, reduceCtorEq, Bool.false_eq_true, Int.reduceLT, Int.reduceLE, Int.reduceNeg] at hc) <;> (try simp only [zw] at hc)) <;> (try (exfalso; omega)))
        | refine AWp.exit ?_
        | refine AWp.ret ⟨.inr rfl, _, RetOk.ev tabOk (by conv => lhs; cbv), ?_⟩)
    | (refine AOLg.pass ?_; refine AOLg.nx hA tabOk (by conv => lhs; cbv) ?_; first
        | refine NX.done ?_
        | refine NX.gt ?_
        | refine NX.gf ?_
        | (refine NX.gs ?_ ?_ <;> intro hc <;> rw [hc] <;> ((try simp only [zn] at hc) <;> (try simp (disch := omega) only [zz hA, zb, zy, reduceCtorEq, Bool.false_eq_true, Int.reduceLT, Int.reduceLE, Int.reduceNeg] at hc) <;> (try simp only [zw] at hc)) <;> (try (exfalso; omega)))
        | ((first | (refine NX.k 7 ?_; first | refine NX.one (One.concatM hA rfl rfl rfl ?_) ?_) | (refine NX.k 8 ?_; first | refine NX.one (One.eqBoolM hA tabOk rfl rfl rfl rfl rfl) ?_) | (refine NX.k 10 ?_; first | refine NX.one (One.lenOwnM hA tabOk rfl rfl rfl rfl) ?_) | (refine NX.k 13 ?_; first | refine NX.one (One.byteM hA tabOk rfl rfl rfl rfl rfl ?_ ?_) ?_)) <;> (first | refine AOLg.pass ?_ | (((try simp only [zn]) <;> (try simp (disch := omega) only [zz hA, zb, zy, reduceCtorEq, Bool.false_eq_true, Int.reduceLT, Int.reduceLE, Int.reduceNeg]) <;> (try simp only [zw])) <;> omega)))
        | refine NX.raw ?_)
    | refine Thn.exit ?_
    | refine Blk.here ?_
    | refine Blk.other (by decide) ?_
    | refine ⟨.inl rfl, _, RetOk.ev tabOk (by conv => lhs; cbv), ?_⟩
    | fail)
  · (refine rPV_then (by conv => lhs; cbv) ?_; refine congrArg (fun b => PV.c (IC.lit (Value.bool b))) ?_; rw [Bool.eq_iff_iff]; (try simp only [zn]); (try simp (disch := omega) only [zz hA, zb, zy, reduceCtorEq, Bool.false_eq_true, Int.reduceLT, Int.reduceLE, Int.reduceNeg, nameM, Bool.and_eq_true, Bool.or_eq_true, Bool.not_eq_true, decide_eq_true_eq, decide_eq_false_iff_not, true_iff, iff_true, false_iff, iff_false, and_true, true_and, or_true, true_or, and_false, false_and, or_false, false_or, not_true_eq_false, not_false_eq_true]); first | done | omega)
  · (refine rPV_then (by conv => lhs; cbv) ?_; refine congrArg (fun b => PV.c (IC.lit (Value.bool b))) ?_; rw [Bool.eq_iff_iff]; (try simp only [zn]); (try simp (disch := omega) only [zz hA, zb, zy, reduceCtorEq, Bool.false_eq_true, Int.reduceLT, Int.reduceLE, Int.reduceNeg, nameM, Bool.and_eq_true, Bool.or_eq_true, Bool.not_eq_true, decide_eq_true_eq, decide_eq_false_iff_not, true_iff, iff_true, false_iff, iff_false, and_true, true_and, or_true, true_or, and_false, false_and, or_false, false_or, not_true_eq_false, not_false_eq_true]); first | done | omega)
  rename_i hs1
  refine AWp.loopU (fun k : Nat => [(3, .ic (.lit (.int .i64 (hid A (cN k)))))]) (fun _ => []) (fun k => s.size - k) (fun k => k ≤ s.size ∧ ∀ i, i < k → nameOk s i = true) 0 (by conv => lhs; cbv) ⟨Nat.zero_le _, by simp⟩ (by (repeat' (first | exact subE.nil | refine subE.cons rfl ?_ | refine subE.int rfl ?_ ?_ | refine subE.bool rfl ?_ ?_ | refine subE.str rfl ?_ ?_ | refine subE.sl rfl ?_ ?_)) <;> simp [hA, real, hid, cN]) rfl ?_
  rintro k ⟨hk, hok⟩
  by_cases hlt : k < s.size
  · have hno : nameOk s k = false → nameM s = false := fun h => by unfold nameM; rw [allB_f hlt h, Bool.and_false]
    try first | refine AOLg.of [] ?_ | refine QSg.of [] ?_
    repeat' (first
      | (refine AWp.pass ?_; first
          | refine AWp.seq ?_
          | refine AWp.block ?_
          | refine AWp.skip ?_
          | refine AWp.regG [] (by conv => lhs; cbv) ?_
          | refine AWp.cond_t rfl ?_
          | refine AWp.cond_f rfl ?_
          | (refine AWp.cond rfl ?_ ?_ <;> intro hc <;> (try rw [hc]) <;> ((try simp only [zn] at hc) <;> (try simp (disch := omega) only [zz hA, zb, zy, reduceCtorEq, Bool.false_eq_true, Int.reduceLT, Int.reduceLE, Int.reduceNeg] at hc) <;> (try simp only [zw] at hc)) <;> (try (exfalso; omega)))
          | refine AWp.exit ?_
          | refine AWp.ret ⟨.inr rfl, _, RetOk.ev tabOk (by conv => lhs; cbv), ?_⟩)
      | (refine AOLg.pass ?_; refine AOLg.nx hA tabOk (by conv => lhs; cbv) ?_; first
          | refine NX.done ?_
          | refine NX.gt ?_
          | refine NX.gf ?_
          | (refine NX.gs ?_ ?_ <;> intro hc <;> rw [hc] <;> ((try simp only [zn] at hc) <;> (try simp (disch := omega) only [zz hA, zb, zy, reduceCtorEq, Bool.false_eq_true, Int.reduceLT, Int.reduceLE, Int.reduceNeg] at hc) <;> (try simp only [zw] at hc)) <;> (try (exfalso; omega)))
          | (refine NX.kC ?_; first | (with_reducible refine NX.call (small_c hA _) ?_) | (with_reducible refine NX.call (big_c hA _) ?_) | ((first | refine NX.call (small_c hA _) ?_ | refine NX.call (big_c hA _) ?_)) | fail)
          | (refine NX.kO ?_; (first | refine NX.callO (small_c hA _) (by simp [allEq]) rfl ?_ | refine NX.callO (big_c hA _) (by simp [allEq]) rfl ?_))
          | ((first | (refine NX.k 7 ?_; first | refine NX.one (One.concatM hA rfl rfl rfl ?_) ?_) | (refine NX.k 8 ?_; first | refine NX.one (One.eqBoolM hA tabOk rfl rfl rfl rfl rfl) ?_) | (refine NX.k 10 ?_; first | refine NX.one (One.lenOwnM hA tabOk rfl rfl rfl rfl) ?_) | (refine NX.k 13 ?_; first | refine NX.one (One.byteM hA tabOk rfl rfl rfl rfl rfl ?_ ?_) ?_)) <;> (first | refine AOLg.pass ?_ | (((try simp only [zn]) <;> (try simp (disch := omega) only [zz hA, zb, zy, reduceCtorEq, Bool.false_eq_true, Int.reduceLT, Int.reduceLE, Int.reduceNeg]) <;> (try simp only [zw])) <;> omega)))
          | refine NX.raw ?_)
      | refine Thn.exit ?_
      | refine Blk.here ?_
      | refine Blk.other (by decide) ?_
      | refine ⟨.inl rfl, _, RetOk.ev tabOk (by conv => lhs; cbv), ?_⟩
      | fail)
    all_goals first
      | (refine rPV_then (by conv => lhs; cbv) ?_
         rw [hno (by grind [nameOk, figM])]
         simp [hid_eq hA]; done)
      | skip
    all_goals
      refine ⟨k + 1, ?_, ?_, rfl, rfl, ?_, (by repeat' (first | exact subE.nil | refine subE.cons rfl ?_))⟩ <;> (try omega)
      repeat' (first | exact subE.nil | refine subE.cons rfl ?_ | refine subE.int rfl ?_ ?_ | refine subE.bool rfl ?_ ?_ | refine subE.str rfl ?_ ?_ | refine subE.sl rfl ?_ ?_)
    all_goals first
      | exact ⟨by omega, stepB hok (by grind [nameOk, figM])⟩
      | (((try simp only [zn]) <;> (try simp (disch := omega) only [zz hA, zb, zy, reduceCtorEq, Bool.false_eq_true, Int.reduceLT, Int.reduceLE, Int.reduceNeg]) <;> (try simp only [zw])) <;> omega)
  · have hyes : nameM s = true := by
      unfold nameM
      rw [allB_t fun i hi => hok i (by omega), decide_eq_true (p := 1 ≤ s.size) (by omega), decide_eq_true (p := s.size ≤ 20) (by omega)]; rfl
    try first | refine AOLg.of [] ?_ | refine QSg.of [] ?_
    repeat' (first
      | (refine AWp.pass ?_; first
          | refine AWp.seq ?_
          | refine AWp.block ?_
          | refine AWp.skip ?_
          | refine AWp.regG [] (by conv => lhs; cbv) ?_
          | refine AWp.cond_t rfl ?_
          | refine AWp.cond_f rfl ?_
          | (refine AWp.cond rfl ?_ ?_ <;> intro hc <;> (try rw [hc]) <;> ((try simp only [zn] at hc) <;> (try simp (disch := omega) only [zz hA, zb, zy, reduceCtorEq, Bool.false_eq_true, Int.reduceLT, Int.reduceLE, Int.reduceNeg] at hc) <;> (try simp only [zw] at hc)) <;> (try (exfalso; omega)))
          | refine AWp.exit ?_
          | refine AWp.ret ⟨.inr rfl, _, RetOk.ev tabOk (by conv => lhs; cbv), ?_⟩)
      | (refine AOLg.pass ?_; refine AOLg.nx hA tabOk (by conv => lhs; cbv) ?_; first
          | refine NX.done ?_
          | refine NX.gt ?_
          | refine NX.gf ?_
          | (refine NX.gs ?_ ?_ <;> intro hc <;> rw [hc] <;> ((try simp only [zn] at hc) <;> (try simp (disch := omega) only [zz hA, zb, zy, reduceCtorEq, Bool.false_eq_true, Int.reduceLT, Int.reduceLE, Int.reduceNeg] at hc) <;> (try simp only [zw] at hc)) <;> (try (exfalso; omega)))
          | ((first | (refine NX.k 7 ?_; first | refine NX.one (One.concatM hA rfl rfl rfl ?_) ?_) | (refine NX.k 8 ?_; first | refine NX.one (One.eqBoolM hA tabOk rfl rfl rfl rfl rfl) ?_) | (refine NX.k 10 ?_; first | refine NX.one (One.lenOwnM hA tabOk rfl rfl rfl rfl) ?_) | (refine NX.k 13 ?_; first | refine NX.one (One.byteM hA tabOk rfl rfl rfl rfl rfl ?_ ?_) ?_)) <;> (first | refine AOLg.pass ?_ | (((try simp only [zn]) <;> (try simp (disch := omega) only [zz hA, zb, zy, reduceCtorEq, Bool.false_eq_true, Int.reduceLT, Int.reduceLE, Int.reduceNeg]) <;> (try simp only [zw])) <;> omega)))
          | refine NX.raw ?_)
      | refine Thn.exit ?_
      | refine Blk.here ?_
      | refine Blk.other (by decide) ?_
      | refine ⟨.inl rfl, _, RetOk.ev tabOk (by conv => lhs; cbv), ?_⟩
      | fail)
    all_goals (refine rPV_then (by conv => lhs; cbv) ?_; refine congrArg (fun b => PV.c (IC.lit (Value.bool b))) ?_; rw [Bool.eq_iff_iff]; (try simp only [zn]); (try simp (disch := omega) only [zz hA, zb, zy, reduceCtorEq, Bool.false_eq_true, Int.reduceLT, Int.reduceLE, Int.reduceNeg, hyes, Bool.and_eq_true, Bool.or_eq_true, Bool.not_eq_true, decide_eq_true_eq, decide_eq_false_iff_not, true_iff, iff_true, false_iff, iff_false, and_true, true_and, or_true, true_or, and_false, false_and, or_false, false_or, not_true_eq_false, not_false_eq_true]); first | done | omega)
theorem con_c (s : ByteArray) : PureCalls Try.prog 40 [SP s] (BP (hid A (conM s))) := by
  refine PureCalls.of Try.func40 rfl (by kernel_rfl) rfl ?_
  by_cases hn : nameM s = true
  · have h1 : 1 ≤ s.size := by unfold nameM at hn; simp only [Bool.and_eq_true, decide_eq_true_eq] at hn; omega
    try first | refine AOLg.of [] ?_ | refine QSg.of [] ?_
    repeat' (first
      | (refine AWp.pass ?_; first
          | refine AWp.seq ?_
          | refine AWp.block ?_
          | refine AWp.skip ?_
          | refine AWp.regG [] (by conv => lhs; cbv) ?_
          | refine AWp.cond_t rfl ?_
          | refine AWp.cond_f rfl ?_
          | (refine AWp.cond rfl ?_ ?_ <;> intro hc <;> (try rw [hc]) <;> ((try simp only [zn] at hc) <;> (try simp (disch := omega) only [zz hA, zb, zy, reduceCtorEq, Bool.false_eq_true, Int.reduceLT, Int.reduceLE, Int.reduceNeg] at hc) <;> (try simp only [zw] at hc)) <;> (try (exfalso; omega)))
          | refine AWp.exit ?_
          | refine AWp.ret ⟨.inr rfl, _, RetOk.ev tabOk (by conv => lhs; cbv), ?_⟩)
      | (refine AOLg.pass ?_; refine AOLg.nx hA tabOk (by conv => lhs; cbv) ?_; first
          | refine NX.done ?_
          | refine NX.gt ?_
          | refine NX.gf ?_
          | (refine NX.gs ?_ ?_ <;> intro hc <;> rw [hc] <;> ((try simp only [zn] at hc) <;> (try simp (disch := omega) only [zz hA, zb, zy, reduceCtorEq, Bool.false_eq_true, Int.reduceLT, Int.reduceLE, Int.reduceNeg] at hc) <;> (try simp only [zw] at hc)) <;> (try (exfalso; omega)))
          | (refine NX.kC ?_; first | (with_reducible refine NX.call (name_c hA _) ?_) | (with_reducible refine NX.call (small_c hA _) ?_) | ((first | refine NX.call (name_c hA _) ?_ | refine NX.call (small_c hA _) ?_)) | fail)
          | (refine NX.kO ?_; (first | refine NX.callO (name_c hA _) (by simp [allEq]) rfl ?_ | refine NX.callO (small_c hA _) (by simp [allEq]) rfl ?_))
          | ((first | (refine NX.k 13 ?_; first | refine NX.one (One.byteM hA tabOk rfl rfl rfl rfl rfl ?_ ?_) ?_)) <;> (first | refine AOLg.pass ?_ | (((try simp only [zn]) <;> (try simp (disch := omega) only [zz hA, zb, zy, reduceCtorEq, Bool.false_eq_true, Int.reduceLT, Int.reduceLE, Int.reduceNeg]) <;> (try simp only [zw])) <;> omega)))
          | refine NX.raw ?_)
      | refine Thn.exit ?_
      | refine Blk.here ?_
      | refine Blk.other (by decide) ?_
      | refine ⟨.inl rfl, _, RetOk.ev tabOk (by conv => lhs; cbv), ?_⟩
      | fail)
    all_goals first
      | (exfalso; simp_all; done)
      | (refine rPV_then (by conv => lhs; cbv) ?_
         simp [hid_eq hA, conM, hn]; done)
  · try first | refine AOLg.of [] ?_ | refine QSg.of [] ?_
    repeat' (first
      | (refine AWp.pass ?_; first
          | refine AWp.seq ?_
          | refine AWp.block ?_
          | refine AWp.skip ?_
          | refine AWp.regG [] (by conv => lhs; cbv) ?_
          | refine AWp.cond_t rfl ?_
          | refine AWp.cond_f rfl ?_
          | (refine AWp.cond rfl ?_ ?_ <;> intro hc <;> (try rw [hc]) <;> ((try simp only [zn] at hc) <;> (try simp (disch := omega) only [zz hA, zb, zy, reduceCtorEq, Bool.false_eq_true, Int.reduceLT, Int.reduceLE, Int.reduceNeg] at hc) <;> (try simp only [zw] at hc)) <;> (try (exfalso; omega)))
          | refine AWp.exit ?_
          | refine AWp.ret ⟨.inr rfl, _, RetOk.ev tabOk (by conv => lhs; cbv), ?_⟩)
      | (refine AOLg.pass ?_; refine AOLg.nx hA tabOk (by conv => lhs; cbv) ?_; first
          | refine NX.done ?_
          | refine NX.gt ?_
          | refine NX.gf ?_
          | (refine NX.gs ?_ ?_ <;> intro hc <;> rw [hc] <;> ((try simp only [zn] at hc) <;> (try simp (disch := omega) only [zz hA, zb, zy, reduceCtorEq, Bool.false_eq_true, Int.reduceLT, Int.reduceLE, Int.reduceNeg] at hc) <;> (try simp only [zw] at hc)) <;> (try (exfalso; omega)))
          | (refine NX.kC ?_; first | (with_reducible refine NX.call (name_c hA _) ?_) | ((first | refine NX.call (name_c hA _) ?_)) | fail)
          | (refine NX.kO ?_; (first | refine NX.callO (name_c hA _) (by simp [allEq]) rfl ?_))
          | ((first | (refine NX.k 13 ?_; first | refine NX.one (One.byteM hA tabOk rfl rfl rfl rfl rfl ?_ ?_) ?_)) <;> (first | refine AOLg.pass ?_ | (((try simp only [zn]) <;> (try simp (disch := omega) only [zz hA, zb, zy, reduceCtorEq, Bool.false_eq_true, Int.reduceLT, Int.reduceLE, Int.reduceNeg]) <;> (try simp only [zw])) <;> omega)))
          | refine NX.raw ?_)
      | refine Thn.exit ?_
      | refine Blk.here ?_
      | refine Blk.other (by decide) ?_
      | refine ⟨.inl rfl, _, RetOk.ev tabOk (by conv => lhs; cbv), ?_⟩
      | fail)
    all_goals first
      | (exfalso; simp_all; done)
      | (refine rPV_then (by conv => lhs; cbv) ?_
         simp [hid_eq hA, conM, hn]; done)
theorem args_c (s : ByteArray) (hs : s.size ≤ 1000000000000000) : PureCalls Try.prog 41 [SP s] (BP (hid A (argsM s))) := by
  refine PureCalls.of Try.func41 rfl (by kernel_rfl) rfl ?_
  try first | refine AOLg.of [] ?_ | refine QSg.of [] ?_
  repeat' (first
    | (refine AWp.pass ?_; first
        | refine AWp.seq ?_
        | refine AWp.block ?_
        | refine AWp.skip ?_
        | refine AWp.regG [] (by conv => lhs; cbv) ?_
        | refine AWp.cond_t rfl ?_
        | refine AWp.cond_f rfl ?_
        | (refine AWp.cond rfl ?_ ?_ <;> intro hc <;> (try rw [hc]) <;> ((try simp only [zn] at hc) <;> (try simp (disch := omega) only [zz hA, zb, zy, reduceCtorEq, Bool.false_eq_true, Int.reduceLT, Int.reduceLE, Int.reduceNeg] at hc) <;> (try simp only [zw] at hc)) <;> (try (exfalso; omega)))
        | refine AWp.exit ?_
        | refine AWp.ret ⟨.inr rfl, _, RetOk.ev tabOk (by conv => lhs; cbv), ?_⟩)
    | (refine AOLg.pass ?_; refine AOLg.nx hA tabOk (by conv => lhs; cbv) ?_; first
        | refine NX.done ?_
        | refine NX.gt ?_
        | refine NX.gf ?_
        | (refine NX.gs ?_ ?_ <;> intro hc <;> rw [hc] <;> ((try simp only [zn] at hc) <;> (try simp (disch := omega) only [zz hA, zb, zy, reduceCtorEq, Bool.false_eq_true, Int.reduceLT, Int.reduceLE, Int.reduceNeg] at hc) <;> (try simp only [zw] at hc)) <;> (try (exfalso; omega)))
        | ((first | (refine NX.k 7 ?_; first | refine NX.one (One.concatM hA rfl rfl rfl ?_) ?_) | (refine NX.k 9 ?_; first | refine NX.one (One.neBoolM hA tabOk rfl rfl rfl rfl rfl) ?_) | (refine NX.k 10 ?_; first | refine NX.one (One.lenOwnM hA tabOk rfl rfl rfl rfl) ?_) | (refine NX.k 13 ?_; first | refine NX.one (One.byteM hA tabOk rfl rfl rfl rfl rfl ?_ ?_) ?_)) <;> (first | refine AOLg.pass ?_ | (((try simp only [zn]) <;> (try simp (disch := omega) only [zz hA, zb, zy, reduceCtorEq, Bool.false_eq_true, Int.reduceLT, Int.reduceLE, Int.reduceNeg]) <;> (try simp only [zw])) <;> omega)))
        | refine NX.raw ?_)
    | refine Thn.exit ?_
    | refine Blk.here ?_
    | refine Blk.other (by decide) ?_
    | refine ⟨.inl rfl, _, RetOk.ev tabOk (by conv => lhs; cbv), ?_⟩
    | fail)
  refine AWp.loopU (fun k : Nat => [(3, .ic (.lit (.int .i64 (hid A (cN k)))))]) (fun _ => []) (fun k => s.size - k) (fun k => k ≤ s.size ∧ ∀ i, i < k → partOk s i = true) 0 (by conv => lhs; cbv) ⟨Nat.zero_le _, by simp⟩ (by (repeat' (first | exact subE.nil | refine subE.cons rfl ?_ | refine subE.int rfl ?_ ?_ | refine subE.bool rfl ?_ ?_ | refine subE.str rfl ?_ ?_ | refine subE.sl rfl ?_ ?_)) <;> simp [hA, real, hid, cN]) rfl ?_
  rintro k ⟨hk, hok⟩
  by_cases hlt : k < s.size
  · have hno : partOk s k = false → argsM s = false := fun h => by unfold argsM; rw [allB_f hlt h, Bool.false_and]
    try first | refine AOLg.of [] ?_ | refine QSg.of [] ?_
    repeat' (first
      | (refine AWp.pass ?_; first
          | refine AWp.seq ?_
          | refine AWp.block ?_
          | refine AWp.skip ?_
          | refine AWp.regG [] (by conv => lhs; cbv) ?_
          | refine AWp.cond_t rfl ?_
          | refine AWp.cond_f rfl ?_
          | (refine AWp.cond rfl ?_ ?_ <;> intro hc <;> (try rw [hc]) <;> ((try simp only [zn] at hc) <;> (try simp (disch := omega) only [zz hA, zb, zy, reduceCtorEq, Bool.false_eq_true, Int.reduceLT, Int.reduceLE, Int.reduceNeg] at hc) <;> (try simp only [zw] at hc)) <;> (try (exfalso; omega)))
          | refine AWp.exit ?_
          | refine AWp.ret ⟨.inr rfl, _, RetOk.ev tabOk (by conv => lhs; cbv), ?_⟩)
      | (refine AOLg.pass ?_; refine AOLg.nx hA tabOk (by conv => lhs; cbv) ?_; first
          | refine NX.done ?_
          | refine NX.gt ?_
          | refine NX.gf ?_
          | (refine NX.gs ?_ ?_ <;> intro hc <;> rw [hc] <;> ((try simp only [zn] at hc) <;> (try simp (disch := omega) only [zz hA, zb, zy, reduceCtorEq, Bool.false_eq_true, Int.reduceLT, Int.reduceLE, Int.reduceNeg] at hc) <;> (try simp only [zw] at hc)) <;> (try (exfalso; omega)))
          | ((first | (refine NX.k 7 ?_; first | refine NX.one (One.concatM hA rfl rfl rfl ?_) ?_) | (refine NX.k 9 ?_; first | refine NX.one (One.neBoolM hA tabOk rfl rfl rfl rfl rfl) ?_) | (refine NX.k 10 ?_; first | refine NX.one (One.lenOwnM hA tabOk rfl rfl rfl rfl) ?_) | (refine NX.k 13 ?_; first | refine NX.one (One.byteM hA tabOk rfl rfl rfl rfl rfl ?_ ?_) ?_)) <;> (first | refine AOLg.pass ?_ | (((try simp only [zn]) <;> (try simp (disch := omega) only [zz hA, zb, zy, reduceCtorEq, Bool.false_eq_true, Int.reduceLT, Int.reduceLE, Int.reduceNeg]) <;> (try simp only [zw])) <;> omega)))
          | refine NX.raw ?_)
      | refine Thn.exit ?_
      | refine Blk.here ?_
      | refine Blk.other (by decide) ?_
      | refine ⟨.inl rfl, _, RetOk.ev tabOk (by conv => lhs; cbv), ?_⟩
      | fail)
    all_goals first
      | (refine rPV_then (by conv => lhs; cbv) ?_
         rw [hno (by grind [partOk])]
         simp [hid_eq hA]; done)
      | skip
    all_goals
      refine ⟨k + 1, ?_, ?_, rfl, rfl, ?_, (by repeat' (first | exact subE.nil | refine subE.cons rfl ?_))⟩ <;> (try omega)
      repeat' (first | exact subE.nil | refine subE.cons rfl ?_ | refine subE.int rfl ?_ ?_ | refine subE.bool rfl ?_ ?_ | refine subE.str rfl ?_ ?_ | refine subE.sl rfl ?_ ?_)
    all_goals first
      | exact ⟨by omega, stepB hok (by grind [partOk])⟩
      | (((try simp only [zn]) <;> (try simp (disch := omega) only [zz hA, zb, zy, reduceCtorEq, Bool.false_eq_true, Int.reduceLT, Int.reduceLE, Int.reduceNeg]) <;> (try simp only [zw])) <;> omega)
  · have hyes : argsM s = decide (s.size ≤ 8) := by
      unfold argsM
      rw [allB_t fun i hi => hok i (by omega)]; rfl
    try first | refine AOLg.of [] ?_ | refine QSg.of [] ?_
    repeat' (first
      | (refine AWp.pass ?_; first
          | refine AWp.seq ?_
          | refine AWp.block ?_
          | refine AWp.skip ?_
          | refine AWp.regG [] (by conv => lhs; cbv) ?_
          | refine AWp.cond_t rfl ?_
          | refine AWp.cond_f rfl ?_
          | (refine AWp.cond rfl ?_ ?_ <;> intro hc <;> (try rw [hc]) <;> ((try simp only [zn] at hc) <;> (try simp (disch := omega) only [zz hA, zb, zy, reduceCtorEq, Bool.false_eq_true, Int.reduceLT, Int.reduceLE, Int.reduceNeg] at hc) <;> (try simp only [zw] at hc)) <;> (try (exfalso; omega)))
          | refine AWp.exit ?_
          | refine AWp.ret ⟨.inr rfl, _, RetOk.ev tabOk (by conv => lhs; cbv), ?_⟩)
      | (refine AOLg.pass ?_; refine AOLg.nx hA tabOk (by conv => lhs; cbv) ?_; first
          | refine NX.done ?_
          | refine NX.gt ?_
          | refine NX.gf ?_
          | (refine NX.gs ?_ ?_ <;> intro hc <;> rw [hc] <;> ((try simp only [zn] at hc) <;> (try simp (disch := omega) only [zz hA, zb, zy, reduceCtorEq, Bool.false_eq_true, Int.reduceLT, Int.reduceLE, Int.reduceNeg] at hc) <;> (try simp only [zw] at hc)) <;> (try (exfalso; omega)))
          | ((first | (refine NX.k 7 ?_; first | refine NX.one (One.concatM hA rfl rfl rfl ?_) ?_) | (refine NX.k 9 ?_; first | refine NX.one (One.neBoolM hA tabOk rfl rfl rfl rfl rfl) ?_) | (refine NX.k 10 ?_; first | refine NX.one (One.lenOwnM hA tabOk rfl rfl rfl rfl) ?_) | (refine NX.k 13 ?_; first | refine NX.one (One.byteM hA tabOk rfl rfl rfl rfl rfl ?_ ?_) ?_)) <;> (first | refine AOLg.pass ?_ | (((try simp only [zn]) <;> (try simp (disch := omega) only [zz hA, zb, zy, reduceCtorEq, Bool.false_eq_true, Int.reduceLT, Int.reduceLE, Int.reduceNeg]) <;> (try simp only [zw])) <;> omega)))
          | refine NX.raw ?_)
      | refine Thn.exit ?_
      | refine Blk.here ?_
      | refine Blk.other (by decide) ?_
      | refine ⟨.inl rfl, _, RetOk.ev tabOk (by conv => lhs; cbv), ?_⟩
      | fail)
    all_goals (refine rPV_then (by conv => lhs; cbv) ?_; refine congrArg (fun b => PV.c (IC.lit (Value.bool b))) ?_; rw [Bool.eq_iff_iff]; (try simp only [zn]); (try simp (disch := omega) only [zz hA, zb, zy, reduceCtorEq, Bool.false_eq_true, Int.reduceLT, Int.reduceLE, Int.reduceNeg, hyes, Bool.and_eq_true, Bool.or_eq_true, Bool.not_eq_true, decide_eq_true_eq, decide_eq_false_iff_not, true_iff, iff_true, false_iff, iff_false, and_true, true_and, or_true, true_or, and_false, false_and, or_false, false_or, not_true_eq_false, not_false_eq_true]); first | done | omega)
theorem find_G (l : List Sg) (s : ByteArray) : PureCalls Try.prog 25 [slP A 2 (encG A) l, SP s] (IP (hid A (findG l s))) := by
  refine PureCalls.lens (by kernel_rfl) fun hlen => ?_
  have hl := lens_ints hA (hlen _ List.mem_cons_self)
  rw [show maxLen = 9223372036854775807 from rfl] at hl
  refine PureCalls.of Try.func25 rfl (by kernel_rfl) rfl ?_
  try first | refine AOLg.of [] ?_ | refine QSg.of [] ?_
  repeat' (first
    | (refine AWp.pass ?_; first
        | refine AWp.seq ?_
        | refine AWp.block ?_
        | refine AWp.skip ?_
        | refine AWp.regG [] (by conv => lhs; cbv) ?_
        | refine AWp.cond_t rfl ?_
        | refine AWp.cond_f rfl ?_
        | (refine AWp.cond rfl ?_ ?_ <;> intro hc <;> (try rw [hc]) <;> ((try simp only [zn] at hc) <;> (try simp (disch := omega) only [zz hA, zb, zy, reduceCtorEq, Bool.false_eq_true, Int.reduceLT, Int.reduceLE, Int.reduceNeg] at hc) <;> (try simp only [zw] at hc)) <;> (try (exfalso; omega)))
        | refine AWp.exit ?_
        | refine AWp.ret ⟨.inr rfl, _, RetOk.ev tabOk (by conv => lhs; cbv), ?_⟩)
    | (refine AOLg.pass ?_; refine AOLg.nx hA tabOk (by conv => lhs; cbv) ?_; first
        | refine NX.done ?_
        | refine NX.gt ?_
        | refine NX.gf ?_
        | (refine NX.gs ?_ ?_ <;> intro hc <;> rw [hc] <;> ((try simp only [zn] at hc) <;> (try simp (disch := omega) only [zz hA, zb, zy, reduceCtorEq, Bool.false_eq_true, Int.reduceLT, Int.reduceLE, Int.reduceNeg] at hc) <;> (try simp only [zw] at hc)) <;> (try (exfalso; omega)))
        | ((first | (refine NX.k 1 ?_; first | refine NX.one (One.elemM hA tabOk rfl rfl rfl rfl ?_ ?_) ?_ | refine NX.one (One.elemOwnM hA tabOk rfl rfl rfl rfl rfl ?_ ?_) ?_) | (refine NX.k 7 ?_; first | refine NX.one (One.concatM hA rfl rfl rfl ?_) ?_) | (refine NX.k 8 ?_; first | refine NX.one (One.eqBoolM hA tabOk rfl rfl rfl rfl rfl) ?_) | (refine NX.k 10 ?_; first | refine NX.one (One.lenOwnM hA tabOk rfl rfl rfl rfl) ?_) | (refine NX.k 14 ?_; first | refine NX.one (One.loadRatM hA tabOk rfl rfl rfl rfl rfl rfl ?_) ?_) | (refine NX.k 18 ?_; first | refine NX.one (One.fieldRat tabOk rfl rfl rfl rfl (by decide) rfl rfl) ?_)) <;> (first | refine AOLg.pass ?_ | (((try simp only [zn]) <;> (try simp (disch := omega) only [zz hA, zb, zy, reduceCtorEq, Bool.false_eq_true, Int.reduceLT, Int.reduceLE, Int.reduceNeg]) <;> (try simp only [zw])) <;> omega)))
        | refine NX.raw ?_)
    | refine Thn.exit ?_
    | refine Blk.here ?_
    | refine Blk.other (by decide) ?_
    | refine ⟨.inl rfl, _, RetOk.ev tabOk (by conv => lhs; cbv), ?_⟩
    | fail)
  refine AWp.loopU (fun k : Nat => [(5, .ic (.lit (.int .i64 (hid A (cN k)))))]) (fun _ => []) (fun k => l.length - k) (fun k => k ≤ l.length ∧ ∀ j, j < k → eqS (sgN (l.getD j default)) s = false) 0 (by conv => lhs; cbv) ⟨Nat.zero_le _, by simp⟩ (by (repeat' (first | exact subE.nil | refine subE.cons rfl ?_ | refine subE.int rfl ?_ ?_ | refine subE.bool rfl ?_ ?_ | refine subE.str rfl ?_ ?_ | refine subE.sl rfl ?_ ?_)) <;> simp [hA, real, hid, cN]) rfl ?_
  rintro k ⟨hk, hok⟩
  by_cases hlt : k < l.length
  · try first | refine AOLg.of [] ?_ | refine QSg.of [] ?_
    repeat' (first
      | (refine AWp.pass ?_; first
          | refine AWp.seq ?_
          | refine AWp.block ?_
          | refine AWp.skip ?_
          | refine AWp.regG [] (by conv => lhs; cbv) ?_
          | refine AWp.cond_t rfl ?_
          | refine AWp.cond_f rfl ?_
          | (refine AWp.cond rfl ?_ ?_ <;> intro hc <;> (try rw [hc]) <;> ((try simp only [zn] at hc) <;> (try simp (disch := omega) only [zz hA, zb, zy, reduceCtorEq, Bool.false_eq_true, Int.reduceLT, Int.reduceLE, Int.reduceNeg] at hc) <;> (try simp only [zw] at hc)) <;> (try (exfalso; omega)))
          | refine AWp.exit ?_
          | refine AWp.ret ⟨.inr rfl, _, RetOk.ev tabOk (by conv => lhs; cbv), ?_⟩)
      | (refine AOLg.pass ?_; refine AOLg.nx hA tabOk (by conv => lhs; cbv) ?_; first
          | refine NX.done ?_
          | refine NX.gt ?_
          | refine NX.gf ?_
          | (refine NX.gs ?_ ?_ <;> intro hc <;> rw [hc] <;> ((try simp only [zn] at hc) <;> (try simp (disch := omega) only [zz hA, zb, zy, reduceCtorEq, Bool.false_eq_true, Int.reduceLT, Int.reduceLE, Int.reduceNeg] at hc) <;> (try simp only [zw] at hc)) <;> (try (exfalso; omega)))
          | ((first | (refine NX.k 1 ?_; first | refine NX.one (One.elemM hA tabOk rfl rfl rfl rfl ?_ ?_) ?_ | refine NX.one (One.elemOwnM hA tabOk rfl rfl rfl rfl rfl ?_ ?_) ?_) | (refine NX.k 7 ?_; first | refine NX.one (One.concatM hA rfl rfl rfl ?_) ?_) | (refine NX.k 8 ?_; first | refine NX.one (One.eqBoolM hA tabOk rfl rfl rfl rfl rfl) ?_) | (refine NX.k 10 ?_; first | refine NX.one (One.lenOwnM hA tabOk rfl rfl rfl rfl) ?_) | (refine NX.k 14 ?_; first | refine NX.one (One.loadRatM hA tabOk rfl rfl rfl rfl rfl rfl ?_) ?_) | (refine NX.k 18 ?_; first | refine NX.one (One.fieldRat tabOk rfl rfl rfl rfl (by decide) rfl rfl) ?_)) <;> (first | refine AOLg.pass ?_ | (((try simp only [zn]) <;> (try simp (disch := omega) only [zz hA, zb, zy, reduceCtorEq, Bool.false_eq_true, Int.reduceLT, Int.reduceLE, Int.reduceNeg]) <;> (try simp only [zw])) <;> omega)))
          | refine NX.raw ?_)
      | refine Thn.exit ?_
      | refine Blk.here ?_
      | refine Blk.other (by decide) ?_
      | refine ⟨.inl rfl, _, RetOk.ev tabOk (by conv => lhs; cbv), ?_⟩
      | fail)
    · refine rPV_then (by conv => lhs; cbv) ?_
      rw [show findG l s = k from idxB_at hlt (by unfold eqS; simpa using hc) hok]
      simp [hA, real, hid, cN]
    · refine ⟨k + 1, ?_, ?_, rfl, rfl, ?_, (by repeat' (first | exact subE.nil | refine subE.cons rfl ?_))⟩ <;> (try omega)
      repeat' (first | exact subE.nil | refine subE.cons rfl ?_ | refine subE.int rfl ?_ ?_ | refine subE.bool rfl ?_ ?_ | refine subE.str rfl ?_ ?_ | refine subE.sl rfl ?_ ?_)
      · refine ⟨by omega, fun j hj => ?_⟩
        rcases Nat.lt_or_ge j k with h | h
        · exact hok j h
        · obtain rfl : j = k := by omega
          unfold eqS; simpa using hc
      · (((try simp only [zn]) <;> (try simp (disch := omega) only [zz hA, zb, zy, reduceCtorEq, Bool.false_eq_true, Int.reduceLT, Int.reduceLE, Int.reduceNeg]) <;> (try simp only [zw])) <;> omega)
  · try first | refine AOLg.of [] ?_ | refine QSg.of [] ?_
    repeat' (first
      | (refine AWp.pass ?_; first
          | refine AWp.seq ?_
          | refine AWp.block ?_
          | refine AWp.skip ?_
          | refine AWp.regG [] (by conv => lhs; cbv) ?_
          | refine AWp.cond_t rfl ?_
          | refine AWp.cond_f rfl ?_
          | (refine AWp.cond rfl ?_ ?_ <;> intro hc <;> (try rw [hc]) <;> ((try simp only [zn] at hc) <;> (try simp (disch := omega) only [zz hA, zb, zy, reduceCtorEq, Bool.false_eq_true, Int.reduceLT, Int.reduceLE, Int.reduceNeg] at hc) <;> (try simp only [zw] at hc)) <;> (try (exfalso; omega)))
          | refine AWp.exit ?_
          | refine AWp.ret ⟨.inr rfl, _, RetOk.ev tabOk (by conv => lhs; cbv), ?_⟩)
      | (refine AOLg.pass ?_; refine AOLg.nx hA tabOk (by conv => lhs; cbv) ?_; first
          | refine NX.done ?_
          | refine NX.gt ?_
          | refine NX.gf ?_
          | (refine NX.gs ?_ ?_ <;> intro hc <;> rw [hc] <;> ((try simp only [zn] at hc) <;> (try simp (disch := omega) only [zz hA, zb, zy, reduceCtorEq, Bool.false_eq_true, Int.reduceLT, Int.reduceLE, Int.reduceNeg] at hc) <;> (try simp only [zw] at hc)) <;> (try (exfalso; omega)))
          | ((first | (refine NX.k 1 ?_; first | refine NX.one (One.elemM hA tabOk rfl rfl rfl rfl ?_ ?_) ?_ | refine NX.one (One.elemOwnM hA tabOk rfl rfl rfl rfl rfl ?_ ?_) ?_) | (refine NX.k 7 ?_; first | refine NX.one (One.concatM hA rfl rfl rfl ?_) ?_) | (refine NX.k 8 ?_; first | refine NX.one (One.eqBoolM hA tabOk rfl rfl rfl rfl rfl) ?_) | (refine NX.k 10 ?_; first | refine NX.one (One.lenOwnM hA tabOk rfl rfl rfl rfl) ?_) | (refine NX.k 14 ?_; first | refine NX.one (One.loadRatM hA tabOk rfl rfl rfl rfl rfl rfl ?_) ?_) | (refine NX.k 18 ?_; first | refine NX.one (One.fieldRat tabOk rfl rfl rfl rfl (by decide) rfl rfl) ?_)) <;> (first | refine AOLg.pass ?_ | (((try simp only [zn]) <;> (try simp (disch := omega) only [zz hA, zb, zy, reduceCtorEq, Bool.false_eq_true, Int.reduceLT, Int.reduceLE, Int.reduceNeg]) <;> (try simp only [zw])) <;> omega)))
          | refine NX.raw ?_)
      | refine Thn.exit ?_
      | refine Blk.here ?_
      | refine Blk.other (by decide) ?_
      | refine ⟨.inl rfl, _, RetOk.ev tabOk (by conv => lhs; cbv), ?_⟩
      | fail)
    · refine rPV_then (by conv => lhs; cbv) ?_
      rw [show findG l s = -1 from idxB_none fun i hi => hok i (by omega)]
      simp [hA, real, hid]
theorem sigRight_c (l : List Sg) (hsz : ∀ x ∈ l, (sgN x).size ≤ 1000000000000000 ∧ (sgA x).size ≤ 1000000000000000) : PureCalls Try.prog 22 [slP A 2 (encG A) l] (BP (hid A (rightG l))) := by
  refine PureCalls.lens (by kernel_rfl) fun hlen => ?_
  have hl := lens_ints hA (hlen _ List.mem_cons_self)
  rw [show maxLen = 9223372036854775807 from rfl] at hl
  refine PureCalls.of Try.func22 rfl (by kernel_rfl) rfl ?_
  try first | refine AOLg.of [] ?_ | refine QSg.of [] ?_
  repeat' (first
    | (refine AWp.pass ?_; first
        | refine AWp.seq ?_
        | refine AWp.block ?_
        | refine AWp.skip ?_
        | refine AWp.regG [] (by conv => lhs; cbv) ?_
        | refine AWp.cond_t rfl ?_
        | refine AWp.cond_f rfl ?_
        | (refine AWp.cond rfl ?_ ?_ <;> intro hc <;> (try rw [hc]) <;> ((try simp only [zn] at hc) <;> (try simp (disch := omega) only [zz hA, zb, zy, reduceCtorEq, Bool.false_eq_true, Int.reduceLT, Int.reduceLE, Int.reduceNeg] at hc) <;> (try simp only [zw] at hc)) <;> (try (exfalso; omega)))
        | refine AWp.exit ?_
        | refine AWp.ret ⟨.inr rfl, _, RetOk.ev tabOk (by conv => lhs; cbv), ?_⟩)
    | (refine AOLg.pass ?_; refine AOLg.nx hA tabOk (by conv => lhs; cbv) ?_; first
        | refine NX.done ?_
        | refine NX.gt ?_
        | refine NX.gf ?_
        | (refine NX.gs ?_ ?_ <;> intro hc <;> rw [hc] <;> ((try simp only [zn] at hc) <;> (try simp (disch := omega) only [zz hA, zb, zy, reduceCtorEq, Bool.false_eq_true, Int.reduceLT, Int.reduceLE, Int.reduceNeg] at hc) <;> (try simp only [zw] at hc)) <;> (try (exfalso; omega)))
        | ((first | (refine NX.k 1 ?_; first | refine NX.one (One.elemM hA tabOk rfl rfl rfl rfl ?_ ?_) ?_ | refine NX.one (One.elemOwnM hA tabOk rfl rfl rfl rfl rfl ?_ ?_) ?_) | (refine NX.k 7 ?_; first | refine NX.one (One.concatM hA rfl rfl rfl ?_) ?_) | (refine NX.k 10 ?_; first | refine NX.one (One.lenOwnM hA tabOk rfl rfl rfl rfl) ?_) | (refine NX.k 14 ?_; first | refine NX.one (One.loadRatM hA tabOk rfl rfl rfl rfl rfl rfl ?_) ?_) | (refine NX.k 18 ?_; first | refine NX.one (One.fieldRat tabOk rfl rfl rfl rfl (by decide) rfl rfl) ?_)) <;> (first | refine AOLg.pass ?_ | (((try simp only [zn]) <;> (try simp (disch := omega) only [zz hA, zb, zy, reduceCtorEq, Bool.false_eq_true, Int.reduceLT, Int.reduceLE, Int.reduceNeg]) <;> (try simp only [zw])) <;> omega)))
        | refine NX.raw ?_)
    | refine Thn.exit ?_
    | refine Blk.here ?_
    | refine Blk.other (by decide) ?_
    | refine ⟨.inl rfl, _, RetOk.ev tabOk (by conv => lhs; cbv), ?_⟩
    | fail)
  refine AWp.loopU (fun k : Nat => [(3, .ic (.lit (.int .i64 (hid A (cN k)))))]) (fun _ => []) (fun k => l.length - k) (fun k => k ≤ l.length ∧ ∀ i, i < k → sigOk l i = true) 0 (by conv => lhs; cbv) ⟨Nat.zero_le _, by simp⟩ (by (repeat' (first | exact subE.nil | refine subE.cons rfl ?_ | refine subE.int rfl ?_ ?_ | refine subE.bool rfl ?_ ?_ | refine subE.str rfl ?_ ?_ | refine subE.sl rfl ?_ ?_)) <;> simp [hA, real, hid, cN]) rfl ?_
  rintro k ⟨hk, hok⟩
  by_cases hlt : k < l.length
  · have hno : sigOk l k = false → rightG l = false := fun h => by unfold rightG; rw [allB_f hlt h, Bool.false_and]
    have hm : l.getD k default ∈ l := by rw [List.getD_eq_getElem?_getD, List.getElem?_eq_getElem hlt]; exact List.getElem_mem _
    have hz := hsz _ hm
    have hfb := idxB_bound l.length fun i => eqS (sgN (l.getD i default)) (sgN (l.getD k default))
    try first | refine AOLg.of [] ?_ | refine QSg.of [] ?_
    repeat' (first
      | (refine AWp.pass ?_; first
          | refine AWp.seq ?_
          | refine AWp.block ?_
          | refine AWp.skip ?_
          | refine AWp.regG [] (by conv => lhs; cbv) ?_
          | refine AWp.cond_t rfl ?_
          | refine AWp.cond_f rfl ?_
          | (refine AWp.cond rfl ?_ ?_ <;> intro hc <;> (try rw [hc]) <;> ((try simp only [zn] at hc) <;> (try simp (disch := omega) only [zz hA, zb, zy, reduceCtorEq, Bool.false_eq_true, Int.reduceLT, Int.reduceLE, Int.reduceNeg] at hc) <;> (try simp only [zw] at hc)) <;> (try (exfalso; omega)))
          | refine AWp.exit ?_
          | refine AWp.ret ⟨.inr rfl, _, RetOk.ev tabOk (by conv => lhs; cbv), ?_⟩)
      | (refine AOLg.pass ?_; refine AOLg.nx hA tabOk (by conv => lhs; cbv) ?_; first
          | refine NX.done ?_
          | refine NX.gt ?_
          | refine NX.gf ?_
          | (refine NX.gs ?_ ?_ <;> intro hc <;> rw [hc] <;> ((try simp only [zn] at hc) <;> (try simp (disch := omega) only [zz hA, zb, zy, reduceCtorEq, Bool.false_eq_true, Int.reduceLT, Int.reduceLE, Int.reduceNeg] at hc) <;> (try simp only [zw] at hc)) <;> (try (exfalso; omega)))
          | (refine NX.kC ?_; first | (with_reducible refine NX.call (con_c hA _) ?_) | ((with_reducible refine NX.call (args_c hA _ ?_) ?_) <;> (first | refine AOLg.pass ?_ | (((try simp only [zn]) <;> (try simp (disch := omega) only [zz hA, zb, zy, reduceCtorEq, Bool.false_eq_true, Int.reduceLT, Int.reduceLE, Int.reduceNeg]) <;> (try simp only [zw])) <;> omega))) | (with_reducible refine NX.call (find_G hA l _) ?_) | ((first | refine NX.call (con_c hA _) ?_ | refine NX.call (args_c hA _ ?_) ?_ | refine NX.call (find_G hA l _) ?_) <;> (first | refine AOLg.pass ?_ | (((try simp only [zn]) <;> (try simp (disch := omega) only [zz hA, zb, zy, reduceCtorEq, Bool.false_eq_true, Int.reduceLT, Int.reduceLE, Int.reduceNeg]) <;> (try simp only [zw])) <;> omega))) | fail)
          | (refine NX.kO ?_; (first | refine NX.callO (con_c hA _) (by simp [allEq]) rfl ?_ | refine NX.callO (args_c hA _ ?_) (by simp [allEq]) rfl ?_ | refine NX.callO (find_G hA l _) (by simp [allEq]) rfl ?_) <;> (first | refine AOLg.pass ?_ | (((try simp only [zn]) <;> (try simp (disch := omega) only [zz hA, zb, zy, reduceCtorEq, Bool.false_eq_true, Int.reduceLT, Int.reduceLE, Int.reduceNeg]) <;> (try simp only [zw])) <;> omega)))
          | ((first | (refine NX.k 1 ?_; first | refine NX.one (One.elemM hA tabOk rfl rfl rfl rfl ?_ ?_) ?_ | refine NX.one (One.elemOwnM hA tabOk rfl rfl rfl rfl rfl ?_ ?_) ?_) | (refine NX.k 7 ?_; first | refine NX.one (One.concatM hA rfl rfl rfl ?_) ?_) | (refine NX.k 10 ?_; first | refine NX.one (One.lenOwnM hA tabOk rfl rfl rfl rfl) ?_) | (refine NX.k 14 ?_; first | refine NX.one (One.loadRatM hA tabOk rfl rfl rfl rfl rfl rfl ?_) ?_) | (refine NX.k 18 ?_; first | refine NX.one (One.fieldRat tabOk rfl rfl rfl rfl (by decide) rfl rfl) ?_)) <;> (first | refine AOLg.pass ?_ | (((try simp only [zn]) <;> (try simp (disch := omega) only [zz hA, zb, zy, reduceCtorEq, Bool.false_eq_true, Int.reduceLT, Int.reduceLE, Int.reduceNeg]) <;> (try simp only [zw])) <;> omega)))
          | refine NX.raw ?_)
      | refine Thn.exit ?_
      | refine Blk.here ?_
      | refine Blk.other (by decide) ?_
      | refine ⟨.inl rfl, _, RetOk.ev tabOk (by conv => lhs; cbv), ?_⟩
      | fail)
    all_goals first
      | (refine rPV_then (by conv => lhs; cbv) ?_
         rw [hno (by grind [sigOk, findG])]
         simp [hid_eq hA]; done)
      | skip
    all_goals
      refine ⟨k + 1, ?_, ?_, rfl, rfl, ?_, (by repeat' (first | exact subE.nil | refine subE.cons rfl ?_))⟩ <;> (try omega)
      repeat' (first | exact subE.nil | refine subE.cons rfl ?_ | refine subE.int rfl ?_ ?_ | refine subE.bool rfl ?_ ?_ | refine subE.str rfl ?_ ?_ | refine subE.sl rfl ?_ ?_)
    all_goals first
      | exact ⟨by omega, stepB hok (by grind [sigOk, findG])⟩
      | (((try simp only [zn]) <;> (try simp (disch := omega) only [zz hA, zb, zy, reduceCtorEq, Bool.false_eq_true, Int.reduceLT, Int.reduceLE, Int.reduceNeg]) <;> (try simp only [zw])) <;> omega)
  · have hyes : rightG l = decide (l.length ≤ 64) := by
      unfold rightG
      rw [allB_t fun i hi => hok i (by omega)]; rfl
    try first | refine AOLg.of [] ?_ | refine QSg.of [] ?_
    repeat' (first
      | (refine AWp.pass ?_; first
          | refine AWp.seq ?_
          | refine AWp.block ?_
          | refine AWp.skip ?_
          | refine AWp.regG [] (by conv => lhs; cbv) ?_
          | refine AWp.cond_t rfl ?_
          | refine AWp.cond_f rfl ?_
          | (refine AWp.cond rfl ?_ ?_ <;> intro hc <;> (try rw [hc]) <;> ((try simp only [zn] at hc) <;> (try simp (disch := omega) only [zz hA, zb, zy, reduceCtorEq, Bool.false_eq_true, Int.reduceLT, Int.reduceLE, Int.reduceNeg] at hc) <;> (try simp only [zw] at hc)) <;> (try (exfalso; omega)))
          | refine AWp.exit ?_
          | refine AWp.ret ⟨.inr rfl, _, RetOk.ev tabOk (by conv => lhs; cbv), ?_⟩)
      | (refine AOLg.pass ?_; refine AOLg.nx hA tabOk (by conv => lhs; cbv) ?_; first
          | refine NX.done ?_
          | refine NX.gt ?_
          | refine NX.gf ?_
          | (refine NX.gs ?_ ?_ <;> intro hc <;> rw [hc] <;> ((try simp only [zn] at hc) <;> (try simp (disch := omega) only [zz hA, zb, zy, reduceCtorEq, Bool.false_eq_true, Int.reduceLT, Int.reduceLE, Int.reduceNeg] at hc) <;> (try simp only [zw] at hc)) <;> (try (exfalso; omega)))
          | ((first | (refine NX.k 1 ?_; first | refine NX.one (One.elemM hA tabOk rfl rfl rfl rfl ?_ ?_) ?_ | refine NX.one (One.elemOwnM hA tabOk rfl rfl rfl rfl rfl ?_ ?_) ?_) | (refine NX.k 7 ?_; first | refine NX.one (One.concatM hA rfl rfl rfl ?_) ?_) | (refine NX.k 10 ?_; first | refine NX.one (One.lenOwnM hA tabOk rfl rfl rfl rfl) ?_) | (refine NX.k 14 ?_; first | refine NX.one (One.loadRatM hA tabOk rfl rfl rfl rfl rfl rfl ?_) ?_) | (refine NX.k 18 ?_; first | refine NX.one (One.fieldRat tabOk rfl rfl rfl rfl (by decide) rfl rfl) ?_)) <;> (first | refine AOLg.pass ?_ | (((try simp only [zn]) <;> (try simp (disch := omega) only [zz hA, zb, zy, reduceCtorEq, Bool.false_eq_true, Int.reduceLT, Int.reduceLE, Int.reduceNeg]) <;> (try simp only [zw])) <;> omega)))
          | refine NX.raw ?_)
      | refine Thn.exit ?_
      | refine Blk.here ?_
      | refine Blk.other (by decide) ?_
      | refine ⟨.inl rfl, _, RetOk.ev tabOk (by conv => lhs; cbv), ?_⟩
      | fail)
    all_goals (refine rPV_then (by conv => lhs; cbv) ?_; refine congrArg (fun b => PV.c (IC.lit (Value.bool b))) ?_; rw [Bool.eq_iff_iff]; (try simp only [zn]); (try simp (disch := omega) only [zz hA, zb, zy, reduceCtorEq, Bool.false_eq_true, Int.reduceLT, Int.reduceLE, Int.reduceNeg, hyes, Bool.and_eq_true, Bool.or_eq_true, Bool.not_eq_true, decide_eq_true_eq, decide_eq_false_iff_not, true_iff, iff_true, false_iff, iff_false, and_true, true_and, or_true, true_or, and_false, false_and, or_false, false_or, not_true_eq_false, not_false_eq_true]); first | done | omega)
end Go.Proofs.Ytgemcogfpkolfaa.Aw

/- The abstract walk, part 40: bytes read as a text. -/
set_option linter.unusedVariables false
set_option linter.unusedSimpArgs false
namespace Go.Proofs.Ytgemcogfpkolfaa.Aw
open Go Go.RowKit
def mkS (l : List Int) : ByteArray := l.foldl (fun r n => r.push (UInt8.ofNat n.toNat)) ByteArray.empty
def encU (n : Int) : List IC := [.lit (.int .u8 n)]
theorem Flat.bytes {w : World} {ok : Nat → Prop} {l : List Int} {cs : List Value} (h : Flat w ok 1 (List.map encU l) cs) : cs = l.map (Value.int .u8) := by
  have hl := h.len
  rw [List.length_map, Nat.mul_one] at hl
  apply List.ext_getElem?
  intro j
  rcases Nat.lt_or_ge j l.length with hj | hj
  · obtain ⟨u, hu, hr⟩ := h.rel j (encU l[j]) 0 (.lit (.int .u8 l[j])) (by rw [List.getElem?_map, List.getElem?_eq_getElem hj]; rfl) rfl
    rw [Nat.mul_one, Nat.add_zero] at hu
    cases hr
    rw [hu, List.getElem?_map, List.getElem?_eq_getElem hj]
    rfl
  · rw [List.getElem?_eq_none (by omega), List.getElem?_eq_none (by rw [List.length_map]; omega)]
theorem run_bytes {P : Program} (w : World) (Ad : Option Addr) (l : List Int) (n c : Nat) (hn : n = l.length) (h : ∀ (j : Nat) (u : Value), (l.map (Value.int .u8))[j]? = some u → ∃ b o, Ad = some ⟨b, o, none⟩ ∧ w.cell? ⟨b, o + j, none⟩ = some u) :
    (Conv.bytesToString (.slice Ad n c)).run P w = .ok (.string (mkS l)) w := by
  subst hn
  cases Ad with
  | none =>
    cases l with
    | nil => simp [Conv.bytesToString, mkS]
    | cons x l =>
      obtain ⟨b, o, e, _⟩ := h 0 (.int .u8 x) rfl
      cases e
  | some a =>
    have h3 := run_loadCells_list (P := P) (w := w) a (l.map (Value.int .u8)) (fun j v hj => by
      obtain ⟨b, o, e, hc⟩ := h j v hj
      obtain rfl := Option.some.inj e
      rw [add_block]; exact hc)
    rw [List.length_map] at h3
    exact run_bytesToString w a l.length c l h3
theorem does_bytes {P : Program} {s : St} (src dst e : TypeId) (x : Operand) (ex : Bool) (l : List Int) (hk : (tyi P src).k = .slice e) (he : (tyi P e).k = .int .u8) (hd : (tyi P dst).k = .string) (hx : s.ev x = .ic (.sl 1 ex (List.map encU l))) :
    Does P s (fun ρ => do pure (.value (← convert src dst (ρ x)))) (.ic (.lit (.string (mkS l)))) s.st :=
  .pure fun G g w act hrel => by
    have h := hrel.ev x
    rw [hx] at h
    obtain ⟨Ad, c, cs, e1, _, _, _, hf, hc⟩ := h.ic_inv.flat
    obtain rfl := hf.bytes
    refine ⟨_, ?_, .ic _ _ (.lit _ rfl)⟩
    have hr := run_bytes (P := P) w Ad l (List.map encU l).length c (by simp) hc
    simp only [e1, Sem.run_bind, run_convert_bytes_string w src dst e Ad (List.map encU l).length c (tk_slice hk) (tk_int he) (tk_string hd), hr, Result.andThen_ok, Sem.run_pure]
section one
variable {r : Option Nat} {P : Program} {ops : Array Oper} {i : Nat} {s : St} {tab : List TI} {A : Ar}
theorem One.bytesM (hA : A = real) (hT : TabOk P tab) {src dst e : TypeId} {j q : TI} {x : Operand} {ex : Bool} {l : List Int} {rows : List (List IC)} (h : opAt ops i s = some (.convert src dst x)) (hs : slT tab src = some (e, j)) (he : j.k = .int .u8) (hd : tiAt tab dst = some q) (hq : q.k = .string)
    (hx : s.ev x = .ic (.sl 1 ex rows)) (hr : rows = hid A (List.map encU l)) : One r P ops i s (.ic (.lit (.string (hid A (mkS l))))) s.st := by
  rw [hid_eq hA]
  rw [hr, hid_eq hA] at hx
  obtain ⟨h1, h2, rfl⟩ := slT_ok hT hs
  obtain ⟨rfl, h3⟩ := tiAt_ok hT hd
  exact .does h rfl fun o hop => (does_bytes src dst e x ex l h2 he hq hx).congr fun ρ => by simp only [execOp, hop]
end one
end Go.Proofs.Ytgemcogfpkolfaa.Aw

/- Nodes of expressions: contracts of the document's answer of layer 7, part 1: how many parts, which nodes may be, which rows are short. For any seat that holds tammyref07. -/
set_option linter.unusedVariables false
set_option linter.unusedSimpArgs false
set_option linter.unusedSectionVars false
namespace Go.Proofs.Ytgemcogfpkolfaa.Aw
open Go Go.RowKit
set_option maxRecDepth 10000
attribute [local irreducible] AWp AOL QS One AOLg QSg NX QX TRg TX AllO Fin3
abbrev Nd := Int × ByteArray × Int
def ndK (x : Nd) : Int := x.1
def ndS (x : Nd) : ByteArray := x.2.1
def ndN (x : Nd) : Int := x.2.2
def encD (A : Ar) (x : Nd) : List IC := [.lit (.int .i64 (hid A (ndK x))), .lit (.string (hid A (ndS x))), .lit (.int .i64 (hid A (ndN x)))]
abbrev ndP (k : Int) (s : ByteArray) (n : Int) : PV := .agg [.lit (.int .i64 k), .lit (.string s), .lit (.int .i64 n)]
def partsM (k n : Int) : Int := if k = 6 then 1 else n
def emS : ByteArray := { data := #[] }
def mayD (k : Int) (s : ByteArray) (n : Int) : Bool :=
  if k = 0 ∨ k = 1 then eqS s emS && decide (n = 0)
  else if k = 2 then varM s && decide (n = 0)
  else if k = 3 then conM s && decide (0 ≤ n) && decide (n ≤ 8)
  else if k = 4 ∨ k = 5 then eqS s emS && decide (n = 2)
  else if k = 6 then conM s && decide (1 ≤ n) && decide (n ≤ 8)
  else false
def FitD (l : List Nd) : Prop := ∀ x ∈ l, (ndS x).size ≤ 1000000000000000
def wtD (l : List Nd) : Nat := (l.map fun x => 1 + (ndS x).size).sum
def fewD (l : List Nd) : Bool := decide (wtD l ≤ 600)
theorem wtD_succ (l : List Nd) (i : Nat) (h : i < l.length) : wtD (l.take (i + 1)) = wtD (l.take i) + (1 + (ndS (l.getD i default)).size) := by
  rw [List.take_succ_eq_append_getElem h]
  simp only [wtD, List.map_append, List.sum_append, List.map_cons, List.map_nil, List.sum_cons, List.sum_nil, List.getD_eq_getElem?_getD, List.getElem?_eq_getElem h, Option.getD_some, Nat.add_zero]
theorem wtD_le (l : List Nd) (i : Nat) : wtD (l.take i) ≤ wtD l := by
  conv => rhs; rw [← List.take_append_drop i l]
  simp only [wtD, List.map_append, List.sum_append]
  omega
theorem wtD_len (l : List Nd) : l.length ≤ wtD l := by
  induction l with
  | nil => simp [wtD]
  | cons x l ih => simp only [wtD, List.map_cons, List.sum_cons, List.length_cons] at *; omega
variable {A : Ar} (hA : A = real)
include hA
theorem var_c (s : ByteArray) : PureCalls Try.prog 46 [SP s] (BP (hid A (varM s))) := by
  refine PureCalls.of Try.func46 rfl (by kernel_rfl) rfl ?_
  by_cases hn : nameM s = true
  · have h1 : 1 ≤ s.size := by unfold nameM at hn; simp only [Bool.and_eq_true, decide_eq_true_eq] at hn; omega
    try first | refine AOLg.of [] ?_ | refine QSg.of [] ?_
    repeat' (first
      | (refine AWp.pass ?_; first
          | refine AWp.seq ?_
          | refine AWp.block ?_
          | refine AWp.skip ?_
          | refine AWp.regG [] (by conv => lhs; cbv) ?_
          | refine AWp.cond_t rfl ?_
          | refine AWp.cond_f rfl ?_
          | (refine AWp.cond rfl ?_ ?_ <;> intro hc <;> (try rw [hc]) <;> ((try simp only [zn] at hc) <;> (try simp (disch := omega) only [zz hA, zb, zy, reduceCtorEq, Bool.false_eq_true, Int.reduceLT, Int.reduceLE, Int.reduceNeg] at hc) <;> (try simp only [zw] at hc)) <;> (try (exfalso; omega)))
          | refine AWp.exit ?_
          | refine AWp.ret ⟨.inr rfl, _, RetOk.ev tabOk (by conv => lhs; cbv), ?_⟩)
      | (refine AOLg.pass ?_; refine AOLg.nx hA tabOk (by conv => lhs; cbv) ?_; first
          | refine NX.done ?_
          | refine NX.gt ?_
          | refine NX.gf ?_
          | (refine NX.gs ?_ ?_ <;> intro hc <;> rw [hc] <;> ((try simp only [zn] at hc) <;> (try simp (disch := omega) only [zz hA, zb, zy, reduceCtorEq, Bool.false_eq_true, Int.reduceLT, Int.reduceLE, Int.reduceNeg] at hc) <;> (try simp only [zw] at hc)) <;> (try (exfalso; omega)))
          | (refine NX.kC ?_; first | (with_reducible refine NX.call (name_c hA _) ?_) | (with_reducible refine NX.call (big_c hA _) ?_) | ((first | refine NX.call (name_c hA _) ?_ | refine NX.call (big_c hA _) ?_)) | fail)
          | (refine NX.kO ?_; (first | refine NX.callO (name_c hA _) (by simp [allEq]) rfl ?_ | refine NX.callO (big_c hA _) (by simp [allEq]) rfl ?_))
          | ((first | (refine NX.k 13 ?_; first | refine NX.one (One.byteM hA tabOk rfl rfl rfl rfl rfl ?_ ?_) ?_)) <;> (first | refine AOLg.pass ?_ | (((try simp only [zn]) <;> (try simp (disch := omega) only [zz hA, zb, zy, reduceCtorEq, Bool.false_eq_true, Int.reduceLT, Int.reduceLE, Int.reduceNeg]) <;> (try simp only [zw])) <;> omega)))
          | refine NX.raw ?_)
      | refine Thn.exit ?_
      | refine Blk.here ?_
      | refine Blk.other (by decide) ?_
      | refine ⟨.inl rfl, _, RetOk.ev tabOk (by conv => lhs; cbv), ?_⟩
      | fail)
    all_goals first
      | (exfalso; simp_all; done)
      | (refine rPV_then (by conv => lhs; cbv) ?_
         simp [hid_eq hA, varM, hn]; done)
  · try first | refine AOLg.of [] ?_ | refine QSg.of [] ?_
    repeat' (first
      | (refine AWp.pass ?_; first
          | refine AWp.seq ?_
          | refine AWp.block ?_
          | refine AWp.skip ?_
          | refine AWp.regG [] (by conv => lhs; cbv) ?_
          | refine AWp.cond_t rfl ?_
          | refine AWp.cond_f rfl ?_
          | (refine AWp.cond rfl ?_ ?_ <;> intro hc <;> (try rw [hc]) <;> ((try simp only [zn] at hc) <;> (try simp (disch := omega) only [zz hA, zb, zy, reduceCtorEq, Bool.false_eq_true, Int.reduceLT, Int.reduceLE, Int.reduceNeg] at hc) <;> (try simp only [zw] at hc)) <;> (try (exfalso; omega)))
          | refine AWp.exit ?_
          | refine AWp.ret ⟨.inr rfl, _, RetOk.ev tabOk (by conv => lhs; cbv), ?_⟩)
      | (refine AOLg.pass ?_; refine AOLg.nx hA tabOk (by conv => lhs; cbv) ?_; first
          | refine NX.done ?_
          | refine NX.gt ?_
          | refine NX.gf ?_
          | (refine NX.gs ?_ ?_ <;> intro hc <;> rw [hc] <;> ((try simp only [zn] at hc) <;> (try simp (disch := omega) only [zz hA, zb, zy, reduceCtorEq, Bool.false_eq_true, Int.reduceLT, Int.reduceLE, Int.reduceNeg] at hc) <;> (try simp only [zw] at hc)) <;> (try (exfalso; omega)))
          | (refine NX.kC ?_; first | (with_reducible refine NX.call (name_c hA _) ?_) | ((first | refine NX.call (name_c hA _) ?_)) | fail)
          | (refine NX.kO ?_; (first | refine NX.callO (name_c hA _) (by simp [allEq]) rfl ?_))
          | ((first | (refine NX.k 13 ?_; first | refine NX.one (One.byteM hA tabOk rfl rfl rfl rfl rfl ?_ ?_) ?_)) <;> (first | refine AOLg.pass ?_ | (((try simp only [zn]) <;> (try simp (disch := omega) only [zz hA, zb, zy, reduceCtorEq, Bool.false_eq_true, Int.reduceLT, Int.reduceLE, Int.reduceNeg]) <;> (try simp only [zw])) <;> omega)))
          | refine NX.raw ?_)
      | refine Thn.exit ?_
      | refine Blk.here ?_
      | refine Blk.other (by decide) ?_
      | refine ⟨.inl rfl, _, RetOk.ev tabOk (by conv => lhs; cbv), ?_⟩
      | fail)
    all_goals first
      | (exfalso; simp_all; done)
      | (refine rPV_then (by conv => lhs; cbv) ?_
         simp [hid_eq hA, varM, hn]; done)
theorem parts_c (k : Int) (s : ByteArray) (n : Int) : PureCalls Try.prog 37 [ndP k s n] (IP (hid A (partsM k n))) := by
  refine PureCalls.of Try.func37 rfl (by kernel_rfl) rfl ?_
  by_cases h : k = 6
  · subst h
    try first | refine AOLg.of [] ?_ | refine QSg.of [] ?_
    repeat' (first
      | (refine AWp.pass ?_; first
          | refine AWp.seq ?_
          | refine AWp.block ?_
          | refine AWp.skip ?_
          | refine AWp.regG [] (by conv => lhs; cbv) ?_
          | refine AWp.cond_t rfl ?_
          | refine AWp.cond_f rfl ?_
          | (refine AWp.cond rfl ?_ ?_ <;> intro hc <;> (try rw [hc]) <;> ((try simp only [zn] at hc) <;> (try simp (disch := omega) only [zz hA, zb, zy, reduceCtorEq, Bool.false_eq_true, Int.reduceLT, Int.reduceLE, Int.reduceNeg] at hc) <;> (try simp only [zw] at hc)) <;> (try (exfalso; omega)))
          | refine AWp.exit ?_
          | refine AWp.ret ⟨.inr rfl, _, RetOk.ev tabOk (by conv => lhs; cbv), ?_⟩)
      | (refine AOLg.pass ?_; refine AOLg.nx hA tabOk (by conv => lhs; cbv) ?_; first
          | refine NX.done ?_
          | refine NX.gt ?_
          | refine NX.gf ?_
          | (refine NX.gs ?_ ?_ <;> intro hc <;> rw [hc] <;> ((try simp only [zn] at hc) <;> (try simp (disch := omega) only [zz hA, zb, zy, reduceCtorEq, Bool.false_eq_true, Int.reduceLT, Int.reduceLE, Int.reduceNeg] at hc) <;> (try simp only [zw] at hc)) <;> (try (exfalso; omega)))
          | ((first | (refine NX.k 8 ?_; first | refine NX.one (One.eqBoolM hA tabOk rfl rfl rfl rfl rfl) ?_) | (refine NX.k 14 ?_; first | refine NX.one (One.loadRatM hA tabOk rfl rfl rfl rfl rfl rfl ?_) ?_) | (refine NX.k 18 ?_; first | refine NX.one (One.fieldRat tabOk rfl rfl rfl rfl (by decide) rfl rfl) ?_)) <;> (first | refine AOLg.pass ?_ | (((try simp only [zn]) <;> (try simp (disch := omega) only [zz hA, zb, zy, reduceCtorEq, Bool.false_eq_true, Int.reduceLT, Int.reduceLE, Int.reduceNeg]) <;> (try simp only [zw])) <;> omega)))
          | refine NX.raw ?_)
      | refine Thn.exit ?_
      | refine Blk.here ?_
      | refine Blk.other (by decide) ?_
      | refine ⟨.inl rfl, _, RetOk.ev tabOk (by conv => lhs; cbv), ?_⟩
      | fail)
    refine rPV_then (by conv => lhs; cbv) ?_
    simp [hid_eq hA, partsM]
  · try first | refine AOLg.of [] ?_ | refine QSg.of [] ?_
    repeat' (first
      | (refine AWp.pass ?_; first
          | refine AWp.seq ?_
          | refine AWp.block ?_
          | refine AWp.skip ?_
          | refine AWp.regG [] (by conv => lhs; cbv) ?_
          | refine AWp.cond_t rfl ?_
          | refine AWp.cond_f rfl ?_
          | (refine AWp.cond rfl ?_ ?_ <;> intro hc <;> (try rw [hc]) <;> ((try simp only [zn] at hc) <;> (try simp (disch := omega) only [zz hA, zb, zy, reduceCtorEq, Bool.false_eq_true, Int.reduceLT, Int.reduceLE, Int.reduceNeg] at hc) <;> (try simp only [zw] at hc)) <;> (try (exfalso; omega)))
          | refine AWp.exit ?_
          | refine AWp.ret ⟨.inr rfl, _, RetOk.ev tabOk (by conv => lhs; cbv), ?_⟩)
      | (refine AOLg.pass ?_; refine AOLg.nx hA tabOk (by conv => lhs; cbv) ?_; first
          | refine NX.done ?_
          | refine NX.gt ?_
          | refine NX.gf ?_
          | (refine NX.gs ?_ ?_ <;> intro hc <;> rw [hc] <;> ((try simp only [zn] at hc) <;> (try simp (disch := omega) only [zz hA, zb, zy, reduceCtorEq, Bool.false_eq_true, Int.reduceLT, Int.reduceLE, Int.reduceNeg] at hc) <;> (try simp only [zw] at hc)) <;> (try (exfalso; omega)))
          | ((first | (refine NX.k 8 ?_; first | refine NX.one (One.eqBoolM hA tabOk rfl rfl rfl rfl rfl) ?_) | (refine NX.k 14 ?_; first | refine NX.one (One.loadRatM hA tabOk rfl rfl rfl rfl rfl rfl ?_) ?_) | (refine NX.k 18 ?_; first | refine NX.one (One.fieldRat tabOk rfl rfl rfl rfl (by decide) rfl rfl) ?_)) <;> (first | refine AOLg.pass ?_ | (((try simp only [zn]) <;> (try simp (disch := omega) only [zz hA, zb, zy, reduceCtorEq, Bool.false_eq_true, Int.reduceLT, Int.reduceLE, Int.reduceNeg]) <;> (try simp only [zw])) <;> omega)))
          | refine NX.raw ?_)
      | refine Thn.exit ?_
      | refine Blk.here ?_
      | refine Blk.other (by decide) ?_
      | refine ⟨.inl rfl, _, RetOk.ev tabOk (by conv => lhs; cbv), ?_⟩
      | fail)
    refine rPV_then (by conv => lhs; cbv) ?_
    simp [hid_eq hA, partsM, h]
set_option maxHeartbeats 4000000 in
theorem may_c (k : Int) (s : ByteArray) (n : Int) : PureCalls Try.prog 38 [ndP k s n] (BP (hid A (mayD k s n))) := by
  refine PureCalls.of Try.func38 rfl (by kernel_rfl) rfl ?_
  have hc1 := con_c hA s
  have hv1 := var_c hA s
  have hbc : ∀ b, conM s = b → PureCalls Try.prog 40 [SP s] (BP b) := fun b h => by rw [← h]; rwa [hid_eq hA (α := Bool)] at hc1
  have hbv : ∀ b, varM s = b → PureCalls Try.prog 46 [SP s] (BP b) := fun b h => by rw [← h]; rwa [hid_eq hA (α := Bool)] at hv1
  clear hc1 hv1
  cases hcb : conM s <;> cases hvb : varM s <;> (
    try first | refine AOLg.of [] ?_ | refine QSg.of [] ?_
    repeat' (first
      | (refine AWp.pass ?_; first
          | refine AWp.seq ?_
          | refine AWp.block ?_
          | refine AWp.skip ?_
          | refine AWp.regG [] (by conv => lhs; cbv) ?_
          | refine AWp.cond_t rfl ?_
          | refine AWp.cond_f rfl ?_
          | (refine AWp.cond rfl ?_ ?_ <;> intro hc <;> (try rw [hc]) <;> ((try simp only [zn] at hc) <;> (try simp (disch := omega) only [zz hA, zb, zy, reduceCtorEq, Bool.false_eq_true, Int.reduceLT, Int.reduceLE, Int.reduceNeg] at hc) <;> (try simp only [zw] at hc)) <;> (try (exfalso; omega)))
          | refine AWp.exit ?_
          | refine AWp.ret ⟨.inr rfl, _, RetOk.ev tabOk (by conv => lhs; cbv), ?_⟩)
      | (refine AOLg.pass ?_; refine AOLg.nx hA tabOk (by conv => lhs; cbv) ?_; first
          | refine NX.done ?_
          | refine NX.gt ?_
          | refine NX.gf ?_
          | (refine NX.gs ?_ ?_ <;> intro hc <;> rw [hc] <;> ((try simp only [zn] at hc) <;> (try simp (disch := omega) only [zz hA, zb, zy, reduceCtorEq, Bool.false_eq_true, Int.reduceLT, Int.reduceLE, Int.reduceNeg] at hc) <;> (try simp only [zw] at hc)) <;> (try (exfalso; omega)))
          | (refine NX.kC ?_; first | (with_reducible refine NX.call (hbc _ hcb) ?_) | (with_reducible refine NX.call (hbv _ hvb) ?_) | ((first | refine NX.call (hbc _ hcb) ?_ | refine NX.call (hbv _ hvb) ?_)) | fail)
          | (refine NX.kO ?_; (first | refine NX.callO (hbc _ hcb) (by simp [allEq]) rfl ?_ | refine NX.callO (hbv _ hvb) (by simp [allEq]) rfl ?_))
          | ((first | (refine NX.k 8 ?_; first | refine NX.one (One.eqBoolM hA tabOk rfl rfl rfl rfl rfl) ?_) | (refine NX.k 14 ?_; first | refine NX.one (One.loadRatM hA tabOk rfl rfl rfl rfl rfl rfl ?_) ?_) | (refine NX.k 18 ?_; first | refine NX.one (One.fieldRat tabOk rfl rfl rfl rfl (by decide) rfl rfl) ?_)) <;> (first | refine AOLg.pass ?_ | (((try simp only [zn]) <;> (try simp (disch := omega) only [zz hA, zb, zy, reduceCtorEq, Bool.false_eq_true, Int.reduceLT, Int.reduceLE, Int.reduceNeg]) <;> (try simp only [zw])) <;> omega)))
          | refine NX.raw ?_)
      | refine Thn.exit ?_
      | refine Blk.here ?_
      | refine Blk.other (by decide) ?_
      | refine ⟨.inl rfl, _, RetOk.ev tabOk (by conv => lhs; cbv), ?_⟩
      | fail)
    all_goals
      refine rPV_then (by conv => lhs; cbv) ?_
    all_goals first
      | (simp_all [real, hid, mayD, eqS, emS]; done)
      | (simp_all [real, hid, mayD, eqS, emS]; omega))
theorem few_c (l : List Nd) (hsz : FitD l) : PureCalls Try.prog 20 [slP A 3 (encD A) l] (BP (hid A (fewD l))) := by
  refine PureCalls.lens (by kernel_rfl) fun hlen => ?_
  have hl := lens_ints hA (hlen _ List.mem_cons_self)
  rw [show maxLen = 9223372036854775807 from rfl] at hl
  refine PureCalls.of Try.func20 rfl (by kernel_rfl) rfl ?_
  try first | refine AOLg.of [] ?_ | refine QSg.of [] ?_
  repeat' (first
    | (refine AWp.pass ?_; first
        | refine AWp.seq ?_
        | refine AWp.block ?_
        | refine AWp.skip ?_
        | refine AWp.regG [] (by conv => lhs; cbv) ?_
        | refine AWp.cond_t rfl ?_
        | refine AWp.cond_f rfl ?_
        | (refine AWp.cond rfl ?_ ?_ <;> intro hc <;> (try rw [hc]) <;> ((try simp only [zn] at hc) <;> (try simp (disch := omega) only [zz hA, zb, zy, reduceCtorEq, Bool.false_eq_true, Int.reduceLT, Int.reduceLE, Int.reduceNeg] at hc) <;> (try simp only [zw] at hc)) <;> (try (exfalso; omega)))
        | refine AWp.exit ?_
        | refine AWp.ret ⟨.inr rfl, _, RetOk.ev tabOk (by conv => lhs; cbv), ?_⟩)
    | (refine AOLg.pass ?_; refine AOLg.nx hA tabOk (by conv => lhs; cbv) ?_; first
        | refine NX.done ?_
        | refine NX.gt ?_
        | refine NX.gf ?_
        | (refine NX.gs ?_ ?_ <;> intro hc <;> rw [hc] <;> ((try simp only [zn] at hc) <;> (try simp (disch := omega) only [zz hA, zb, zy, reduceCtorEq, Bool.false_eq_true, Int.reduceLT, Int.reduceLE, Int.reduceNeg] at hc) <;> (try simp only [zw] at hc)) <;> (try (exfalso; omega)))
        | ((first | (refine NX.k 1 ?_; first | refine NX.one (One.elemM hA tabOk rfl rfl rfl rfl ?_ ?_) ?_ | refine NX.one (One.elemOwnM hA tabOk rfl rfl rfl rfl rfl ?_ ?_) ?_) | (refine NX.k 7 ?_; first | refine NX.one (One.concatM hA rfl rfl rfl ?_) ?_) | (refine NX.k 10 ?_; first | refine NX.one (One.lenOwnM hA tabOk rfl rfl rfl rfl) ?_) | (refine NX.k 14 ?_; first | refine NX.one (One.loadRatM hA tabOk rfl rfl rfl rfl rfl rfl ?_) ?_) | (refine NX.k 18 ?_; first | refine NX.one (One.fieldRat tabOk rfl rfl rfl rfl (by decide) rfl rfl) ?_)) <;> (first | refine AOLg.pass ?_ | (((try simp only [zn]) <;> (try simp (disch := omega) only [zz hA, zb, zy, reduceCtorEq, Bool.false_eq_true, Int.reduceLT, Int.reduceLE, Int.reduceNeg]) <;> (try simp only [zw])) <;> omega)))
        | refine NX.raw ?_)
    | refine Thn.exit ?_
    | refine Blk.here ?_
    | refine Blk.other (by decide) ?_
    | refine ⟨.inl rfl, _, RetOk.ev tabOk (by conv => lhs; cbv), ?_⟩
    | fail)
  refine AWp.loopU (fun k : Nat => [(4, .ic (.lit (.int .i64 (hid A (cN k))))), (3, .ic (.lit (.int .i64 (hid A (cN (wtD (l.take k)))))))]) (fun _ => []) (fun k => l.length - k) (fun k => k ≤ l.length ∧ wtD (l.take k) ≤ 600) 0 (by conv => lhs; cbv) ⟨Nat.zero_le _, by simp [wtD]⟩ (.int rfl (by simp [hA, real, hid, cN]) (.int rfl (by simp [hA, real, hid, cN, wtD]) .nil)) rfl ?_
  rintro k ⟨hk, hok⟩
  have hwl := wtD_len (l.take k)
  rw [List.length_take] at hwl
  by_cases hlt : k < l.length
  · have hm : l.getD k default ∈ l := by rw [List.getD_eq_getElem?_getD, List.getElem?_eq_getElem hlt]; exact List.getElem_mem _
    have hz := hsz _ hm
    have hws := wtD_succ l k hlt
    have hwe := wtD_le l (k + 1)
    have hsz2 : ∀ q : Nat, q = k → (ndS (l.getD q default)).size = (ndS (l.getD k default)).size := by rintro q rfl; rfl
    generalize hw2 : wtD (l.take (k + 1)) = w2 at *
    generalize wtD (l.take k) = w1 at *
    try first | refine AOLg.of [] ?_ | refine QSg.of [] ?_
    repeat' (first
      | (refine AWp.pass ?_; first
          | refine AWp.seq ?_
          | refine AWp.block ?_
          | refine AWp.skip ?_
          | refine AWp.regG [] (by conv => lhs; cbv) ?_
          | refine AWp.cond_t rfl ?_
          | refine AWp.cond_f rfl ?_
          | (refine AWp.cond rfl ?_ ?_ <;> intro hc <;> (try rw [hc]) <;> ((try simp only [zn] at hc) <;> (try simp (disch := omega) only [zz hA, zb, zy, reduceCtorEq, Bool.false_eq_true, Int.reduceLT, Int.reduceLE, Int.reduceNeg] at hc) <;> (try simp only [zw] at hc)) <;> (try (exfalso; omega)))
          | refine AWp.exit ?_
          | refine AWp.ret ⟨.inr rfl, _, RetOk.ev tabOk (by conv => lhs; cbv), ?_⟩)
      | (refine AOLg.pass ?_; refine AOLg.nx hA tabOk (by conv => lhs; cbv) ?_; first
          | refine NX.done ?_
          | refine NX.gt ?_
          | refine NX.gf ?_
          | (refine NX.gs ?_ ?_ <;> intro hc <;> rw [hc] <;> ((try simp only [zn] at hc) <;> (try simp (disch := omega) only [zz hA, zb, zy, reduceCtorEq, Bool.false_eq_true, Int.reduceLT, Int.reduceLE, Int.reduceNeg] at hc) <;> (try simp only [zw] at hc)) <;> (try (exfalso; omega)))
          | ((first | (refine NX.k 1 ?_; first | refine NX.one (One.elemM hA tabOk rfl rfl rfl rfl ?_ ?_) ?_ | refine NX.one (One.elemOwnM hA tabOk rfl rfl rfl rfl rfl ?_ ?_) ?_) | (refine NX.k 7 ?_; first | refine NX.one (One.concatM hA rfl rfl rfl ?_) ?_) | (refine NX.k 10 ?_; first | refine NX.one (One.lenOwnM hA tabOk rfl rfl rfl rfl) ?_) | (refine NX.k 14 ?_; first | refine NX.one (One.loadRatM hA tabOk rfl rfl rfl rfl rfl rfl ?_) ?_) | (refine NX.k 18 ?_; first | refine NX.one (One.fieldRat tabOk rfl rfl rfl rfl (by decide) rfl rfl) ?_)) <;> (first | refine AOLg.pass ?_ | (((try simp only [zn]) <;> (try simp (disch := omega) only [zz hA, zb, zy, reduceCtorEq, Bool.false_eq_true, Int.reduceLT, Int.reduceLE, Int.reduceNeg]) <;> (try simp only [zw])) <;> omega)))
          | refine NX.raw ?_)
      | refine Thn.exit ?_
      | refine Blk.here ?_
      | refine Blk.other (by decide) ?_
      | refine ⟨.inl rfl, _, RetOk.ev tabOk (by conv => lhs; cbv), ?_⟩
      | fail)
    · have : fewD l = false := by unfold fewD; exact decide_eq_false (by (((try simp only [zn]) <;> (try simp (disch := omega) only [zz hA, zb, zy, reduceCtorEq, Bool.false_eq_true, Int.reduceLT, Int.reduceLE, Int.reduceNeg]) <;> (try simp only [zw])) <;> omega))
      refine rPV_then (by conv => lhs; cbv) ?_
      rw [this, hid_eq hA]
    · refine ⟨k + 1, ?_, ?_, rfl, rfl, ?_, (by repeat' (first | exact subE.nil | refine subE.cons rfl ?_))⟩
      · refine ⟨by omega, ?_⟩
        (((try simp only [zn]) <;> (try simp (disch := omega) only [zz hA, zb, zy, reduceCtorEq, Bool.false_eq_true, Int.reduceLT, Int.reduceLE, Int.reduceNeg]) <;> (try simp only [zw])) <;> omega)
      · omega
      · refine .int rfl ?_ (.int rfl ?_ .nil)
        all_goals (((try simp only [zn]) <;> (try simp (disch := omega) only [zz hA, zb, zy, reduceCtorEq, Bool.false_eq_true, Int.reduceLT, Int.reduceLE, Int.reduceNeg]) <;> (try simp only [zw])) <;> omega)
  · have : fewD l = true := by
      unfold fewD
      rw [List.take_of_length_le (by omega)] at hok
      exact decide_eq_true hok
    try first | refine AOLg.of [] ?_ | refine QSg.of [] ?_
    repeat' (first
      | (refine AWp.pass ?_; first
          | refine AWp.seq ?_
          | refine AWp.block ?_
          | refine AWp.skip ?_
          | refine AWp.regG [] (by conv => lhs; cbv) ?_
          | refine AWp.cond_t rfl ?_
          | refine AWp.cond_f rfl ?_
          | (refine AWp.cond rfl ?_ ?_ <;> intro hc <;> (try rw [hc]) <;> ((try simp only [zn] at hc) <;> (try simp (disch := omega) only [zz hA, zb, zy, reduceCtorEq, Bool.false_eq_true, Int.reduceLT, Int.reduceLE, Int.reduceNeg] at hc) <;> (try simp only [zw] at hc)) <;> (try (exfalso; omega)))
          | refine AWp.exit ?_
          | refine AWp.ret ⟨.inr rfl, _, RetOk.ev tabOk (by conv => lhs; cbv), ?_⟩)
      | (refine AOLg.pass ?_; refine AOLg.nx hA tabOk (by conv => lhs; cbv) ?_; first
          | refine NX.done ?_
          | refine NX.gt ?_
          | refine NX.gf ?_
          | (refine NX.gs ?_ ?_ <;> intro hc <;> rw [hc] <;> ((try simp only [zn] at hc) <;> (try simp (disch := omega) only [zz hA, zb, zy, reduceCtorEq, Bool.false_eq_true, Int.reduceLT, Int.reduceLE, Int.reduceNeg] at hc) <;> (try simp only [zw] at hc)) <;> (try (exfalso; omega)))
          | ((first | (refine NX.k 1 ?_; first | refine NX.one (One.elemM hA tabOk rfl rfl rfl rfl ?_ ?_) ?_ | refine NX.one (One.elemOwnM hA tabOk rfl rfl rfl rfl rfl ?_ ?_) ?_) | (refine NX.k 7 ?_; first | refine NX.one (One.concatM hA rfl rfl rfl ?_) ?_) | (refine NX.k 10 ?_; first | refine NX.one (One.lenOwnM hA tabOk rfl rfl rfl rfl) ?_) | (refine NX.k 14 ?_; first | refine NX.one (One.loadRatM hA tabOk rfl rfl rfl rfl rfl rfl ?_) ?_) | (refine NX.k 18 ?_; first | refine NX.one (One.fieldRat tabOk rfl rfl rfl rfl (by decide) rfl rfl) ?_)) <;> (first | refine AOLg.pass ?_ | (((try simp only [zn]) <;> (try simp (disch := omega) only [zz hA, zb, zy, reduceCtorEq, Bool.false_eq_true, Int.reduceLT, Int.reduceLE, Int.reduceNeg]) <;> (try simp only [zw])) <;> omega)))
          | refine NX.raw ?_)
      | refine Thn.exit ?_
      | refine Blk.here ?_
      | refine Blk.other (by decide) ?_
      | refine ⟨.inl rfl, _, RetOk.ev tabOk (by conv => lhs; cbv), ?_⟩
      | fail)
    refine rPV_then (by conv => lhs; cbv) ?_
    rw [this, hid_eq hA]
end Go.Proofs.Ytgemcogfpkolfaa.Aw

/- Nodes in a row, each behind its parts: a plain law of where expressions begin. -/
set_option linter.unusedVariables false
set_option linter.unusedSimpArgs false
namespace Go.Proofs.Ytgemcogfpkolfaa.Aw
open Go Go.RowKit
def pD (l : List Nd) (i : Nat) : Int := partsM (ndK (l.getD i default)) (ndN (l.getD i default))
/-- Back over so many parts. -/
def backD (S : List Int) (z : Int) : Nat → Int
  | 0 => z
  | k + 1 => S.getD (backD S z k - 1).toNat default
def stD (l : List Nd) : Nat → List Int
  | 0 => []
  | i + 1 => stD l i ++ [backD (stD l i) i (pD l i).toNat]
def manyD (l : List Nd) : Nat → Int
  | 0 => 0
  | i + 1 => manyD l i - pD l i + 1
def shapeD (l : List Nd) (n : Nat) : Prop := ∀ i, i < n → 0 ≤ pD l i ∧ pD l i ≤ manyD l i
theorem stD_len (l : List Nd) : ∀ i, (stD l i).length = i
  | 0 => rfl
  | i + 1 => by rw [stD, List.length_append, stD_len l i]; rfl
theorem stD_get (l : List Nd) {j n : Nat} (h : j < n) : (stD l n).getD j default = backD (stD l j) j (pD l j).toNat := by
  induction n with
  | zero => omega
  | succ n ih =>
    rw [stD]
    rcases Nat.lt_or_ge j n with h1 | h1
    · rw [← ih h1]
      simp only [List.getD_eq_getElem?_getD]
      rw [List.getElem?_append_left (by rw [stD_len]; exact h1)]
    · obtain rfl : j = n := by omega
      have := stD_len l j
      simp only [List.getD_eq_getElem?_getD]
      rw [List.getElem?_append_right (by omega), this]
      simp
theorem shapeD.mono {l : List Nd} {m n : Nat} (h : shapeD l n) (k : m ≤ n) : shapeD l m := fun i hi => h i (by omega)
theorem manyD_nonneg {l : List Nd} {n : Nat} (h : shapeD l n) : ∀ i, i ≤ n → 0 ≤ manyD l i ∧ (0 < i → 1 ≤ manyD l i) := by
  intro i hi
  cases i with
  | zero => exact ⟨by simp [manyD], by omega⟩
  | succ i =>
    have := h i (by omega)
    simp only [manyD]
    omega
/-- The way back over whole expressions: as long as there are some ahead it stands behind one, and at last at nought. -/
structure WayD (l : List Nd) (n i : Nat) : Prop where
  lo : ∀ k : Nat, (k : Int) ≤ manyD l i → 0 ≤ backD (stD l n) i k
  hi : ∀ k : Nat, (k : Int) ≤ manyD l i → backD (stD l n) i k ≤ i
  pos : ∀ k : Nat, (k : Int) < manyD l i → 0 < backD (stD l n) i k
  dec : ∀ k : Nat, (k : Int) < manyD l i → backD (stD l n) i (k + 1) < backD (stD l n) i k
  fin : ∀ k : Nat, (k : Int) = manyD l i → backD (stD l n) i k = 0
/-- More that stands behind changes no way. -/
theorem backD_more (l : List Nd) (n i : Nat) (h : i ≤ n) {m : Nat} (hw : ∀ k : Nat, k < m → 0 < backD (stD l i) i k ∧ backD (stD l i) i k ≤ i) : ∀ k, k ≤ m → backD (stD l n) i k = backD (stD l i) i k := by
  intro k
  induction k with
  | zero => intro _; rfl
  | succ k ih =>
    intro hk
    have h1 := ih (by omega)
    have h2 := hw k (by omega)
    simp only [backD]
    rw [h1, stD_get l (show (backD (stD l i) i k - 1).toNat < n by omega), stD_get l (show (backD (stD l i) i k - 1).toNat < i by omega)]
theorem backD_shift (l : List Nd) (i : Nat) (hp : 0 ≤ pD l i) (hw : WayD l i i) : ∀ k : Nat, pD l i + k ≤ manyD l i → backD (stD l (i + 1)) (i + 1 : Nat) (k + 1) = backD (stD l i) i ((pD l i).toNat + k) := by
  intro k
  induction k with
  | zero =>
    intro _
    simp only [backD]
    rw [show (((i + 1 : Nat) : Int) - 1).toNat = i by omega, stD_get l (Nat.lt_succ_self i), Nat.add_zero]
  | succ k ih =>
    intro hk
    have h1 := ih (by omega)
    have h2 := hw.pos ((pD l i).toNat + k) (by omega)
    have h3 := hw.hi ((pD l i).toNat + k) (by omega)
    rw [show ∀ z : Int, ∀ q : Nat, backD (stD l (i + 1)) z (q + 1) = (stD l (i + 1)).getD (backD (stD l (i + 1)) z q - 1).toNat default from fun _ _ => rfl, h1, show (pD l i).toNat + (k + 1) = ((pD l i).toNat + k) + 1 by omega]
    rw [show backD (stD l i) i ((pD l i).toNat + k + 1) = (stD l i).getD (backD (stD l i) i ((pD l i).toNat + k) - 1).toNat default from rfl]
    generalize backD (stD l i) i ((pD l i).toNat + k) = q at *
    rw [stD_get l (show (q - 1).toNat < i + 1 by omega), stD_get l (show (q - 1).toNat < i by omega)]
theorem wayD {l : List Nd} : ∀ {i : Nat}, shapeD l i → WayD l i i
  | 0, _ => ⟨fun k hk => by simp [manyD] at hk; subst hk; simp [backD], fun k hk => by simp [manyD] at hk; subst hk; simp [backD], fun k hk => by simp [manyD] at hk; omega, fun k hk => by simp [manyD] at hk; omega, fun k hk => by simp [manyD] at hk; subst hk; simp [backD]⟩
  | i + 1, h => by
    have hw := wayD (h.mono (Nat.le_succ i))
    have hp := h i (Nat.lt_succ_self i)
    have hs := backD_shift l i hp.1 hw
    have hm : manyD l (i + 1) = manyD l i - pD l i + 1 := rfl
    refine ⟨fun k hk => ?_, fun k hk => ?_, fun k hk => ?_, fun k hk => ?_, fun k hk => ?_⟩
    · cases k with
      | zero => simp only [backD]; omega
      | succ k => rw [hs k (by omega)]; exact hw.lo _ (by omega)
    · cases k with
      | zero => simp only [backD]; omega
      | succ k => rw [hs k (by omega)]; have := hw.hi ((pD l i).toNat + k) (by omega); omega
    · cases k with
      | zero => simp only [backD]; omega
      | succ k => rw [hs k (by omega)]; exact hw.pos _ (by omega)
    · cases k with
      | zero =>
        rw [hs 0 (by omega)]
        have := hw.hi ((pD l i).toNat + 0) (by omega)
        simp only [backD]
        omega
      | succ k =>
        rw [hs k (by omega), hs (k + 1) (by omega)]
        have := hw.dec ((pD l i).toNat + k) (by omega)
        exact this
    · cases k with
      | zero => omega
      | succ k => rw [hs k (by omega)]; exact hw.fin _ (by omega)
/-- The way back in the row of all. -/
theorem wayD_in {l : List Nd} {n i : Nat} (h : shapeD l n) (hi : i ≤ n) : WayD l n i := by
  have hw := wayD (h.mono hi)
  have hm := (manyD_nonneg h i hi).1
  have e := backD_more l n i hi (m := (manyD l i).toNat) fun k hk => ⟨hw.pos k (by omega), hw.hi k (by omega)⟩
  refine ⟨fun k hk => ?_, fun k hk => ?_, fun k hk => ?_, fun k hk => ?_, fun k hk => ?_⟩
  · rw [e k (by omega)]; exact hw.lo k hk
  · rw [e k (by omega)]; exact hw.hi k hk
  · rw [e k (by omega)]; exact hw.pos k hk
  · rw [e k (by omega), e (k + 1) (by omega)]; exact hw.dec k hk
  · rw [e k (by omega)]; exact hw.fin k hk
theorem backD_in {l : List Nd} {n i : Nat} (h : shapeD l n) (hi : i ≤ n) (k : Nat) (hk : (k : Int) ≤ manyD l i) : backD (stD l n) i k = backD (stD l i) i k := by
  have hw := wayD (h.mono hi)
  exact backD_more l n i hi (m := (manyD l i).toNat) (fun k hk => ⟨hw.pos k (by omega), hw.hi k (by omega)⟩) k (by omega)
end Go.Proofs.Ytgemcogfpkolfaa.Aw

/- Nodes of expressions: contracts of the document's answer of layer 7, part 2: where expressions begin, and the places of a node's parts. -/
set_option linter.unusedVariables false
set_option linter.unusedSimpArgs false
set_option linter.unusedSectionVars false
namespace Go.Proofs.Ytgemcogfpkolfaa.Aw
open Go Go.RowKit
set_option maxRecDepth 10000
attribute [local irreducible] AWp AOL QS One AOLg QSg NX QX TRg TX AllO Fin3
def backsD (S : List Int) (i k : Nat) : List Int := (List.range k).map fun j => backD S i j - 1
def kidsP (S : List Int) (i p m : Nat) : List Int := (List.range m).map fun j => backD S i (p - 1 - j) - 1
def kidsD (S : List Int) (i p : Nat) : List Int := kidsP S i p p
theorem backsD_succ (S : List Int) (i k : Nat) : backsD S i (k + 1) = backsD S i k ++ [backD S i k - 1] := by simp [backsD, List.range_succ]
theorem backsD_len (S : List Int) (i k : Nat) : (backsD S i k).length = k := by simp [backsD]
theorem backsD_get (S : List Int) (i k j : Nat) (h : j < k) : (backsD S i k).getD j default = backD S i j - 1 := by simp [backsD, List.getD_eq_getElem?_getD, h]
theorem kidsP_succ (S : List Int) (i p m : Nat) : kidsP S i p (m + 1) = kidsP S i p m ++ [backD S i (p - 1 - m) - 1] := by simp [kidsP, List.range_succ]
theorem kidsP_len (S : List Int) (i p m : Nat) : (kidsP S i p m).length = m := by simp [kidsP]
theorem kidsD_len (S : List Int) (i p : Nat) : (kidsD S i p).length = p := kidsP_len _ _ _ _
theorem kidsD_get (S : List Int) (i p j : Nat) (h : j < p) : (kidsD S i p).getD j default = backD S i (p - 1 - j) - 1 := by simp [kidsD, kidsP, List.getD_eq_getElem?_getD, h]
variable {A : Ar} (hA : A = real)
include hA
theorem parts_at (l : List Nd) (i : Nat) {p : Int} (hp : pD l i = p) : ∀ k s n, k = ndK (l.getD i default) → n = ndN (l.getD i default) → PureCalls Try.prog 37 [ndP k s n] (IP (hid A p)) := by
  rintro k s n rfl rfl
  subst hp
  exact parts_c hA _ _ _
set_option maxHeartbeats 4000000 in
theorem rStarts_c (l : List Nd) (hl : l.length ≤ 1000000) (hs : shapeD l l.length) : PureCalls Try.prog 19 [slP A 3 (encD A) l] (intsP A (stD l l.length)) := by
  refine PureCalls.of Try.func19 rfl (by kernel_rfl) rfl ?_
  try first | refine AOLg.of [3] ?_ | refine QSg.of [3] ?_
  repeat' (first
    | (refine AWp.pass ?_; first
        | refine AWp.seq ?_
        | refine AWp.block ?_
        | refine AWp.skip ?_
        | refine AWp.regG [3] (by conv => lhs; cbv) ?_
        | refine AWp.cond_t rfl ?_
        | refine AWp.cond_f rfl ?_
        | (refine AWp.cond rfl ?_ ?_ <;> intro hc <;> (try rw [hc]) <;> ((try simp only [zn] at hc) <;> (try simp (disch := omega) only [zz hA, zb, zy, reduceCtorEq, Bool.false_eq_true, Int.reduceLT, Int.reduceLE, Int.reduceNeg] at hc) <;> (try simp only [zw] at hc)) <;> (try (exfalso; omega)))
        | refine AWp.exit ?_
        | refine AWp.ret ⟨.inr rfl, _, RetOk.ev tabOk (by conv => lhs; cbv), ?_⟩)
    | (refine AOLg.pass ?_; refine AOLg.nx hA tabOk (by conv => lhs; cbv) ?_; first
        | refine NX.done ?_
        | refine NX.gt ?_
        | refine NX.gf ?_
        | (refine NX.gs ?_ ?_ <;> intro hc <;> rw [hc] <;> ((try simp only [zn] at hc) <;> (try simp (disch := omega) only [zz hA, zb, zy, reduceCtorEq, Bool.false_eq_true, Int.reduceLT, Int.reduceLE, Int.reduceNeg] at hc) <;> (try simp only [zw] at hc)) <;> (try (exfalso; omega)))
        | ((first | (refine NX.k 1 ?_; first | refine NX.one (One.elemM hA tabOk rfl rfl rfl rfl ?_ ?_) ?_ | refine NX.one (One.elemOwnM hA tabOk rfl rfl rfl rfl rfl ?_ ?_) ?_) | (refine NX.k 7 ?_; first | refine NX.one (One.concatM hA rfl rfl rfl ?_) ?_) | (refine NX.k 10 ?_; first | refine NX.one (One.lenOwnM hA tabOk rfl rfl rfl rfl) ?_) | (refine NX.k 11 ?_; first | refine NX.one (One.appendM hA tabOk _ rfl rfl rfl rfl rfl rfl ?_ ?_) ?_ | refine NX.one (One.appendMM hA tabOk rfl rfl rfl rfl rfl ?_ ?_) ?_ | refine NX.one (One.appendOwnM hA tabOk _ rfl rfl rfl rfl rfl rfl rfl ?_ ?_) ?_ | refine NX.one (One.appendOwnMM hA tabOk rfl rfl rfl rfl rfl rfl ?_ ?_) ?_ | refine NX.one (One.appendOwn0 hA tabOk rfl rfl rfl rfl rfl rfl ?_ ?_) ?_) | (refine NX.k 14 ?_; first | refine NX.one (One.loadRatM hA tabOk rfl rfl rfl rfl rfl rfl ?_) ?_) | (refine NX.k 17 ?_; first | refine NX.one (One.build0 tabOk rfl rfl) ?_)) <;> (first | refine AOLg.pass ?_ | (((try simp only [zn]) <;> (try simp (disch := omega) only [zz hA, zb, zy, reduceCtorEq, Bool.false_eq_true, Int.reduceLT, Int.reduceLE, Int.reduceNeg]) <;> (try simp only [zw])) <;> omega)))
        | (refine NX.one (One.nilOwn tabOk 3 41 rfl rfl rfl) ?_)
        | refine NX.raw ?_)
    | refine Thn.exit ?_
    | refine Blk.here ?_
    | refine Blk.other (by decide) ?_
    | refine ⟨.inl rfl, _, RetOk.ev tabOk (by conv => lhs; cbv), ?_⟩
    | fail)
  refine AWp.loopU (fun x : Nat × Nat => [(4, .ic (.lit (.int .i64 (hid A (cN x.1))))), (3, .own 0 x.2)]) (fun x => [.row true x.2 3 1 (hid A (List.map encI (stD l x.1)))]) (fun x => l.length - x.1) (fun x => x.1 ≤ l.length) (0, 0) (by conv => lhs; cbv) (Nat.zero_le _) (.int rfl (by simp [hA, real, hid, cN]) (.cons rfl .nil)) (by
    ((try simp only [zn]) <;> (try simp (disch := omega) only [zz hA, zb, zy, reduceCtorEq, Bool.false_eq_true, Int.reduceLT, Int.reduceLE, Int.reduceNeg, stD, hid_eq hA]) <;> (try simp only [zw]))
    rfl) ?_
  rintro ⟨i, v⟩ hi0
  simp only [] at hi0 ⊢
  have hSl := stD_len l i
  by_cases hi : i < l.length
  · have hw := wayD (hs.mono (show i ≤ l.length by omega))
    have hp := hs i hi
    have hm0 := manyD_nonneg hs i (by omega)
    have hpa := parts_at hA l i rfl
    have hst : stD l (i + 1) = stD l i ++ [backD (stD l i) i (pD l i).toNat] := rfl
    obtain ⟨p, hpz⟩ : ∃ p : Nat, pD l i = p := ⟨(pD l i).toNat, by omega⟩
    rw [hpz] at hp hpa hst
    rw [Int.toNat_natCast] at hst
    have hml : manyD l i ≤ i := by
      have : ∀ j, j ≤ i → manyD l j ≤ j := by
        intro j
        induction j with
        | zero => intro _; simp [manyD]
        | succ j ih => intro hj; have := ih (by omega); have := hs j (by omega); simp only [manyD]; omega
      exact this i (Nat.le_refl _)
    have hwl : ∀ k : Nat, k ≤ p → 0 ≤ backD (stD l i) i k ∧ backD (stD l i) i k ≤ i := fun k hk => ⟨hw.lo k (by omega), hw.hi k (by omega)⟩
    have hwp : ∀ k : Nat, k < p → 0 < backD (stD l i) i k := fun k hk => hw.pos k (by omega)
    clear hw
    generalize hS2 : stD l (i + 1) = S2 at *
    generalize stD l i = S at *
    try first | refine AOLg.of [] ?_ | refine QSg.of [] ?_
    repeat' (first
      | (refine AWp.pass ?_; first
          | refine AWp.seq ?_
          | refine AWp.block ?_
          | refine AWp.skip ?_
          | refine AWp.regG [] (by conv => lhs; cbv) ?_
          | refine AWp.cond_t rfl ?_
          | refine AWp.cond_f rfl ?_
          | (refine AWp.cond rfl ?_ ?_ <;> intro hc <;> (try rw [hc]) <;> ((try simp only [zn] at hc) <;> (try simp (disch := omega) only [zz hA, zb, zy, reduceCtorEq, Bool.false_eq_true, Int.reduceLT, Int.reduceLE, Int.reduceNeg] at hc) <;> (try simp only [zw] at hc)) <;> (try (exfalso; omega)))
          | refine AWp.exit ?_
          | refine AWp.ret ⟨.inr rfl, _, RetOk.ev tabOk (by conv => lhs; cbv), ?_⟩)
      | (refine AOLg.pass ?_; refine AOLg.nx hA tabOk (by conv => lhs; cbv) ?_; first
          | refine NX.done ?_
          | refine NX.gt ?_
          | refine NX.gf ?_
          | (refine NX.gs ?_ ?_ <;> intro hc <;> rw [hc] <;> ((try simp only [zn] at hc) <;> (try simp (disch := omega) only [zz hA, zb, zy, reduceCtorEq, Bool.false_eq_true, Int.reduceLT, Int.reduceLE, Int.reduceNeg] at hc) <;> (try simp only [zw] at hc)) <;> (try (exfalso; omega)))
          | ((first | (refine NX.k 1 ?_; first | refine NX.one (One.elemM hA tabOk rfl rfl rfl rfl ?_ ?_) ?_ | refine NX.one (One.elemOwnM hA tabOk rfl rfl rfl rfl rfl ?_ ?_) ?_) | (refine NX.k 7 ?_; first | refine NX.one (One.concatM hA rfl rfl rfl ?_) ?_) | (refine NX.k 10 ?_; first | refine NX.one (One.lenOwnM hA tabOk rfl rfl rfl rfl) ?_) | (refine NX.k 11 ?_; first | refine NX.one (One.appendM hA tabOk _ rfl rfl rfl rfl rfl rfl ?_ ?_) ?_ | refine NX.one (One.appendMM hA tabOk rfl rfl rfl rfl rfl ?_ ?_) ?_ | refine NX.one (One.appendOwnM hA tabOk _ rfl rfl rfl rfl rfl rfl rfl ?_ ?_) ?_ | refine NX.one (One.appendOwnMM hA tabOk rfl rfl rfl rfl rfl rfl ?_ ?_) ?_ | refine NX.one (One.appendOwn0 hA tabOk rfl rfl rfl rfl rfl rfl ?_ ?_) ?_) | (refine NX.k 14 ?_; first | refine NX.one (One.loadRatM hA tabOk rfl rfl rfl rfl rfl rfl ?_) ?_) | (refine NX.k 17 ?_; first | refine NX.one (One.build0 tabOk rfl rfl) ?_)) <;> (first | refine AOLg.pass ?_ | (((try simp only [zn]) <;> (try simp (disch := omega) only [zz hA, zb, zy, reduceCtorEq, Bool.false_eq_true, Int.reduceLT, Int.reduceLE, Int.reduceNeg]) <;> (try simp only [zw])) <;> omega)))
          | refine NX.raw ?_)
      | refine Thn.exit ?_
      | refine Blk.here ?_
      | refine Blk.other (by decide) ?_
      | refine ⟨.inl rfl, _, RetOk.ev tabOk (by conv => lhs; cbv), ?_⟩
      | fail)
    refine AWp.loopU (fun k : Nat => [(6, .ic (.lit (.int .i64 (hid A (cN k))))), (5, .ic (.lit (.int .i64 (hid A (backD S i k)))))]) (fun _ => [.row true v 3 1 (hid A (List.map encI S))]) (fun k => p - k) (fun k => k ≤ p) 0 (by conv => lhs; cbv) (Nat.zero_le _) (.int rfl (by simp [hA, real, hid, cN]) (.int rfl (by simp [hA, real, hid, cN, backD]) .nil)) rfl ?_
    intro k hk0
    have hlo := hwl k hk0
    by_cases hk : k < p
    · have hpo := hwp k hk
      have hbs : ∀ q : Int, q = backD S i k - 1 → S.getD q.toNat default = backD S i (k + 1) := by rintro q rfl; rfl
      generalize hb2 : backD S i (k + 1) = b2 at *
      generalize backD S i k = b at *
      try first | refine AOLg.of [] ?_ | refine QSg.of [] ?_
      repeat' (first
        | (refine AWp.pass ?_; first
            | refine AWp.seq ?_
            | refine AWp.block ?_
            | refine AWp.skip ?_
            | refine AWp.regG [] (by conv => lhs; cbv) ?_
            | refine AWp.cond_t rfl ?_
            | refine AWp.cond_f rfl ?_
            | (refine AWp.cond rfl ?_ ?_ <;> intro hc <;> (try rw [hc]) <;> ((try simp only [zn] at hc) <;> (try simp (disch := omega) only [zz hA, zb, zy, reduceCtorEq, Bool.false_eq_true, Int.reduceLT, Int.reduceLE, Int.reduceNeg] at hc) <;> (try simp only [zw] at hc)) <;> (try (exfalso; omega)))
            | refine AWp.exit ?_
            | refine AWp.ret ⟨.inr rfl, _, RetOk.ev tabOk (by conv => lhs; cbv), ?_⟩)
        | (refine AOLg.pass ?_; refine AOLg.nx hA tabOk (by conv => lhs; cbv) ?_; first
            | refine NX.done ?_
            | refine NX.gt ?_
            | refine NX.gf ?_
            | (refine NX.gs ?_ ?_ <;> intro hc <;> rw [hc] <;> ((try simp only [zn] at hc) <;> (try simp (disch := omega) only [zz hA, zb, zy, reduceCtorEq, Bool.false_eq_true, Int.reduceLT, Int.reduceLE, Int.reduceNeg] at hc) <;> (try simp only [zw] at hc)) <;> (try (exfalso; omega)))
            | (refine NX.kC ?_; first | (with_reducible refine NX.call (hpa _ _ _ (by simp [hA, real, hid, cN]) (by simp [hA, real, hid, cN])) ?_) | ((first | refine NX.call (hpa _ _ _ (by simp [hA, real, hid, cN]) (by simp [hA, real, hid, cN])) ?_)) | fail)
            | (refine NX.kO ?_; (first | refine NX.callO (hpa _ _ _ (by simp [hA, real, hid, cN]) (by simp [hA, real, hid, cN])) (by simp [allEq]) rfl ?_))
            | ((first | (refine NX.k 1 ?_; first | refine NX.one (One.elemM hA tabOk rfl rfl rfl rfl ?_ ?_) ?_ | refine NX.one (One.elemOwnM hA tabOk rfl rfl rfl rfl rfl ?_ ?_) ?_) | (refine NX.k 7 ?_; first | refine NX.one (One.concatM hA rfl rfl rfl ?_) ?_) | (refine NX.k 10 ?_; first | refine NX.one (One.lenOwnM hA tabOk rfl rfl rfl rfl) ?_) | (refine NX.k 11 ?_; first | refine NX.one (One.appendM hA tabOk _ rfl rfl rfl rfl rfl rfl ?_ ?_) ?_ | refine NX.one (One.appendMM hA tabOk rfl rfl rfl rfl rfl ?_ ?_) ?_ | refine NX.one (One.appendOwnM hA tabOk _ rfl rfl rfl rfl rfl rfl rfl ?_ ?_) ?_ | refine NX.one (One.appendOwnMM hA tabOk rfl rfl rfl rfl rfl rfl ?_ ?_) ?_ | refine NX.one (One.appendOwn0 hA tabOk rfl rfl rfl rfl rfl rfl ?_ ?_) ?_) | (refine NX.k 14 ?_; first | refine NX.one (One.loadRatM hA tabOk rfl rfl rfl rfl rfl rfl ?_) ?_) | (refine NX.k 17 ?_; first | refine NX.one (One.build0 tabOk rfl rfl) ?_)) <;> (first | refine AOLg.pass ?_ | (((try simp only [zn]) <;> (try simp (disch := omega) only [zz hA, zb, zy, reduceCtorEq, Bool.false_eq_true, Int.reduceLT, Int.reduceLE, Int.reduceNeg]) <;> (try simp only [zw])) <;> omega)))
            | refine NX.raw ?_)
        | refine Thn.exit ?_
        | refine Blk.here ?_
        | refine Blk.other (by decide) ?_
        | refine ⟨.inl rfl, _, RetOk.ev tabOk (by conv => lhs; cbv), ?_⟩
        | fail)
      refine ⟨k + 1, by omega, by omega, rfl, rfl, ?_, (by repeat' (first | exact subE.nil | refine subE.cons rfl ?_))⟩
      refine .int rfl (by (((try simp only [zn]) <;> (try simp (disch := omega) only [zz hA, zb, zy, reduceCtorEq, Bool.false_eq_true, Int.reduceLT, Int.reduceLE, Int.reduceNeg]) <;> (try simp only [zw])) <;> omega)) (.int rfl ?_ .nil)
      rw [hb2]
      simp only [hid_eq hA]
      refine hbs _ ?_
      (((try simp only [zn]) <;> (try simp (disch := omega) only [zz hA, zb, zy, reduceCtorEq, Bool.false_eq_true, Int.reduceLT, Int.reduceLE, Int.reduceNeg]) <;> (try simp only [zw])) <;> omega)
    · obtain rfl : k = p := by omega
      generalize backD S i k = b at *
      try first | refine AOLg.of [] ?_ | refine QSg.of [] ?_
      repeat' (first
        | (refine AWp.pass ?_; first
            | refine AWp.seq ?_
            | refine AWp.block ?_
            | refine AWp.skip ?_
            | refine AWp.regG [] (by conv => lhs; cbv) ?_
            | refine AWp.cond_t rfl ?_
            | refine AWp.cond_f rfl ?_
            | (refine AWp.cond rfl ?_ ?_ <;> intro hc <;> (try rw [hc]) <;> ((try simp only [zn] at hc) <;> (try simp (disch := omega) only [zz hA, zb, zy, reduceCtorEq, Bool.false_eq_true, Int.reduceLT, Int.reduceLE, Int.reduceNeg] at hc) <;> (try simp only [zw] at hc)) <;> (try (exfalso; omega)))
            | refine AWp.exit ?_
            | refine AWp.ret ⟨.inr rfl, _, RetOk.ev tabOk (by conv => lhs; cbv), ?_⟩)
        | (refine AOLg.pass ?_; refine AOLg.nx hA tabOk (by conv => lhs; cbv) ?_; first
            | refine NX.done ?_
            | refine NX.gt ?_
            | refine NX.gf ?_
            | (refine NX.gs ?_ ?_ <;> intro hc <;> rw [hc] <;> ((try simp only [zn] at hc) <;> (try simp (disch := omega) only [zz hA, zb, zy, reduceCtorEq, Bool.false_eq_true, Int.reduceLT, Int.reduceLE, Int.reduceNeg] at hc) <;> (try simp only [zw] at hc)) <;> (try (exfalso; omega)))
            | (refine NX.kC ?_; first | (with_reducible refine NX.call (hpa _ _ _ (by simp [hA, real, hid, cN]) (by simp [hA, real, hid, cN])) ?_) | ((first | refine NX.call (hpa _ _ _ (by simp [hA, real, hid, cN]) (by simp [hA, real, hid, cN])) ?_)) | fail)
            | (refine NX.kO ?_; (first | refine NX.callO (hpa _ _ _ (by simp [hA, real, hid, cN]) (by simp [hA, real, hid, cN])) (by simp [allEq]) rfl ?_))
            | ((first | (refine NX.k 1 ?_; first | refine NX.one (One.elemM hA tabOk rfl rfl rfl rfl ?_ ?_) ?_ | refine NX.one (One.elemOwnM hA tabOk rfl rfl rfl rfl rfl ?_ ?_) ?_) | (refine NX.k 7 ?_; first | refine NX.one (One.concatM hA rfl rfl rfl ?_) ?_) | (refine NX.k 10 ?_; first | refine NX.one (One.lenOwnM hA tabOk rfl rfl rfl rfl) ?_) | (refine NX.k 11 ?_; first | refine NX.one (One.appendM hA tabOk _ rfl rfl rfl rfl rfl rfl ?_ ?_) ?_ | refine NX.one (One.appendMM hA tabOk rfl rfl rfl rfl rfl ?_ ?_) ?_ | refine NX.one (One.appendOwnM hA tabOk _ rfl rfl rfl rfl rfl rfl rfl ?_ ?_) ?_ | refine NX.one (One.appendOwnMM hA tabOk rfl rfl rfl rfl rfl rfl ?_ ?_) ?_ | refine NX.one (One.appendOwn0 hA tabOk rfl rfl rfl rfl rfl rfl ?_ ?_) ?_) | (refine NX.k 14 ?_; first | refine NX.one (One.loadRatM hA tabOk rfl rfl rfl rfl rfl rfl ?_) ?_) | (refine NX.k 17 ?_; first | refine NX.one (One.build0 tabOk rfl rfl) ?_)) <;> (first | refine AOLg.pass ?_ | (((try simp only [zn]) <;> (try simp (disch := omega) only [zz hA, zb, zy, reduceCtorEq, Bool.false_eq_true, Int.reduceLT, Int.reduceLE, Int.reduceNeg]) <;> (try simp only [zw])) <;> omega)))
            | refine NX.raw ?_)
        | refine Thn.exit ?_
        | refine Blk.here ?_
        | refine Blk.other (by decide) ?_
        | refine ⟨.inl rfl, _, RetOk.ev tabOk (by conv => lhs; cbv), ?_⟩
        | fail)
      refine ⟨(i + 1, v + 1), by simp only; omega, by simp only; omega, rfl, ?_, ?_, (by repeat' (first | exact subE.nil | refine subE.cons rfl ?_))⟩
      · ((try simp only [zn]) <;> (try simp (disch := omega) only [zz hA, zb, zy, reduceCtorEq, Bool.false_eq_true, Int.reduceLT, Int.reduceLE, Int.reduceNeg, hS2, hst]) <;> (try simp only [zw]))
      · exact .int rfl (by (((try simp only [zn]) <;> (try simp (disch := omega) only [zz hA, zb, zy, reduceCtorEq, Bool.false_eq_true, Int.reduceLT, Int.reduceLE, Int.reduceNeg]) <;> (try simp only [zw])) <;> omega)) (.cons rfl .nil)
  · obtain rfl : i = l.length := by omega
    try first | refine AOLg.of [] ?_ | refine QSg.of [] ?_
    repeat' (first
      | (refine AWp.pass ?_; first
          | refine AWp.seq ?_
          | refine AWp.block ?_
          | refine AWp.skip ?_
          | refine AWp.regG [] (by conv => lhs; cbv) ?_
          | refine AWp.cond_t rfl ?_
          | refine AWp.cond_f rfl ?_
          | (refine AWp.cond rfl ?_ ?_ <;> intro hc <;> (try rw [hc]) <;> ((try simp only [zn] at hc) <;> (try simp (disch := omega) only [zz hA, zb, zy, reduceCtorEq, Bool.false_eq_true, Int.reduceLT, Int.reduceLE, Int.reduceNeg] at hc) <;> (try simp only [zw] at hc)) <;> (try (exfalso; omega)))
          | refine AWp.exit ?_
          | refine AWp.ret ⟨.inr rfl, _, RetOk.ev tabOk (by conv => lhs; cbv), ?_⟩)
      | (refine AOLg.pass ?_; refine AOLg.nx hA tabOk (by conv => lhs; cbv) ?_; first
          | refine NX.done ?_
          | refine NX.gt ?_
          | refine NX.gf ?_
          | (refine NX.gs ?_ ?_ <;> intro hc <;> rw [hc] <;> ((try simp only [zn] at hc) <;> (try simp (disch := omega) only [zz hA, zb, zy, reduceCtorEq, Bool.false_eq_true, Int.reduceLT, Int.reduceLE, Int.reduceNeg] at hc) <;> (try simp only [zw] at hc)) <;> (try (exfalso; omega)))
          | ((first | (refine NX.k 1 ?_; first | refine NX.one (One.elemM hA tabOk rfl rfl rfl rfl ?_ ?_) ?_ | refine NX.one (One.elemOwnM hA tabOk rfl rfl rfl rfl rfl ?_ ?_) ?_) | (refine NX.k 7 ?_; first | refine NX.one (One.concatM hA rfl rfl rfl ?_) ?_) | (refine NX.k 10 ?_; first | refine NX.one (One.lenOwnM hA tabOk rfl rfl rfl rfl) ?_) | (refine NX.k 11 ?_; first | refine NX.one (One.appendM hA tabOk _ rfl rfl rfl rfl rfl rfl ?_ ?_) ?_ | refine NX.one (One.appendMM hA tabOk rfl rfl rfl rfl rfl ?_ ?_) ?_ | refine NX.one (One.appendOwnM hA tabOk _ rfl rfl rfl rfl rfl rfl rfl ?_ ?_) ?_ | refine NX.one (One.appendOwnMM hA tabOk rfl rfl rfl rfl rfl rfl ?_ ?_) ?_ | refine NX.one (One.appendOwn0 hA tabOk rfl rfl rfl rfl rfl rfl ?_ ?_) ?_) | (refine NX.k 14 ?_; first | refine NX.one (One.loadRatM hA tabOk rfl rfl rfl rfl rfl rfl ?_) ?_) | (refine NX.k 17 ?_; first | refine NX.one (One.build0 tabOk rfl rfl) ?_)) <;> (first | refine AOLg.pass ?_ | (((try simp only [zn]) <;> (try simp (disch := omega) only [zz hA, zb, zy, reduceCtorEq, Bool.false_eq_true, Int.reduceLT, Int.reduceLE, Int.reduceNeg]) <;> (try simp only [zw])) <;> omega)))
          | refine NX.raw ?_)
      | refine Thn.exit ?_
      | refine Blk.here ?_
      | refine Blk.other (by decide) ?_
      | refine ⟨.inl rfl, _, RetOk.ev tabOk (by conv => lhs; cbv), ?_⟩
      | fail)
    exact (rPV_own rfl).trans rfl
set_option maxHeartbeats 4000000 in
theorem rKids_c (l : List Nd) (S : List Int) (i p : Nat) (hl : l.length ≤ 1000000) (hi : i < l.length) (hp : pD l i = p) (hp2 : p ≤ 1000000) (hS : ∀ k : Nat, k < p → 1 ≤ backD S i k ∧ backD S i k ≤ S.length) (hS2 : ∀ k : Nat, k ≤ p → 0 ≤ backD S i k ∧ backD S i k ≤ 1000000) : ∀ z : Int, z = i → PureCalls Try.prog 32 [slP A 3 (encD A) l, intsP A S, IP z] (intsP A (kidsD S i p)) := by
  intro z hz
  have hpa := parts_at hA l i hp
  refine PureCalls.of Try.func32 rfl (by kernel_rfl) rfl ?_
  try first | refine AOLg.of [7] ?_ | refine QSg.of [7] ?_
  repeat' (first
    | (refine AWp.pass ?_; first
        | refine AWp.seq ?_
        | refine AWp.block ?_
        | refine AWp.skip ?_
        | refine AWp.regG [7] (by conv => lhs; cbv) ?_
        | refine AWp.cond_t rfl ?_
        | refine AWp.cond_f rfl ?_
        | (refine AWp.cond rfl ?_ ?_ <;> intro hc <;> (try rw [hc]) <;> ((try simp only [zn] at hc) <;> (try simp (disch := omega) only [zz hA, zb, zy, reduceCtorEq, Bool.false_eq_true, Int.reduceLT, Int.reduceLE, Int.reduceNeg] at hc) <;> (try simp only [zw] at hc)) <;> (try (exfalso; omega)))
        | refine AWp.exit ?_
        | refine AWp.ret ⟨.inr rfl, _, RetOk.ev tabOk (by conv => lhs; cbv), ?_⟩)
    | (refine AOLg.pass ?_; refine AOLg.nx hA tabOk (by conv => lhs; cbv) ?_; first
        | refine NX.done ?_
        | refine NX.gt ?_
        | refine NX.gf ?_
        | (refine NX.gs ?_ ?_ <;> intro hc <;> rw [hc] <;> ((try simp only [zn] at hc) <;> (try simp (disch := omega) only [zz hA, zb, zy, reduceCtorEq, Bool.false_eq_true, Int.reduceLT, Int.reduceLE, Int.reduceNeg] at hc) <;> (try simp only [zw] at hc)) <;> (try (exfalso; omega)))
        | ((first | (refine NX.k 1 ?_; first | refine NX.one (One.elemM hA tabOk rfl rfl rfl rfl ?_ ?_) ?_ | refine NX.one (One.elemOwnM hA tabOk rfl rfl rfl rfl rfl ?_ ?_) ?_) | (refine NX.k 7 ?_; first | refine NX.one (One.concatM hA rfl rfl rfl ?_) ?_) | (refine NX.k 10 ?_; first | refine NX.one (One.lenOwnM hA tabOk rfl rfl rfl rfl) ?_) | (refine NX.k 11 ?_; first | refine NX.one (One.appendM hA tabOk _ rfl rfl rfl rfl rfl rfl ?_ ?_) ?_ | refine NX.one (One.appendMM hA tabOk rfl rfl rfl rfl rfl ?_ ?_) ?_ | refine NX.one (One.appendOwnM hA tabOk _ rfl rfl rfl rfl rfl rfl rfl ?_ ?_) ?_ | refine NX.one (One.appendOwnMM hA tabOk rfl rfl rfl rfl rfl rfl ?_ ?_) ?_ | refine NX.one (One.appendOwn0 hA tabOk rfl rfl rfl rfl rfl rfl ?_ ?_) ?_) | (refine NX.k 14 ?_; first | refine NX.one (One.loadRatM hA tabOk rfl rfl rfl rfl rfl rfl ?_) ?_) | (refine NX.k 17 ?_; first | refine NX.one (One.build0 tabOk rfl rfl) ?_)) <;> (first | refine AOLg.pass ?_ | (((try simp only [zn]) <;> (try simp (disch := omega) only [zz hA, zb, zy, reduceCtorEq, Bool.false_eq_true, Int.reduceLT, Int.reduceLE, Int.reduceNeg]) <;> (try simp only [zw])) <;> omega)))
        | (refine NX.one (One.nilOwn tabOk 7 41 rfl rfl rfl) ?_)
        | refine NX.raw ?_)
    | refine Thn.exit ?_
    | refine Blk.here ?_
    | refine Blk.other (by decide) ?_
    | refine ⟨.inl rfl, _, RetOk.ev tabOk (by conv => lhs; cbv), ?_⟩
    | fail)
  refine AWp.loopU (fun x : Nat × Nat => [(9, .ic (.lit (.int .i64 (hid A (cN x.1))))), (8, .ic (.lit (.int .i64 (hid A (backD S i x.1 - 1))))), (7, .own 0 x.2)]) (fun x => [.row true x.2 3 1 (hid A (List.map encI (backsD S i x.1)))]) (fun x => p - x.1) (fun x => x.1 ≤ p) (0, 0) (by conv => lhs; cbv) (Nat.zero_le _) (.int rfl (by simp [hA, real, hid, cN]) (.int rfl (by simp only [backD]; (((try simp only [zn]) <;> (try simp (disch := omega) only [zz hA, zb, zy, reduceCtorEq, Bool.false_eq_true, Int.reduceLT, Int.reduceLE, Int.reduceNeg]) <;> (try simp only [zw])) <;> omega)) (.cons rfl .nil))) (by
    ((try simp only [zn]) <;> (try simp (disch := omega) only [zz hA, zb, zy, reduceCtorEq, Bool.false_eq_true, Int.reduceLT, Int.reduceLE, Int.reduceNeg, hid_eq hA]) <;> (try simp only [zw]))
    rfl) ?_
  rintro ⟨k, v⟩ hk0
  simp only [] at hk0 ⊢
  have hbl := backsD_len S i k
  have hb0 := hS2 k hk0
  by_cases hk : k < p
  · have hb := hS k hk
    have hb3 := hS2 (k + 1) (by omega)
    have hbs := backsD_succ S i k
    have hbb : backD S i (k + 1) = S.getD (backD S i k - 1).toNat default := rfl
    have hbq : ∀ q : Int, q = backD S i k - 1 → S.getD q.toNat default = backD S i (k + 1) := by rintro q rfl; rfl
    generalize hb2 : backD S i (k + 1) = b2 at *
    generalize backD S i k = b at *
    generalize hB2 : backsD S i (k + 1) = B2 at *
    generalize backsD S i k = B at *
    have hbq2 := hbq (hid A (b - 1)) (by rw [hid_eq hA])
    try first | refine AOLg.of [] ?_ | refine QSg.of [] ?_
    repeat' (first
      | (refine AWp.pass ?_; first
          | refine AWp.seq ?_
          | refine AWp.block ?_
          | refine AWp.skip ?_
          | refine AWp.regG [] (by conv => lhs; cbv) ?_
          | refine AWp.cond_t rfl ?_
          | refine AWp.cond_f rfl ?_
          | (refine AWp.cond rfl ?_ ?_ <;> intro hc <;> (try rw [hc]) <;> ((try simp only [zn] at hc) <;> (try simp (disch := omega) only [zz hA, zb, zy, reduceCtorEq, Bool.false_eq_true, Int.reduceLT, Int.reduceLE, Int.reduceNeg] at hc) <;> (try simp only [zw] at hc)) <;> (try (exfalso; omega)))
          | refine AWp.exit ?_
          | refine AWp.ret ⟨.inr rfl, _, RetOk.ev tabOk (by conv => lhs; cbv), ?_⟩)
      | (refine AOLg.pass ?_; refine AOLg.nx hA tabOk (by conv => lhs; cbv) ?_; first
          | refine NX.done ?_
          | refine NX.gt ?_
          | refine NX.gf ?_
          | (refine NX.gs ?_ ?_ <;> intro hc <;> rw [hc] <;> ((try simp only [zn] at hc) <;> (try simp (disch := omega) only [zz hA, zb, zy, reduceCtorEq, Bool.false_eq_true, Int.reduceLT, Int.reduceLE, Int.reduceNeg] at hc) <;> (try simp only [zw] at hc)) <;> (try (exfalso; omega)))
          | (refine NX.kC ?_; first | (with_reducible refine NX.call (hpa _ _ _ (by simp [hA, real, hid, cN, hz]) (by simp [hA, real, hid, cN, hz])) ?_) | ((first | refine NX.call (hpa _ _ _ (by simp [hA, real, hid, cN, hz]) (by simp [hA, real, hid, cN, hz])) ?_)) | fail)
          | (refine NX.kO ?_; (first | refine NX.callO (hpa _ _ _ (by simp [hA, real, hid, cN, hz]) (by simp [hA, real, hid, cN, hz])) (by simp [allEq]) rfl ?_))
          | ((first | (refine NX.k 1 ?_; first | refine NX.one (One.elemM hA tabOk rfl rfl rfl rfl ?_ ?_) ?_ | refine NX.one (One.elemOwnM hA tabOk rfl rfl rfl rfl rfl ?_ ?_) ?_) | (refine NX.k 7 ?_; first | refine NX.one (One.concatM hA rfl rfl rfl ?_) ?_) | (refine NX.k 10 ?_; first | refine NX.one (One.lenOwnM hA tabOk rfl rfl rfl rfl) ?_) | (refine NX.k 11 ?_; first | refine NX.one (One.appendM hA tabOk _ rfl rfl rfl rfl rfl rfl ?_ ?_) ?_ | refine NX.one (One.appendMM hA tabOk rfl rfl rfl rfl rfl ?_ ?_) ?_ | refine NX.one (One.appendOwnM hA tabOk _ rfl rfl rfl rfl rfl rfl rfl ?_ ?_) ?_ | refine NX.one (One.appendOwnMM hA tabOk rfl rfl rfl rfl rfl rfl ?_ ?_) ?_ | refine NX.one (One.appendOwn0 hA tabOk rfl rfl rfl rfl rfl rfl ?_ ?_) ?_) | (refine NX.k 14 ?_; first | refine NX.one (One.loadRatM hA tabOk rfl rfl rfl rfl rfl rfl ?_) ?_) | (refine NX.k 17 ?_; first | refine NX.one (One.build0 tabOk rfl rfl) ?_)) <;> (first | refine AOLg.pass ?_ | (((try simp only [zn]) <;> (try simp (disch := omega) only [zz hA, zb, zy, reduceCtorEq, Bool.false_eq_true, Int.reduceLT, Int.reduceLE, Int.reduceNeg]) <;> (try simp only [zw])) <;> omega)))
          | refine NX.raw ?_)
      | refine Thn.exit ?_
      | refine Blk.here ?_
      | refine Blk.other (by decide) ?_
      | refine ⟨.inl rfl, _, RetOk.ev tabOk (by conv => lhs; cbv), ?_⟩
      | fail)
    refine ⟨(k + 1, v + 1), by simp only; omega, by simp only; omega, rfl, ?_, ?_, (by repeat' (first | exact subE.nil | refine subE.cons rfl ?_))⟩
    · ((try simp only [zn]) <;> (try simp (disch := omega) only [zz hA, zb, zy, reduceCtorEq, Bool.false_eq_true, Int.reduceLT, Int.reduceLE, Int.reduceNeg, hB2, hbs]) <;> (try simp only [zw]))
    · refine .int rfl (by (((try simp only [zn]) <;> (try simp (disch := omega) only [zz hA, zb, zy, reduceCtorEq, Bool.false_eq_true, Int.reduceLT, Int.reduceLE, Int.reduceNeg]) <;> (try simp only [zw])) <;> omega)) (.int rfl ?_ (.cons rfl .nil))
      simp only [hb2]
      (((try simp only [zn]) <;> (try simp (disch := omega) only [zz hA, zb, zy, reduceCtorEq, Bool.false_eq_true, Int.reduceLT, Int.reduceLE, Int.reduceNeg]) <;> (try simp only [zw])) <;> omega)
  · obtain rfl : k = p := by omega
    try first | refine AOLg.of [10] ?_ | refine QSg.of [10] ?_
    repeat' (first
      | (refine AWp.pass ?_; first
          | refine AWp.seq ?_
          | refine AWp.block ?_
          | refine AWp.skip ?_
          | refine AWp.regG [10] (by conv => lhs; cbv) ?_
          | refine AWp.cond_t rfl ?_
          | refine AWp.cond_f rfl ?_
          | (refine AWp.cond rfl ?_ ?_ <;> intro hc <;> (try rw [hc]) <;> ((try simp only [zn] at hc) <;> (try simp (disch := omega) only [zz hA, zb, zy, reduceCtorEq, Bool.false_eq_true, Int.reduceLT, Int.reduceLE, Int.reduceNeg] at hc) <;> (try simp only [zw] at hc)) <;> (try (exfalso; omega)))
          | refine AWp.exit ?_
          | refine AWp.ret ⟨.inr rfl, _, RetOk.ev tabOk (by conv => lhs; cbv), ?_⟩)
      | (refine AOLg.pass ?_; refine AOLg.nx hA tabOk (by conv => lhs; cbv) ?_; first
          | refine NX.done ?_
          | refine NX.gt ?_
          | refine NX.gf ?_
          | (refine NX.gs ?_ ?_ <;> intro hc <;> rw [hc] <;> ((try simp only [zn] at hc) <;> (try simp (disch := omega) only [zz hA, zb, zy, reduceCtorEq, Bool.false_eq_true, Int.reduceLT, Int.reduceLE, Int.reduceNeg] at hc) <;> (try simp only [zw] at hc)) <;> (try (exfalso; omega)))
          | (refine NX.kC ?_; first | (with_reducible refine NX.call (hpa _ _ _ (by simp [hA, real, hid, cN, hz]) (by simp [hA, real, hid, cN, hz])) ?_) | ((first | refine NX.call (hpa _ _ _ (by simp [hA, real, hid, cN, hz]) (by simp [hA, real, hid, cN, hz])) ?_)) | fail)
          | (refine NX.kO ?_; (first | refine NX.callO (hpa _ _ _ (by simp [hA, real, hid, cN, hz]) (by simp [hA, real, hid, cN, hz])) (by simp [allEq]) rfl ?_))
          | ((first | (refine NX.k 1 ?_; first | refine NX.one (One.elemM hA tabOk rfl rfl rfl rfl ?_ ?_) ?_ | refine NX.one (One.elemOwnM hA tabOk rfl rfl rfl rfl rfl ?_ ?_) ?_) | (refine NX.k 7 ?_; first | refine NX.one (One.concatM hA rfl rfl rfl ?_) ?_) | (refine NX.k 10 ?_; first | refine NX.one (One.lenOwnM hA tabOk rfl rfl rfl rfl) ?_) | (refine NX.k 11 ?_; first | refine NX.one (One.appendM hA tabOk _ rfl rfl rfl rfl rfl rfl ?_ ?_) ?_ | refine NX.one (One.appendMM hA tabOk rfl rfl rfl rfl rfl ?_ ?_) ?_ | refine NX.one (One.appendOwnM hA tabOk _ rfl rfl rfl rfl rfl rfl rfl ?_ ?_) ?_ | refine NX.one (One.appendOwnMM hA tabOk rfl rfl rfl rfl rfl rfl ?_ ?_) ?_ | refine NX.one (One.appendOwn0 hA tabOk rfl rfl rfl rfl rfl rfl ?_ ?_) ?_) | (refine NX.k 14 ?_; first | refine NX.one (One.loadRatM hA tabOk rfl rfl rfl rfl rfl rfl ?_) ?_) | (refine NX.k 17 ?_; first | refine NX.one (One.build0 tabOk rfl rfl) ?_)) <;> (first | refine AOLg.pass ?_ | (((try simp only [zn]) <;> (try simp (disch := omega) only [zz hA, zb, zy, reduceCtorEq, Bool.false_eq_true, Int.reduceLT, Int.reduceLE, Int.reduceNeg]) <;> (try simp only [zw])) <;> omega)))
          | (refine NX.one (One.nilOwn tabOk 10 41 rfl rfl rfl) ?_)
          | refine NX.raw ?_)
      | refine Thn.exit ?_
      | refine Blk.here ?_
      | refine Blk.other (by decide) ?_
      | refine ⟨.inl rfl, _, RetOk.ev tabOk (by conv => lhs; cbv), ?_⟩
      | fail)
    refine AWp.loopU (fun x : Nat × Nat => [(11, .ic (.lit (.int .i64 (hid A (cN k - 1 - cN x.1))))), (10, .own 1 x.2)]) (fun x => [.row true v 3 1 (hid A (List.map encI (backsD S i k))), .row true x.2 3 1 (hid A (List.map encI (kidsP S i k x.1)))]) (fun x => k - x.1) (fun x => x.1 ≤ k) (0, 0) (by conv => lhs; cbv) (Nat.zero_le _) (.int rfl (by (((try simp only [zn]) <;> (try simp (disch := omega) only [zz hA, zb, zy, reduceCtorEq, Bool.false_eq_true, Int.reduceLT, Int.reduceLE, Int.reduceNeg]) <;> (try simp only [zw])) <;> omega)) (.cons rfl .nil)) (by
      ((try simp only [zn]) <;> (try simp (disch := omega) only [zz hA, zb, zy, reduceCtorEq, Bool.false_eq_true, Int.reduceLT, Int.reduceLE, Int.reduceNeg, hid_eq hA]) <;> (try simp only [zw]))
      rfl) ?_
    rintro ⟨m, v2⟩ hm0
    simp only [] at hm0 ⊢
    have hkl := kidsP_len S i k m
    by_cases hm : m < k
    · have hks := kidsP_succ S i k m
      have hbg := backsD_get S i k (k - 1 - m) (by omega)
      generalize hK2 : kidsP S i k (m + 1) = K2 at *
      generalize kidsP S i k m = K at *
      generalize backsD S i k = B at *
      generalize backD S i (k - 1 - m) - 1 = e at *
      have hq : ∀ q : Int, q = cN k - 1 - cN m → B.getD q.toNat default = e := by
        intro q hq
        rw [← hbg]
        congr 1
        simp only [cN] at hq
        omega
      have hq2 := hq ((k : Int) - 1 - m) rfl
      try first | refine AOLg.of [] ?_ | refine QSg.of [] ?_
      repeat' (first
        | (refine AWp.pass ?_; first
            | refine AWp.seq ?_
            | refine AWp.block ?_
            | refine AWp.skip ?_
            | refine AWp.regG [] (by conv => lhs; cbv) ?_
            | refine AWp.cond_t rfl ?_
            | refine AWp.cond_f rfl ?_
            | (refine AWp.cond rfl ?_ ?_ <;> intro hc <;> (try rw [hc]) <;> ((try simp only [zn] at hc) <;> (try simp (disch := omega) only [zz hA, zb, zy, reduceCtorEq, Bool.false_eq_true, Int.reduceLT, Int.reduceLE, Int.reduceNeg] at hc) <;> (try simp only [zw] at hc)) <;> (try (exfalso; omega)))
            | refine AWp.exit ?_
            | refine AWp.ret ⟨.inr rfl, _, RetOk.ev tabOk (by conv => lhs; cbv), ?_⟩)
        | (refine AOLg.pass ?_; refine AOLg.nx hA tabOk (by conv => lhs; cbv) ?_; first
            | refine NX.done ?_
            | refine NX.gt ?_
            | refine NX.gf ?_
            | (refine NX.gs ?_ ?_ <;> intro hc <;> rw [hc] <;> ((try simp only [zn] at hc) <;> (try simp (disch := omega) only [zz hA, zb, zy, reduceCtorEq, Bool.false_eq_true, Int.reduceLT, Int.reduceLE, Int.reduceNeg] at hc) <;> (try simp only [zw] at hc)) <;> (try (exfalso; omega)))
            | ((first | (refine NX.k 1 ?_; first | refine NX.one (One.elemM hA tabOk rfl rfl rfl rfl ?_ ?_) ?_ | refine NX.one (One.elemOwnM hA tabOk rfl rfl rfl rfl rfl ?_ ?_) ?_) | (refine NX.k 7 ?_; first | refine NX.one (One.concatM hA rfl rfl rfl ?_) ?_) | (refine NX.k 10 ?_; first | refine NX.one (One.lenOwnM hA tabOk rfl rfl rfl rfl) ?_) | (refine NX.k 11 ?_; first | refine NX.one (One.appendM hA tabOk _ rfl rfl rfl rfl rfl rfl ?_ ?_) ?_ | refine NX.one (One.appendMM hA tabOk rfl rfl rfl rfl rfl ?_ ?_) ?_ | refine NX.one (One.appendOwnM hA tabOk _ rfl rfl rfl rfl rfl rfl rfl ?_ ?_) ?_ | refine NX.one (One.appendOwnMM hA tabOk rfl rfl rfl rfl rfl rfl ?_ ?_) ?_ | refine NX.one (One.appendOwn0 hA tabOk rfl rfl rfl rfl rfl rfl ?_ ?_) ?_) | (refine NX.k 14 ?_; first | refine NX.one (One.loadRatM hA tabOk rfl rfl rfl rfl rfl rfl ?_) ?_) | (refine NX.k 17 ?_; first | refine NX.one (One.build0 tabOk rfl rfl) ?_)) <;> (first | refine AOLg.pass ?_ | (((try simp only [zn]) <;> (try simp (disch := omega) only [zz hA, zb, zy, reduceCtorEq, Bool.false_eq_true, Int.reduceLT, Int.reduceLE, Int.reduceNeg]) <;> (try simp only [zw])) <;> omega)))
            | refine NX.raw ?_)
        | refine Thn.exit ?_
        | refine Blk.here ?_
        | refine Blk.other (by decide) ?_
        | refine ⟨.inl rfl, _, RetOk.ev tabOk (by conv => lhs; cbv), ?_⟩
        | fail)
      refine ⟨(m + 1, v2 + 1), by simp only; omega, by simp only; omega, rfl, ?_, ?_, (by repeat' (first | exact subE.nil | refine subE.cons rfl ?_))⟩
      · ((try simp only [zn]) <;> (try simp (disch := omega) only [zz hA, zb, zy, reduceCtorEq, Bool.false_eq_true, Int.reduceLT, Int.reduceLE, Int.reduceNeg, hK2, hks, hq2]) <;> (try simp only [zw]))
      · exact .int rfl (by (((try simp only [zn]) <;> (try simp (disch := omega) only [zz hA, zb, zy, reduceCtorEq, Bool.false_eq_true, Int.reduceLT, Int.reduceLE, Int.reduceNeg]) <;> (try simp only [zw])) <;> omega)) (.cons rfl .nil)
    · obtain rfl : m = k := by omega
      try first | refine AOLg.of [] ?_ | refine QSg.of [] ?_
      repeat' (first
        | (refine AWp.pass ?_; first
            | refine AWp.seq ?_
            | refine AWp.block ?_
            | refine AWp.skip ?_
            | refine AWp.regG [] (by conv => lhs; cbv) ?_
            | refine AWp.cond_t rfl ?_
            | refine AWp.cond_f rfl ?_
            | (refine AWp.cond rfl ?_ ?_ <;> intro hc <;> (try rw [hc]) <;> ((try simp only [zn] at hc) <;> (try simp (disch := omega) only [zz hA, zb, zy, reduceCtorEq, Bool.false_eq_true, Int.reduceLT, Int.reduceLE, Int.reduceNeg] at hc) <;> (try simp only [zw] at hc)) <;> (try (exfalso; omega)))
            | refine AWp.exit ?_
            | refine AWp.ret ⟨.inr rfl, _, RetOk.ev tabOk (by conv => lhs; cbv), ?_⟩)
        | (refine AOLg.pass ?_; refine AOLg.nx hA tabOk (by conv => lhs; cbv) ?_; first
            | refine NX.done ?_
            | refine NX.gt ?_
            | refine NX.gf ?_
            | (refine NX.gs ?_ ?_ <;> intro hc <;> rw [hc] <;> ((try simp only [zn] at hc) <;> (try simp (disch := omega) only [zz hA, zb, zy, reduceCtorEq, Bool.false_eq_true, Int.reduceLT, Int.reduceLE, Int.reduceNeg] at hc) <;> (try simp only [zw] at hc)) <;> (try (exfalso; omega)))
            | ((first | (refine NX.k 1 ?_; first | refine NX.one (One.elemM hA tabOk rfl rfl rfl rfl ?_ ?_) ?_ | refine NX.one (One.elemOwnM hA tabOk rfl rfl rfl rfl rfl ?_ ?_) ?_) | (refine NX.k 7 ?_; first | refine NX.one (One.concatM hA rfl rfl rfl ?_) ?_) | (refine NX.k 10 ?_; first | refine NX.one (One.lenOwnM hA tabOk rfl rfl rfl rfl) ?_) | (refine NX.k 11 ?_; first | refine NX.one (One.appendM hA tabOk _ rfl rfl rfl rfl rfl rfl ?_ ?_) ?_ | refine NX.one (One.appendMM hA tabOk rfl rfl rfl rfl rfl ?_ ?_) ?_ | refine NX.one (One.appendOwnM hA tabOk _ rfl rfl rfl rfl rfl rfl rfl ?_ ?_) ?_ | refine NX.one (One.appendOwnMM hA tabOk rfl rfl rfl rfl rfl rfl ?_ ?_) ?_ | refine NX.one (One.appendOwn0 hA tabOk rfl rfl rfl rfl rfl rfl ?_ ?_) ?_) | (refine NX.k 14 ?_; first | refine NX.one (One.loadRatM hA tabOk rfl rfl rfl rfl rfl rfl ?_) ?_) | (refine NX.k 17 ?_; first | refine NX.one (One.build0 tabOk rfl rfl) ?_)) <;> (first | refine AOLg.pass ?_ | (((try simp only [zn]) <;> (try simp (disch := omega) only [zz hA, zb, zy, reduceCtorEq, Bool.false_eq_true, Int.reduceLT, Int.reduceLE, Int.reduceNeg]) <;> (try simp only [zw])) <;> omega)))
            | refine NX.raw ?_)
        | refine Thn.exit ?_
        | refine Blk.here ?_
        | refine Blk.other (by decide) ?_
        | refine ⟨.inl rfl, _, RetOk.ev tabOk (by conv => lhs; cbv), ?_⟩
        | fail)
      exact (rPV_own rfl).trans rfl
end Go.Proofs.Ytgemcogfpkolfaa.Aw

/- The texts of nodes, and how long they can be: a plain law. -/
set_option linter.unusedVariables false
set_option linter.unusedSimpArgs false
namespace Go.Proofs.Ytgemcogfpkolfaa.Aw
open Go Go.RowKit
def byS (n : UInt8) : ByteArray := { data := #[n] }
def figS (n : Int) : ByteArray := mkS [48 + n]
def sideD (l : List Nd) (T : List ByteArray) (c k : Int) (first : Bool) : ByteArray :=
  if (ndK (l.getD c.toNat default) = 4 ∨ ndK (l.getD c.toNat default) = 5) ∧ (first = false ∨ ndK (l.getD c.toNat default) ≠ k) then (byS 40 ++ T.getD c.toNat default) ++ byS 41 else T.getD c.toNat default
def conS (s : ByteArray) (T : List ByteArray) (kids : List Int) : Nat → ByteArray
  | 0 => s
  | j + 1 => (conS s T kids j ++ (if j = 0 then byS 40 else byS 44)) ++ T.getD (kids.getD j default).toNat default
def textD (l : List Nd) (T : List ByteArray) (kids : List Int) (p : Nat) (k : Int) (s : ByteArray) (n : Int) : ByteArray :=
  if k = 0 then byS 48 else if k = 1 then byS 49
  else if k = 3 then (if 0 < p then conS s T kids p ++ byS 41 else conS s T kids p)
  else if k = 4 then (sideD l T (kids.getD 0 default) 4 true ++ byS 124) ++ sideD l T (kids.getD 1 default) 4 false
  else if k = 5 then (sideD l T (kids.getD 0 default) 5 true ++ byS 38) ++ sideD l T (kids.getD 1 default) 5 false
  else if k = 6 then (((((s ++ byS 126) ++ figS n) ++ byS 40) ++ T.getD (kids.getD 0 default).toNat default) ++ byS 41)
  else s
def textsD (l : List Nd) (S : List Int) : Nat → List ByteArray
  | 0 => []
  | i + 1 => textsD l S i ++ [textD l (textsD l S i) (kidsD S i (pD l i).toNat) (pD l i).toNat (ndK (l.getD i default)) (ndS (l.getD i default)) (ndN (l.getD i default))]
theorem textsD_len (l : List Nd) (S : List Int) : ∀ i, (textsD l S i).length = i
  | 0 => rfl
  | i + 1 => by rw [textsD, List.length_append, textsD_len l S i]; rfl
theorem textsD_get (l : List Nd) (S : List Int) {j n : Nat} (h : j < n) : (textsD l S n).getD j default = (textsD l S (j + 1)).getD j default := by
  induction n with
  | zero => omega
  | succ n ih =>
    rcases Nat.lt_or_ge j n with h1 | h1
    · rw [← ih h1, textsD]
      simp only [List.getD_eq_getElem?_getD]
      rw [List.getElem?_append_left (by rw [textsD_len]; exact h1)]
    · obtain rfl : j = n := by omega
      rfl
theorem textsD_last (l : List Nd) (S : List Int) (i : Nat) : (textsD l S (i + 1)).getD i default = textD l (textsD l S i) (kidsD S i (pD l i).toNat) (pD l i).toNat (ndK (l.getD i default)) (ndS (l.getD i default)) (ndN (l.getD i default)) := by
  have := textsD_len l S i
  rw [textsD]
  simp only [List.getD_eq_getElem?_getD]
  rw [List.getElem?_append_right (by omega), this]
  simp
/-- Sums over places. -/
def sumN (f : Nat → Nat) : Nat → Nat
  | 0 => 0
  | n + 1 => sumN f n + f n
theorem sumN_congr {f g : Nat → Nat} : ∀ {n : Nat}, (∀ i, i < n → f i = g i) → sumN f n = sumN g n
  | 0, _ => rfl
  | n + 1, h => by rw [sumN, sumN, sumN_congr fun i hi => h i (by omega), h n (by omega)]
theorem sumN_add (f : Nat → Nat) (m : Nat) : ∀ n, sumN f (m + n) = sumN f m + sumN (fun i => f (m + i)) n
  | 0 => rfl
  | n + 1 => by rw [← Nat.add_assoc, sumN, sumN, sumN_add f m n]; omega
theorem sumN_head (f : Nat → Nat) (n : Nat) : sumN f (n + 1) = f 0 + sumN (fun i => f (i + 1)) n := by
  induction n with
  | zero => simp [sumN]
  | succ n ih => rw [sumN, ih, sumN]; omega
theorem sumN_rev (f : Nat → Nat) : ∀ n, sumN (fun i => f (n - 1 - i)) n = sumN f n
  | 0 => rfl
  | n + 1 => by
    rw [sumN_head, sumN, show n + 1 - 1 - 0 = n by omega, sumN_congr (g := fun i => f (n - 1 - i)) (fun i hi => by rw [show n + 1 - 1 - (i + 1) = n - 1 - i by omega]), sumN_rev f n]
    omega
theorem conS_size (s : ByteArray) (T : List ByteArray) (kids : List Int) : ∀ j, (conS s T kids j).size = s.size + j + sumN (fun q => (T.getD (kids.getD q default).toNat default).size) j
  | 0 => rfl
  | j + 1 => by
    rw [conS, ByteArray.size_append, ByteArray.size_append, conS_size s T kids j, sumN]
    have : (if j = 0 then byS 40 else byS 44).size = 1 := by split <;> rfl
    omega
theorem sideD_size (l : List Nd) (T : List ByteArray) (c k : Int) (b : Bool) : (sideD l T c k b).size ≤ (T.getD c.toNat default).size + 2 := by
  unfold sideD
  split
  · rw [ByteArray.size_append, ByteArray.size_append]
    have h1 : (byS 40).size = 1 := rfl
    have h2 : (byS 41).size = 1 := rfl
    omega
  · omega
theorem textD_size (l : List Nd) (T : List ByteArray) (kids : List Int) (p : Nat) (k : Int) (s : ByteArray) (n : Int) (h4 : k = 4 ∨ k = 5 → p = 2) (h6 : k = 6 → p = 1) :
    (textD l T kids p k s n).size ≤ s.size + (p + 10) + sumN (fun q => (T.getD (kids.getD q default).toNat default).size) p := by
  have b1 : ∀ q, (byS q).size = 1 := fun _ => rfl
  unfold textD
  split
  · rw [b1]; omega
  split
  · rw [b1]; omega
  split
  · split
    · rw [ByteArray.size_append, conS_size, b1]; omega
    · rw [conS_size]; omega
  split
  · obtain rfl := h4 (by omega)
    have h1 := sideD_size l T (kids.getD 0 default) 4 true
    have h2 := sideD_size l T (kids.getD 1 default) 4 false
    rw [ByteArray.size_append, ByteArray.size_append, b1]
    simp only [sumN]
    omega
  split
  · obtain rfl := h4 (by omega)
    have h1 := sideD_size l T (kids.getD 0 default) 5 true
    have h2 := sideD_size l T (kids.getD 1 default) 5 false
    rw [ByteArray.size_append, ByteArray.size_append, b1]
    simp only [sumN]
    omega
  split
  · obtain rfl := h6 (by omega)
    have h3 : (figS n).size = 1 := rfl
    simp only [ByteArray.size_append, b1, h3, sumN]
    omega
  · omega
/-- What the document lets be. -/
def okD (l : List Nd) (i : Nat) : Bool := mayD (ndK (l.getD i default)) (ndS (l.getD i default)) (ndN (l.getD i default)) && decide (pD l i ≤ manyD l i)
theorem mayD_parts {k n : Int} {s : ByteArray} (h : mayD k s n = true) : (0 ≤ k ∧ k ≤ 6) ∧ (0 ≤ partsM k n ∧ partsM k n ≤ 8) ∧ (k = 0 ∨ k = 1 ∨ k = 2 → n = 0) ∧ (k = 4 ∨ k = 5 → n = 2) ∧ (k = 3 → 0 ≤ n ∧ n ≤ 8) ∧ (k = 6 → 1 ≤ n ∧ n ≤ 8) := by
  unfold mayD at h
  unfold partsM
  split at h
  · simp only [Bool.and_eq_true, decide_eq_true_eq] at h; split <;> omega
  split at h
  · simp only [Bool.and_eq_true, decide_eq_true_eq] at h; split <;> omega
  split at h
  · simp only [Bool.and_eq_true, decide_eq_true_eq] at h; split <;> omega
  split at h
  · simp only [Bool.and_eq_true, decide_eq_true_eq] at h; split <;> omega
  split at h
  · simp only [Bool.and_eq_true, decide_eq_true_eq] at h; split <;> omega
  · cases h
def goodD (l : List Nd) : Prop := ∀ i, i < l.length → okD l i = true
theorem goodD.may {l : List Nd} (h : goodD l) {i : Nat} (hi : i < l.length) : mayD (ndK (l.getD i default)) (ndS (l.getD i default)) (ndN (l.getD i default)) = true := by
  have := h i hi
  unfold okD at this
  simp only [Bool.and_eq_true, decide_eq_true_eq] at this
  exact this.1
theorem goodD.shape {l : List Nd} (h : goodD l) : shapeD l l.length := fun i hi => by
  have := h i hi
  unfold okD at this
  simp only [Bool.and_eq_true, decide_eq_true_eq] at this
  exact ⟨(mayD_parts this.1).2.1.1, this.2⟩
theorem goodD.parts {l : List Nd} (h : goodD l) {i : Nat} (hi : i < l.length) : 0 ≤ pD l i ∧ pD l i ≤ 8 := (mayD_parts (h.may hi)).2.1
/-- What all whole expressions ahead have for texts. -/
def totD (l : List Nd) (S : List Int) (n i : Nat) : Nat := sumN (fun k => ((textsD l S n).getD (backD S i k - 1).toNat default).size) (manyD l i).toNat
theorem totD_le {l : List Nd} (h : goodD l) : ∀ i, i ≤ l.length → totD l (stD l l.length) l.length i ≤ wtD (l.take i) + 18 * i
  | 0, _ => by simp [totD, manyD, sumN]
  | i + 1, hi => by
    have ih := totD_le h i (by omega)
    have hp := h.parts (show i < l.length by omega)
    have hm := h.may (show i < l.length by omega)
    have hsh := h.shape i (by omega)
    have hw := wayD_in h.shape (show i ≤ l.length by omega)
    have hw0 := wayD (h.shape.mono (show i ≤ l.length by omega))
    have hq := mayD_parts hm
    have hws := wtD_succ l i (by omega)
    obtain ⟨p, hpp⟩ : ∃ p : Nat, pD l i = p := ⟨(pD l i).toNat, by omega⟩
    obtain ⟨m, hmm⟩ : ∃ m : Nat, manyD l i = p + m := ⟨(manyD l i - p).toNat, by omega⟩
    have hm1 : manyD l (i + 1) = m + 1 := by simp only [manyD]; omega
    unfold totD at ih ⊢
    rw [hmm, show ((p : Int) + m).toNat = p + m by omega, sumN_add] at ih
    rw [hm1, show ((m : Int) + 1).toNat = m + 1 by omega, sumN_head]
    have hshift : ∀ k : Nat, k < m → backD (stD l l.length) (i + 1 : Nat) (k + 1) = backD (stD l l.length) i (p + k) := fun k hk => by
      have e1 := backD_in h.shape (show i + 1 ≤ l.length from hi) (k + 1) (by rw [hm1]; omega)
      have e2 := backD_in h.shape (show i ≤ l.length by omega) (p + k) (by rw [hmm]; omega)
      have e3 := backD_shift l i (by omega) hw0 k (by rw [hmm, hpp]; omega)
      rw [e1, e2, e3, hpp, Int.toNat_natCast]
    rw [sumN_congr (f := fun i_1 => ((textsD l (stD l l.length) l.length).getD (backD (stD l l.length) (i + 1 : Nat) (i_1 + 1) - 1).toNat default).size) (g := fun i_1 => ((textsD l (stD l l.length) l.length).getD (backD (stD l l.length) i (p + i_1) - 1).toNat default).size) (fun k hk => by rw [hshift k hk])]
    have hfirst : ((textsD l (stD l l.length) l.length).getD (backD (stD l l.length) (i + 1 : Nat) 0 - 1).toNat default).size ≤ (ndS (l.getD i default)).size + (p + 10) + sumN (fun k => ((textsD l (stD l l.length) l.length).getD (backD (stD l l.length) i k - 1).toNat default).size) p := by
      rw [show (backD (stD l l.length) (i + 1 : Nat) 0 - 1).toNat = i by simp only [backD]; omega, textsD_get l _ (show i < l.length by omega), textsD_last, hpp, Int.toNat_natCast]
      have hsz := textD_size l (textsD l (stD l l.length) i) (kidsD (stD l l.length) i p) p (ndK (l.getD i default)) (ndS (l.getD i default)) (ndN (l.getD i default)) (fun hk => by
        have := hq.2.2.2.1 hk
        have e : pD l i = partsM (ndK (l.getD i default)) (ndN (l.getD i default)) := rfl
        unfold partsM at e
        split at e <;> omega) (fun hk => by
        have e : pD l i = partsM (ndK (l.getD i default)) (ndN (l.getD i default)) := rfl
        unfold partsM at e
        rw [if_pos hk] at e
        omega)
      refine Nat.le_trans hsz (Nat.add_le_add_left (Nat.le_of_eq ?_) _)
      rw [← sumN_rev (fun k => ((textsD l (stD l l.length) l.length).getD (backD (stD l l.length) i k - 1).toNat default).size)]
      refine sumN_congr fun q hq => ?_
      rw [kidsD_get _ _ _ _ hq]
      have h1 := hw.pos (p - 1 - q) (by rw [hmm]; omega)
      have h2 := hw.hi (p - 1 - q) (by rw [hmm]; omega)
      show ((textsD l (stD l l.length) i).getD (backD (stD l l.length) i (p - 1 - q) - 1).toNat default).size = _
      rw [textsD_get l _ (show (backD (stD l l.length) i (p - 1 - q) - 1).toNat < i by omega), textsD_get l _ (show (backD (stD l l.length) i (p - 1 - q) - 1).toNat < l.length by omega)]
    omega
/-- No text of few nodes is long. -/
theorem textsD_size {l : List Nd} (h : goodD l) (hf : wtD l ≤ 600) (i : Nat) (hi : i < l.length) : ((textsD l (stD l l.length) l.length).getD i default).size ≤ 30000 := by
  have ht := totD_le h (i + 1) (by omega)
  have hw := wtD_le l (i + 1)
  have hwl := wtD_len l
  have hsh := h.shape i (by omega)
  unfold totD at ht
  have hm1 : manyD l (i + 1) = (manyD l i - pD l i).toNat + 1 := by simp only [manyD]; omega
  rw [hm1, show (((manyD l i - pD l i).toNat : Int) + 1).toNat = (manyD l i - pD l i).toNat + 1 by omega, sumN_head, show (backD (stD l l.length) (i + 1 : Nat) 0 - 1).toNat = i by simp only [backD]; omega] at ht
  omega
end Go.Proofs.Ytgemcogfpkolfaa.Aw

/- The abstract walk, part 41: a literal slice of one number as a row of the call's own; a variable's cells told in other words in the midst of a region. -/
set_option linter.unusedVariables false
set_option linter.unusedSimpArgs false
namespace Go.Proofs.Ytgemcogfpkolfaa.Aw
open Go Go.RowKit
theorem AOL.recell {r : Option Nat} {P : Program} {ops : Array Oper} {l : List Nat} {s : St} {Q : St → Prop} (i : Nat) {m : Bool} {t : TypeId} {cs : List AV} (cs' : List AV) (hi : s.st[i]? = some (.var m t cs)) (hc : CLes s.st cs cs') (h : AOL r P ops l ⟨s.nt, s.env, s.st.set i (.var m t cs')⟩ Q) : AOL r P ops l s Q := fun G g w a QQ hr k => by
  obtain ⟨hev, hsr⟩ := hr.sr.recell i hi hc
  exact h G g w a QQ ⟨fun t => (hr.slots t).evo hev, hr.size, hsr⟩ fun s' g' w' a' q hr' he hd hf => k s' g' w' a' q hr' (hev.trans he) hd hf
theorem CLe.int {s : List AObj} {k : IntKind} {a b : Int} (e : a = b) : CLe s (.ic (.lit (.int k a))) (.ic (.lit (.int k b))) := e ▸ .refl _
theorem CLe.str {s : List AObj} {a b : ByteArray} (e : a = b) : CLe s (.ic (.lit (.string a))) (.ic (.lit (.string b))) := e ▸ .refl _
/-- Code behind other code, from a state that the first leaves on all its ways. -/
theorem AWp.cut {r : Option Nat} {P : Program} {s : St} {Q : Exit → St → Prop} {x y : Code} (up : List (Nat × AV)) (st' : List AObj) {keep : List (Nat × AV)} (hk : keepOf (wr x 0) s.env = keep) (h : AWp r P x s (Thn (fun s' => s'.nt = s.nt ∧ s'.st = st' ∧ subE s' up ∧ subE s' keep) Q)) (k : AWp r P y ⟨s.nt, up ++ keep, st'⟩ Q) : AWp r P (.seq x y) s Q := by
  refine AWp.seq (h.mono fun e s' hq => ?_)
  cases e with
  | normal =>
    obtain ⟨h1, h2, h3, h4⟩ := hq
    exact AWp.sub (Sub.of h1 h2 (subE_append h3 h4)) k
  | _ => exact hq
/-- A text's bytes from one place up to another. -/
def cutS (b : ByteArray) (l n : Int) : ByteArray := b.extract l.toNat n.toNat
theorem cutS_size (b : ByteArray) (l n : Int) (h0 : 0 ≤ l) (h1 : l ≤ n) (h2 : n ≤ (b.size : Int)) : ((cutS b l n).size : Int) = n - l := by
  unfold cutS; rw [ByteArray.size_extract]; omega
theorem cutS_get (b : ByteArray) (l n i : Int) (h0 : 0 ≤ l) (h2 : n ≤ (b.size : Int)) (h3 : 0 ≤ i) (h4 : i < n - l) : sb (cutS b l n) i = sb b (l + i) := by
  unfold sb cutS
  rw [ByteArray.data_extract, Array.toList_extract]
  simp only [List.getD_eq_getElem?_getD, List.extract_eq_take_drop, List.getElem?_take, List.getElem?_drop]
  rw [if_pos (by omega), show l.toNat + i.toNat = (l + i).toNat by omega]
section strcut
variable {r : Option Nat} {P : Program} {ops : Array Oper} {i : Nat} {s : St} {tab : List TI} {A : Ar}
theorem One.strcut_lhM (hA : A = real) (hT : TabOk P tab) {t : TypeId} {j : TI} {x y z : Operand} {b : ByteArray} {k k' : IntKind} {l n : Int} (h : opAt ops i s = some (.slice t x (some y) (some z) none)) (ht : tiAt tab t = some j) (hk : j.k = .string) (hx : s.ev x = .ic (.lit (.string b))) (hy : s.ev y = .ic (.lit (.int k l))) (hz : s.ev z = .ic (.lit (.int k' n)))
    (h0 : 0 ≤ l) (h1 : l ≤ n) (h2 : n ≤ (b.size : Int)) : One r P ops i s (.ic (.lit (.string (hid A (cutS b l n))))) s.st := by
  rw [hid_eq hA]
  obtain ⟨rfl, h3⟩ := tiAt_ok hT ht
  exact .does h rfl fun o hop => (does_strcut t x b (some y) (some z) l.toNat n.toNat hk hx (by omega) (by omega) ⟨k, by rw [Int.toNat_of_nonneg h0]; exact hy⟩ ⟨k', by rw [Int.toNat_of_nonneg (by omega)]; exact hz⟩).congr fun ρ => by simp only [execOp, hop]
end strcut
end Go.Proofs.Ytgemcogfpkolfaa.Aw

/- Nodes of expressions: contracts of the document's answer of layer 7, part 3: texts. -/
set_option linter.unusedVariables false
set_option linter.unusedSimpArgs false
set_option linter.unusedSectionVars false
namespace Go.Proofs.Ytgemcogfpkolfaa.Aw
open Go Go.RowKit
set_option maxRecDepth 10000
attribute [local irreducible] AWp AOL QS One AOLg QSg NX QX TRg TX AllO Fin3
theorem cN_toNat (j : Nat) : (cN j).toNat = j := by unfold cN; omega
theorem sz1 (b : UInt8) : ({ data := #[b] } : ByteArray).size = 1 := rfl
variable {A : Ar} (hA : A = real)
include hA
theorem rowU {x n : Int} (h : x = n) : [[IC.lit (Value.int .u8 x)]] = hid A (List.map encU [n]) := by rw [hid_eq hA, h]; rfl
theorem figure_c (n : Int) (h : 1 ≤ n ∧ n ≤ 8) : ∀ z, z = n → PureCalls Try.prog 48 [IP z] (SP (hid A (figS n))) := by
  intro z hz
  refine PureCalls.of Try.func48 rfl (by kernel_rfl) rfl ?_
  try first | refine AOLg.of [] ?_ | refine QSg.of [] ?_
  repeat' (first
    | (refine AWp.pass ?_; first
        | refine AWp.seq ?_
        | refine AWp.block ?_
        | refine AWp.skip ?_
        | refine AWp.regG [] (by conv => lhs; cbv) ?_
        | refine AWp.cond_t rfl ?_
        | refine AWp.cond_f rfl ?_
        | (refine AWp.cond rfl ?_ ?_ <;> intro hc <;> (try rw [hc]) <;> ((try simp only [zn] at hc) <;> (try simp (disch := omega) only [zz hA, zb, zy, reduceCtorEq, Bool.false_eq_true, Int.reduceLT, Int.reduceLE, Int.reduceNeg] at hc) <;> (try simp only [zw] at hc)) <;> (try (exfalso; omega)))
        | refine AWp.exit ?_
        | refine AWp.ret ⟨.inr rfl, _, RetOk.ev tabOk (by conv => lhs; cbv), ?_⟩)
    | (refine AOLg.pass ?_; refine AOLg.nx hA tabOk (by conv => lhs; cbv) ?_; first
        | refine NX.done ?_
        | refine NX.gt ?_
        | refine NX.gf ?_
        | (refine NX.gs ?_ ?_ <;> intro hc <;> rw [hc] <;> ((try simp only [zn] at hc) <;> (try simp (disch := omega) only [zz hA, zb, zy, reduceCtorEq, Bool.false_eq_true, Int.reduceLT, Int.reduceLE, Int.reduceNeg] at hc) <;> (try simp only [zw] at hc)) <;> (try (exfalso; omega)))
        | ((first | (refine NX.k 7 ?_; first | refine NX.one (One.concatM hA rfl rfl rfl ?_) ?_) | (refine NX.k 17 ?_; first | refine NX.one (One.build0 tabOk rfl rfl) ?_)) <;> (first | refine AOLg.pass ?_ | (((try simp only [zn]) <;> (try simp (disch := omega) only [zz hA, zb, zy, reduceCtorEq, Bool.false_eq_true, Int.reduceLT, Int.reduceLE, Int.reduceNeg]) <;> (try simp only [zw])) <;> omega)))
        | (refine NX.one (One.bytesM (l := [48 + n]) hA tabOk rfl rfl rfl rfl rfl rfl (rowU hA (by (((try simp only [zn]) <;> (try simp (disch := omega) only [zz hA, zb, zy, reduceCtorEq, Bool.false_eq_true, Int.reduceLT, Int.reduceLE, Int.reduceNeg]) <;> (try simp only [zw])) <;> omega)))) ?_)
        | refine NX.raw ?_)
    | refine Thn.exit ?_
    | refine Blk.here ?_
    | refine Blk.other (by decide) ?_
    | refine ⟨.inl rfl, _, RetOk.ev tabOk (by conv => lhs; cbv), ?_⟩
    | fail)
  refine rPV_then (by conv => lhs; cbv) ?_
  rfl
theorem side7_c (l : List Nd) (T : List ByteArray) (c : Nat) (k : Int) (b : Bool) (hc : c < l.length) (hT : c < T.length) (hs : (T.getD c default).size ≤ 1000000) : ∀ z : Int, z = c → PureCalls Try.prog 47 [slP A 3 (encD A) l, slP A 1 encS T, IP z, IP k, BP b] (SP (hid A (sideD l T c k b))) := by
  intro z hz
  have hzn : z.toNat = c := by omega
  have hs2 : (T.getD z.toNat default).size ≤ 1000000 := by rw [hzn]; exact hs
  refine PureCalls.of Try.func47 rfl (by kernel_rfl) rfl ?_
  cases b <;> (
    try first | refine AOLg.of [] ?_ | refine QSg.of [] ?_
    repeat' (first
      | (refine AWp.pass ?_; first
          | refine AWp.seq ?_
          | refine AWp.block ?_
          | refine AWp.skip ?_
          | refine AWp.regG [] (by conv => lhs; cbv) ?_
          | refine AWp.cond_t rfl ?_
          | refine AWp.cond_f rfl ?_
          | (refine AWp.cond rfl ?_ ?_ <;> intro hc <;> (try rw [hc]) <;> ((try simp only [zn] at hc) <;> (try simp (disch := omega) only [zz hA, zb, zy, reduceCtorEq, Bool.false_eq_true, Int.reduceLT, Int.reduceLE, Int.reduceNeg] at hc) <;> (try simp only [zw] at hc)) <;> (try (exfalso; omega)))
          | refine AWp.exit ?_
          | refine AWp.ret ⟨.inr rfl, _, RetOk.ev tabOk (by conv => lhs; cbv), ?_⟩)
      | (refine AOLg.pass ?_; refine AOLg.nx hA tabOk (by conv => lhs; cbv) ?_; first
          | refine NX.done ?_
          | refine NX.gt ?_
          | refine NX.gf ?_
          | (refine NX.gs ?_ ?_ <;> intro hc <;> rw [hc] <;> ((try simp only [zn] at hc) <;> (try simp (disch := omega) only [zz hA, zb, zy, reduceCtorEq, Bool.false_eq_true, Int.reduceLT, Int.reduceLE, Int.reduceNeg] at hc) <;> (try simp only [zw] at hc)) <;> (try (exfalso; omega)))
          | ((first | (refine NX.k 1 ?_; first | refine NX.one (One.elemM hA tabOk rfl rfl rfl rfl ?_ ?_) ?_ | refine NX.one (One.elemOwnM hA tabOk rfl rfl rfl rfl rfl ?_ ?_) ?_) | (refine NX.k 7 ?_; first | refine NX.one (One.concatM hA rfl rfl rfl ?_) ?_) | (refine NX.k 8 ?_; first | refine NX.one (One.eqBoolM hA tabOk rfl rfl rfl rfl rfl) ?_) | (refine NX.k 9 ?_; first | refine NX.one (One.neBoolM hA tabOk rfl rfl rfl rfl rfl) ?_) | (refine NX.k 14 ?_; first | refine NX.one (One.loadRatM hA tabOk rfl rfl rfl rfl rfl rfl ?_) ?_) | (refine NX.k 18 ?_; first | refine NX.one (One.fieldRat tabOk rfl rfl rfl rfl (by decide) rfl rfl) ?_)) <;> (first | refine AOLg.pass ?_ | (((try simp only [zn]) <;> (try simp (disch := omega) only [zz hA, zb, zy, reduceCtorEq, Bool.false_eq_true, Int.reduceLT, Int.reduceLE, Int.reduceNeg]) <;> (try simp only [zw])) <;> omega)))
          | (refine NX.one (One.concatM hA rfl rfl rfl (by simp only [hid_eq hA, ByteArray.size_append, sz1]; omega)) ?_)
          | refine NX.raw ?_)
      | refine Thn.exit ?_
      | refine Blk.here ?_
      | refine Blk.other (by decide) ?_
      | refine ⟨.inl rfl, _, RetOk.ev tabOk (by conv => lhs; cbv), ?_⟩
      | fail)
    all_goals
      refine rPV_then (by conv => lhs; cbv) ?_
      simp_all [real, hid, sideD, byS])
end Go.Proofs.Ytgemcogfpkolfaa.Aw
