/- Texts of the proof, put together: the abstract walk, contracts of the functions that the statement reaches, plain laws, part 3 of 5. -/
import Derived.Test.YtkkjlmcnfoncdaaCCb
import Derived.Laws.BytesString
import Derived.ChangeShapes
import Derived.WideShapes
set_option linter.unusedVariables false
set_option linter.unusedSimpArgs false
set_option linter.unusedSectionVars false
namespace Go.Proofs.Ytkkjlmcnfoncdaa.Aw
open Go Go.RowKit
inductive Ah (ops : Array Oper) : Nat → Nat → Prop where
  | on {i : Nat} {o : Oper} {e : Edge} (ho : ops[i]? = some o) (he : e ∈ o.after) (hb : bindsE e = true) : Ah ops i e.on
  | tr {i : Nat} {o : Oper} {e : Edge} {j : Nat} (ho : ops[i]? = some o) (he : e ∈ o.after) (hb : bindsE e = true) (h : Ah ops e.on j) : Ah ops i j
theorem Ah.listed {ops : Array Oper} {listed : Array Bool} (hc : Closed ops listed) {i j : Nat} (h : Ah ops i j) : (∀ o, ops[i]? = some o → ∀ e ∈ o.after, bindsE e = true → listed.getD e.on false = true) → listed.getD j false = true := by
  induction h with
  | on ho he hb => intro k; exact k _ ho _ he hb
  | tr ho he hb h ih => intro k; exact ih fun o' ho' e' he' hb' => hc _ o' (k _ ho _ he hb) ho' e' he' hb'
theorem Ah.of_listed {ops : Array Oper} {listed : Array Bool} (hc : Closed ops listed) {i j : Nat} (h : Ah ops i j) (hi : listed.getD i false = true) : listed.getD j false = true := h.listed hc fun o ho e he hb => hc i o hi ho e he hb
def maskOf (acc : List Nat) : List Edge → Nat
  | [] => 0
  | e :: r => match bindsE e with
    | true => (2 ^ e.on ||| acc.getD e.on 0) ||| maskOf acc r
    | false => maskOf acc r
def masks : List Oper → List Nat → List Nat
  | [], acc => acc
  | o :: r, acc => masks r (acc ++ [maskOf acc o.after.toList])
theorem maskOf_ok {acc : List Nat} {j : Nat} : ∀ {l : List Edge}, (maskOf acc l).testBit j = true → ∃ e ∈ l, bindsE e = true ∧ (e.on = j ∨ (acc.getD e.on 0).testBit j = true)
  | [], h => by simp [maskOf] at h
  | e :: r, h => by
    simp only [maskOf] at h
    split at h
    · rename_i hb
      simp only [Nat.testBit_or, Bool.or_eq_true] at h
      rcases h with (h | h) | h
      · refine ⟨e, List.mem_cons_self, hb, .inl ?_⟩
        rw [Nat.testBit_two_pow] at h
        simpa using h
      · exact ⟨e, List.mem_cons_self, hb, .inr h⟩
      · obtain ⟨e', h1, h2, h3⟩ := maskOf_ok h
        exact ⟨e', List.mem_cons_of_mem _ h1, h2, h3⟩
    · obtain ⟨e', h1, h2, h3⟩ := maskOf_ok h
      exact ⟨e', List.mem_cons_of_mem _ h1, h2, h3⟩
theorem masks_ok {ops : Array Oper} : ∀ (l : List Oper) (acc : List Nat), (∀ k o, l[k]? = some o → ops[acc.length + k]? = some o) → (∀ i j, (acc.getD i 0).testBit j = true → Ah ops i j) → ∀ i j, ((masks l acc).getD i 0).testBit j = true → Ah ops i j
  | [], acc, _, h => h
  | o :: r, acc, hl, h => by
    refine masks_ok r _ (fun k o' hk => ?_) fun i j hij => ?_
    · have := hl (k + 1) o' (by simpa using hk)
      rw [List.length_append, List.length_cons, List.length_nil]
      rw [← this]; congr 1; omega
    · rcases Nat.lt_trichotomy i acc.length with hi | hi | hi
      · rw [List.getD_eq_getElem?_getD, List.getElem?_append_left hi, ← List.getD_eq_getElem?_getD] at hij
        exact h i j hij
      · subst hi
        rw [List.getD_eq_getElem?_getD, List.getElem?_append_right (Nat.le_refl _)] at hij
        simp only [Nat.sub_self, List.getElem?_cons_zero, Option.getD_some] at hij
        obtain ⟨e, he, hb, hj⟩ := maskOf_ok hij
        have ho := hl 0 o rfl
        rw [Nat.add_zero] at ho
        rcases hj with hj | hj
        · subst hj; exact .on ho (by simpa using he) hb
        · exact .tr ho (by simpa using he) hb (h _ _ hj)
      · rw [List.getD_eq_getElem?_getD, List.getElem?_eq_none (by simp; omega)] at hij
        simp at hij
def chOp : Op → Bool
  | .alloc _ => true
  | .box _ _ => true
  | .store _ _ _ => true
  | .makeSlice _ _ _ => true
  | _ => false
def chAt (ops : Array Oper) (i : Nat) : Bool := match ops[i]? with
  | some o => chOp o.op
  | none => false
def chs (ops : Array Oper) : List Nat := (List.range ops.size).filter (chAt ops)
def ahM (ms : List Nat) (i j : Nat) : Bool := (ms.getD i 0).testBit j
def drawVB (ops : Array Oper) : Bool :=
  let ms := masks ops.toList []
  let cs := chs ops
  ops.toList.all (fun o => notDefer o.op) &&
  (List.range ops.size).all (fun i => match ops[i]? with
    | some o => o.after.toList.all (fun e => !bindsE e || Nat.blt e.on i) &&
      (match o.dst with | some d => (List.range ops.size).all (fun j => Nat.beq i j || !(dstOf ops j == some d)) | none => chOp o.op) &&
      (o.looksAt ops).all (fun t => (List.range ops.size).all (fun j => !(dstOf ops j == some t) || (Nat.blt j i && ahM ms i j) || (Nat.blt i j && ahM ms j i)))
    | none => false) &&
  cs.all (fun c => cs.all (fun d => !Nat.blt d c || ahM ms c d))
structure TRec where
  i : Nat
  s : St
  x : AV
  st : List AObj
def TR (r : Option Nat) (P : Program) (ops : Array Oper) : List Nat → St → List TRec → (St → List TRec → Prop) → Prop
  | [], s, rc, Q => Q s rc
  | i :: rest, s, rc, Q => ∃ x st', One r P ops i (lookS ops i s) x st' ∧ TR r P ops rest (putS s (dstOf ops i) x st') (rc ++ [⟨i, s, x, st'⟩]) Q
def vers (ops : Array Oper) (s0 : List AObj) : List TRec → List (List AObj)
  | [] => [s0]
  | t :: r => match chAt ops t.i with
    | true => s0 :: vers ops t.st r
    | false => vers ops s0 r
def okV (ms cs : List Nat) (i m : Nat) : Bool := (List.range cs.length).all fun j => match cs[j]? with
  | some c => (!ahM ms i c || Nat.blt j m) && (!ahM ms c i || Nat.ble m j)
  | none => true
def later (ops : Array Oper) (ms cs : List Nat) (S : List (List AObj)) (t : TRec) (m : Nat) : List (Nat × St × AV) := match okV ms cs t.i m && !Nat.beq m (cs.filter (fun c => Nat.blt c t.i)).length with
  | true => match S[m]? with
    | some st => [(t.i, lookS ops t.i ⟨t.s.nt, t.s.env, st⟩, t.x)]
    | none => []
  | false => []
def obl (ops : Array Oper) (ms cs : List Nat) (S : List (List AObj)) : List TRec → List (Nat × St × AV)
  | [] => []
  | t :: r => match chAt ops t.i with
    | true => obl ops ms cs S r
    | false => (List.range (cs.length + 1)).flatMap (later ops ms cs S t) ++ obl ops ms cs S r
def AllO (r : Option Nat) (P : Program) (ops : Array Oper) : List (Nat × St × AV) → Prop
  | [] => True
  | p :: l => One r P ops p.1 p.2.1 p.2.2 p.2.1.st ∧ AllO r P ops l
def SameQ (ops : Array Oper) : List TRec → Prop
  | [] => True
  | t :: r => (match chAt ops t.i with | true => True | false => t.st = t.s.st) ∧ SameQ ops r
theorem AllO_mem {r : Option Nat} {P : Program} {ops : Array Oper} : ∀ {l : List (Nat × St × AV)}, AllO r P ops l → ∀ p ∈ l, One r P ops p.1 p.2.1 p.2.2 p.2.1.st
  | [], _, p, hp => by simp at hp
  | q :: l, h, p, hp => by
    rcases List.mem_cons.1 hp with rfl | hp
    · exact h.1
    · exact AllO_mem h.2 p hp
theorem SameQ_mem {ops : Array Oper} : ∀ {l : List TRec}, SameQ ops l → ∀ t ∈ l, chAt ops t.i = false → t.st = t.s.st
  | [], _, t, ht, _ => by simp at ht
  | q :: l, h, t, ht, hc => by
    rcases List.mem_cons.1 ht with rfl | ht
    · have := h.1; rw [hc] at this; exact this
    · exact SameQ_mem h.2 t ht hc
theorem TR.collect {r : Option Nat} {P : Program} {ops : Array Oper} {Q : St → List TRec → Prop} : ∀ (n k : Nat) (s : St) (rc : List TRec), TR r P ops ((List.range n).map (k + ·)) s rc Q →
    ∃ (se : Nat → St) (xs : Nat → AV), se k = s ∧ (∀ i, k ≤ i → i < k + n → One r P ops i (lookS ops i (se i)) (xs i) (se (i + 1)).st ∧ se (i + 1) = putS (se i) (dstOf ops i) (xs i) (se (i + 1)).st) ∧
      Q (se (k + n)) (rc ++ (List.range n).map fun j => ⟨k + j, se (k + j), xs (k + j), (se (k + j + 1)).st⟩)
  | 0, k, s, rc, h => ⟨fun _ => s, fun _ => .any, rfl, fun i h1 h2 => by omega, by simpa [TR] using h⟩
  | n + 1, k, s, rc, h => by
    rw [List.range_succ_eq_map, List.map_cons, List.map_map] at h
    simp only [TR, Nat.add_zero] at h
    obtain ⟨x, st', hone, hrest⟩ := h
    have e : (List.range n).map ((fun x => k + x) ∘ Nat.succ) = (List.range n).map (k + 1 + ·) := List.map_congr_left fun j _ => by simp; omega
    rw [e] at hrest
    obtain ⟨se, xs, h0, h1, h2⟩ := TR.collect n (k + 1) _ _ hrest
    have hst : (se (k + 1)).st = st' := by rw [h0, putS_st]
    refine ⟨fun i => if i = k then s else se i, fun i => if i = k then x else xs i, by simp, fun i hi1 hi2 => ?_, ?_⟩
    · by_cases hik : i = k
      · subst hik
        simp only [if_true, if_neg (show ¬ i + 1 = i by omega)]
        refine ⟨by rw [hst]; exact hone, by rw [hst]; exact h0⟩
      · simp only [if_neg hik, if_neg (show ¬ i + 1 = k by omega)]
        exact h1 i (by omega) (by omega)
    · simp only [if_neg (show ¬ k + (n + 1) = k by omega)]
      rw [show k + (n + 1) = k + 1 + n by omega]
      have : (List.range (n + 1)).map (fun j => (⟨k + j, if k + j = k then s else se (k + j), if k + j = k then x else xs (k + j), (if k + j + 1 = k then s else se (k + j + 1)).st⟩ : TRec)) =
          ⟨k, s, x, st'⟩ :: (List.range n).map fun j => ⟨k + 1 + j, se (k + 1 + j), xs (k + 1 + j), (se (k + 1 + j + 1)).st⟩ := by
        rw [List.range_succ_eq_map, List.map_cons, List.map_map]
        simp only [Nat.add_zero, if_true, if_neg (show ¬ k + 1 = k by omega), hst]
        congr 1
        refine List.map_congr_left fun j _ => ?_
        simp only [Function.comp, Nat.succ_eq_add_one, if_neg (show ¬ k + (j + 1) = k by omega), if_neg (show ¬ k + (j + 1) + 1 = k by omega)]
        rw [show k + (j + 1) = k + 1 + j by omega]
      rw [this, List.append_cons]
      exact h2
section cnt
variable (p : Nat → Bool)
def cnt (i : Nat) : Nat := ((List.range i).filter p).length
theorem cnt_succ (i : Nat) : cnt p (i + 1) = cnt p i + if p i then 1 else 0 := by
  unfold cnt
  rw [List.range_succ, List.filter_append, List.length_append]
  cases h : p i <;> simp [h]
theorem cnt_get {n i : Nat} (hi : i < n) (hp : p i = true) : ((List.range n).filter p)[cnt p i]? = some i := by
  induction n with
  | zero => omega
  | succ n ih =>
    rw [List.range_succ, List.filter_append]
    by_cases h : i < n
    · have := ih h
      rw [List.getElem?_append_left (List.getElem?_eq_some_iff.1 this).1]
      exact this
    · obtain rfl : i = n := by omega
      unfold cnt
      rw [List.getElem?_append_right (Nat.le_refl _)]
      simp [hp]
theorem cnt_lt {n i : Nat} : ∀ {j c : Nat}, ((List.range n).filter p)[j]? = some c → c < n ∧ p c = true ∧ j = cnt p c := by
  induction n with
  | zero => intro j c h; simp at h
  | succ n ih =>
    intro j c h
    rw [List.range_succ, List.filter_append] at h
    by_cases hj : j < ((List.range n).filter p).length
    · rw [List.getElem?_append_left hj] at h
      obtain ⟨h1, h2, h3⟩ := ih h
      exact ⟨by omega, h2, h3⟩
    · rw [List.getElem?_append_right (by omega)] at h
      cases hp : p n with
      | false => simp [hp] at h
      | true =>
        simp only [List.filter_cons, hp, if_true, List.filter_nil] at h
        have hlt := (List.getElem?_eq_some_iff.1 h).1
        simp only [List.length_cons, List.length_nil] at hlt
        have h0 : j - ((List.range n).filter p).length = 0 := by omega
        rw [h0] at h
        simp only [List.getElem?_cons_zero, Option.some.injEq] at h
        subst h
        exact ⟨by omega, hp, by unfold cnt; omega⟩
theorem cnt_below {n i : Nat} (hi : i ≤ n) : (((List.range n).filter p).filter (fun c => Nat.blt c i)).length = cnt p i := by
  induction n with
  | zero =>
    obtain rfl : i = 0 := by omega
    rfl
  | succ n ih =>
    by_cases h : i ≤ n
    · rw [List.range_succ, List.filter_append, List.filter_append, List.length_append, ih h]
      have : (List.filter (fun c => Nat.blt c i) (List.filter p [n])).length = 0 := by
        rw [List.length_eq_zero_iff, List.filter_eq_nil_iff]
        intro a ha
        have := (List.mem_filter.1 ha).1
        simp only [List.mem_singleton] at this
        subst this
        intro hb
        have := Nat.le_of_ble_eq_true hb
        omega
      omega
    · obtain rfl : i = n + 1 := by omega
      rw [List.filter_eq_self.2]
      · rfl
      · intro a ha
        have := (List.mem_filter.1 ha).1
        rw [List.mem_range] at this
        exact Nat.ble_eq_true_of_le this
theorem cnt_mono {i j : Nat} (h : i ≤ j) : cnt p i ≤ cnt p j := by
  induction j with
  | zero =>
    obtain rfl : i = 0 := by omega
    exact Nat.le_refl _
  | succ j ih =>
    by_cases e : i = j + 1
    · subst e; exact Nat.le_refl _
    · have := ih (by omega); rw [cnt_succ]; omega
theorem cnt_strict {i j : Nat} (h : i < j) (hp : p i = true) : cnt p i < cnt p j := by
  have h1 := cnt_mono p (show i + 1 ≤ j by omega)
  rw [cnt_succ, hp] at h1
  simp at h1
  omega
end cnt
theorem obl_mem {ops : Array Oper} {ms cs : List Nat} {S : List (List AObj)} {t : TRec} (hc : chAt ops t.i = false) {m : Nat} (hm : m ≤ cs.length) (hk : okV ms cs t.i m = true) (hne : m ≠ (cs.filter (fun c => Nat.blt c t.i)).length) {st : List AObj} (hS : S[m]? = some st) :
    ∀ {l : List TRec}, t ∈ l → (t.i, lookS ops t.i ⟨t.s.nt, t.s.env, st⟩, t.x) ∈ obl ops ms cs S l
  | [], h => by simp at h
  | q :: l, h => by
    have hb : Nat.beq m (cs.filter (fun c => Nat.blt c t.i)).length = false := by
      cases e : Nat.beq m (cs.filter (fun c => Nat.blt c t.i)).length with
      | false => rfl
      | true => exact absurd (Nat.eq_of_beq_eq_true e) hne
    rcases List.mem_cons.1 h with rfl | h
    · simp only [obl, hc]
      refine List.mem_append_left _ (List.mem_flatMap.2 ⟨m, List.mem_range.2 (by omega), ?_⟩)
      simp only [later, hk, hb, hS, Bool.not_false, Bool.and_self, List.mem_singleton]
    · have ih := obl_mem hc hm hk hne hS h
      simp only [obl]
      cases chAt ops q.i with
      | true => exact ih
      | false => exact List.mem_append_right _ ih
section main
variable {r : Option Nat} {P : Program} {ops : Array Oper}
structure TextV (ops : Array Oper) (ms : List Nat) : Prop where
  eqm : ms = masks ops.toList []
  nd : ops.toList.all (fun o => notDefer o.op) = true
  e : ∀ i o, ops[i]? = some o → ∀ e ∈ o.after, bindsE e = true → e.on < i
  d : ∀ i d, i < ops.size → dstOf ops i = some d → ∀ j, j < ops.size → dstOf ops j = some d → j = i
  l : ∀ i o, ops[i]? = some o → ∀ t ∈ o.looksAt ops, ∀ j, j < ops.size → dstOf ops j = some t → (j < i ∧ ahM ms i j = true) ∨ (i < j ∧ ahM ms j i = true)
  c : ∀ i j, i < ops.size → j < i → chAt ops i = true → chAt ops j = true → ahM ms i j = true
theorem ahM_ok {ms : List Nat} (h : ms = masks ops.toList []) {i j : Nat} (ha : ahM ms i j = true) : Ah ops i j := by
  subst h
  exact masks_ok ops.toList [] (fun k o hk => by simpa using hk) (fun i j hij => by simp at hij) i j ha
theorem textV (h : drawVB ops = true) : TextV ops (masks ops.toList []) := by
  simp only [drawVB, Bool.and_eq_true, List.all_eq_true, List.mem_range] at h
  obtain ⟨⟨h0, h1⟩, h2⟩ := h
  have get : ∀ i o, ops[i]? = some o → (∀ e ∈ o.after.toList, (!bindsE e || Nat.blt e.on i) = true) ∧ (match o.dst with | some d => (List.range ops.size).all (fun j => Nat.beq i j || !(dstOf ops j == some d)) | none => chOp o.op) = true ∧
      (o.looksAt ops).all (fun t => (List.range ops.size).all (fun j => !(dstOf ops j == some t) || (Nat.blt j i && ahM (masks ops.toList []) i j) || (Nat.blt i j && ahM (masks ops.toList []) j i))) = true := fun i o ho => by
    have := h1 i (Array.getElem?_eq_some_iff.1 ho).1
    simp only [ho, Bool.and_eq_true, List.all_eq_true] at this
    exact ⟨this.1.1, this.1.2, by rw [List.all_eq_true]; intro t ht; rw [List.all_eq_true]; exact this.2 t ht⟩
  refine ⟨rfl, List.all_eq_true.2 h0, fun i o ho e he hb => ?_, fun i d hi hd j hj hjd => ?_, fun i o ho t ht j hj hjt => ?_, fun i j hi hj hc hd => ?_⟩
  · have := (get i o ho).1 e (by simpa using he)
    rw [hb] at this
    simp only [Bool.not_true, Bool.false_or] at this
    exact Nat.le_of_ble_eq_true this
  · have ho := Array.getElem?_eq_getElem hi
    have := (get i _ ho).2.1
    simp only [dstOf, ho, Option.bind_some] at hd
    rw [hd] at this
    simp only [List.all_eq_true, List.mem_range] at this
    have := this j hj
    simp only [hjd, beq_self_eq_true, Bool.not_true, Bool.or_false] at this
    exact (Nat.eq_of_beq_eq_true this).symm
  · have := (get i o ho).2.2
    simp only [List.all_eq_true, List.mem_range] at this
    have := this t ht j hj
    simp only [hjt, beq_self_eq_true, Bool.not_true, Bool.false_or, Bool.or_eq_true, Bool.and_eq_true] at this
    rcases this with ⟨a, b⟩ | ⟨a, b⟩
    · exact .inl ⟨Nat.le_of_ble_eq_true a, b⟩
    · exact .inr ⟨Nat.le_of_ble_eq_true a, b⟩
  · have := h2 i (List.mem_filter.2 ⟨List.mem_range.2 hi, hc⟩) j (List.mem_filter.2 ⟨List.mem_range.2 (by omega), hd⟩)
    have hb : Nat.blt j i = true := Nat.ble_eq_true_of_le hj
    rw [hb] at this
    simpa using this
theorem drawV_any {G : Nat → Prop} {ms : List Nat} (hT : TextV ops ms) {s0 : St} {se : Nat → St} {xs : Nat → AV} {S : Nat → List AObj} {g0 : Ghost} {w0 : World} {a0 : Act} {QQ : Exit → Act → World → Prop} {Q : St → Prop}
    (hS : ∀ i, i ≤ ops.size → (se i).st = S (cnt (chAt ops) i))
    (D1 : ∀ i j t, i ≤ ops.size → j < i → dstOf ops j = some t → (se i).get t = xs j) (D2 : ∀ i t, i ≤ ops.size → (∀ j, j < i → dstOf ops j ≠ some t) → (se i).get t = s0.get t)
    (hone : ∀ i, i < ops.size → One r P ops i (lookS ops i ⟨s0.nt, (se i).env, S (cnt (chAt ops) i)⟩) (xs i) (S (cnt (chAt ops) (i + 1))))
    (hlat : ∀ i m, i < ops.size → chAt ops i = false → m ≤ cnt (chAt ops) ops.size → okV ms (chs ops) i m = true → One r P ops i (lookS ops i ⟨s0.nt, (se i).env, S m⟩) (xs i) (S m))
    (hQ : Q ⟨s0.nt, (se ops.size).env, S (cnt (chAt ops) ops.size)⟩)
    (kk : ∀ s' g' w' a', Q s' → Rel G s' g' w' a' → Evo s0.st g0 w0 s'.st g' w' → a'.defers = a0.defers → QQ Exit.normal a' w') :
    ∀ (fuel : Nat) (listed : Array Bool) (a : Act) (g : Ghost) (w : World) (m : Nat), listed.size = ops.size → left listed ops.size = fuel → Closed ops listed → (∀ j, j < ops.size → chAt ops j = true → (listed.getD j false = true ↔ cnt (chAt ops) j < m)) → m ≤ cnt (chAt ops) ops.size →
      a.tmps.size = s0.nt → SR G (S m) g w → (∀ j t, j < ops.size → dstOf ops j = some t → listed.getD j false = true → AR G (S m) g w (xs j) (a.tmps.getD t undef)) →
      (∀ t, (∀ j, j < ops.size → dstOf ops j = some t → listed.getD j false = false) → AR G (S m) g w (s0.get t) (a.tmps.getD t undef)) →
      Evo s0.st g0 w0 (S m) g w → a.defers = a0.defers → wpAnyIn (FW r) 0 P .any ops QQ fuel listed a w := by
  intro fuel
  induction fuel with
  | zero =>
    intro listed a g w m hs hl hc hm hmM hsz hsr hv1 hv2 hev hdf
    have h1 : ∀ j, j < ops.size → listed.getD j true = true := fun j hj => by
      unfold left at hl
      rw [List.length_eq_zero_iff, List.filter_eq_nil_iff] at hl
      have := hl j (List.mem_range.2 hj)
      simpa using this
    have h1' : ∀ j, j < ops.size → listed.getD j false = true := fun j hj => by rw [getD_tf (by omega) false true]; exact h1 j hj
    refine ⟨?_, ?_⟩
    · rw [List.eq_nil_iff_forall_not_mem]
      intro j hj
      obtain ⟨hj1, hj2, _⟩ := mem_ready hj
      rw [h1 j hj1] at hj2
      simp at hj2
    · have em : m = cnt (chAt ops) ops.size := by
        rcases Nat.lt_or_ge m (cnt (chAt ops) ops.size) with hlt | hge
        · exfalso
          have hget : (chs ops)[m]? = some ((chs ops)[m]'hlt) := List.getElem?_eq_getElem hlt
          obtain ⟨c1, c2, c3⟩ := cnt_lt (chAt ops) (i := 0) hget
          have := (hm _ c1 c2).1 (h1' _ c1)
          omega
        · omega
      subst em
      refine kk _ g w a hQ ⟨fun t => ?_, hsz, hsr⟩ hev hdf
      show AR G _ g w ((se ops.size).get t) _
      by_cases hw : ∃ j, j < ops.size ∧ dstOf ops j = some t
      · obtain ⟨j, hj, hjt⟩ := hw
        rw [D1 _ j t (Nat.le_refl _) hj hjt]
        exact hv1 j t hj hjt (h1' j hj)
      · rw [D2 _ t (Nat.le_refl _) fun j hj hjt => hw ⟨j, hj, hjt⟩]
        exact hv2 t fun j hj hjt => absurd ⟨j, hj, hjt⟩ hw
  | succ fuel ih =>
    intro listed a g w m hs hl hc hm hmM hsz hsr hv1 hv2 hev hdf
    have hex : ∃ j, j < ops.size ∧ listed.getD j true = false := by
      by_cases he : ∃ j, j < ops.size ∧ listed.getD j true = false
      · exact he
      · exfalso
        have : left listed ops.size = 0 := by
          unfold left
          rw [List.length_eq_zero_iff, List.filter_eq_nil_iff]
          intro j hj
          cases hb : listed.getD j true with
          | true => simp
          | false => exact absurd ⟨j, List.mem_range.1 hj, hb⟩ he
        omega
    refine ⟨fun hnil => ?_, fun i hi => ?_⟩
    · exfalso
      have least : ∀ n j, j ≤ n → j < ops.size → listed.getD j true = false → ∃ i, i < ops.size ∧ listed.getD i true = false ∧ ∀ k, k < i → listed.getD k true = true := by
        intro n
        induction n with
        | zero =>
          intro j hj hjq hjl
          exact ⟨j, hjq, hjl, fun k hk => by omega⟩
        | succ n ihn =>
          intro j hj hjq hjl
          by_cases hk : ∃ k, k < j ∧ listed.getD k true = false
          · obtain ⟨k, hk1, hk2⟩ := hk
            exact ihn k (by omega) (by omega) hk2
          · refine ⟨j, hjq, hjl, fun k hk' => ?_⟩
            cases hb : listed.getD k true with
            | true => rfl
            | false => exact absurd ⟨k, hk', hb⟩ hk
      obtain ⟨j, hj1, hj2⟩ := hex
      obtain ⟨i, hi1, hi2, hi3⟩ := least j j (Nat.le_refl _) hj1 hj2
      have ho := Array.getElem?_eq_getElem hi1
      have hmem := ready_of ho hi2 (fun e hem hb => by
        have := hT.e i _ ho e hem hb
        rw [getD_tf (by omega) false true]
        exact hi3 _ this)
      rw [hnil] at hmem
      exact List.not_mem_nil hmem
    · obtain ⟨hi1, hi2, o, ho, he⟩ := mem_ready hi
      have hpre : ∀ o', ops[i]? = some o' → ∀ e ∈ o'.after, bindsE e = true → listed.getD e.on false = true := fun o' ho' => by
        rw [ho] at ho'
        obtain rfl := Option.some.inj ho'
        exact he
      have hnot : listed.getD i false = false := by rw [getD_tf (by omega) false true]; exact hi2
      have ahd : ∀ j, ahM ms i j = true → listed.getD j false = true := fun j h => (ahM_ok hT.eqm h).listed hc hpre
      have bhd : ∀ j, ahM ms j i = true → listed.getD j false = false := fun j h => by
        cases hb : listed.getD j false with
        | false => rfl
        | true =>
          have := (ahM_ok hT.eqm h).of_listed hc hb
          rw [hnot] at this
          cases this
      -- the operation, at the version that the store has
      have key : ∃ m', m' ≤ cnt (chAt ops) ops.size ∧ One r P ops i (lookS ops i ⟨s0.nt, (se i).env, S m⟩) (xs i) (S m') ∧ (∀ j, j < ops.size → chAt ops j = true → ((listed.setIfInBounds i true).getD j false = true ↔ cnt (chAt ops) j < m')) := by
        cases hch : chAt ops i with
        | true =>
          have e1 : m = cnt (chAt ops) i := by
            have h1 : ¬ cnt (chAt ops) i < m := fun h => by
              have := (hm i hi1 hch).2 h
              rw [hnot] at this
              cases this
            rcases Nat.lt_or_ge m (cnt (chAt ops) i) with hlt | hge
            · exfalso
              have hlt2 : m < (chs ops).length := Nat.lt_of_lt_of_le hlt (cnt_mono _ (Nat.le_of_lt hi1))
              have hget : (chs ops)[m]? = some ((chs ops)[m]'hlt2) := List.getElem?_eq_getElem hlt2
              obtain ⟨c1, c2, c3⟩ := cnt_lt (chAt ops) (i := 0) hget
              have hci : (chs ops)[m] < i := by
                rcases Nat.lt_trichotomy ((chs ops)[m]'hlt2) i with h | h | h
                · exact h
                · rw [h] at c3; omega
                · have := cnt_strict (chAt ops) h hch; omega
              have := (hm _ c1 c2).1 (ahd _ (hT.c i _ hi1 hci hch c2))
              omega
            · omega
          subst e1
          refine ⟨cnt (chAt ops) (i + 1), cnt_mono _ hi1, hone i hi1, fun j hj hcj => ?_⟩
          rw [getD_setB _ _ _ _ (by omega), cnt_succ, hch]
          by_cases e : i = j
          · subst e; simp
          · rw [if_neg e, hm j hj hcj]
            simp only [if_true]
            constructor
            · intro h; omega
            · intro h
              rcases Nat.lt_or_ge j i with h' | h'
              · exact cnt_strict _ h' hcj
              · have := cnt_strict (chAt ops) (show i < j by omega) hch; omega
        | false =>
          refine ⟨m, hmM, hlat i m hi1 hch hmM ?_, fun j hj hcj => ?_⟩
          · unfold okV
            rw [List.all_eq_true]
            intro j hj
            rw [List.mem_range] at hj
            have hget : (chs ops)[j]? = some ((chs ops)[j]'hj) := List.getElem?_eq_getElem hj
            obtain ⟨c1, c2, c3⟩ := cnt_lt (chAt ops) (i := 0) hget
            rw [hget]
            simp only [Bool.and_eq_true, Bool.or_eq_true, Bool.not_eq_true']
            refine ⟨?_, ?_⟩
            · cases ha : ahM ms i ((chs ops)[j]'hj) with
              | false => exact .inl rfl
              | true =>
                right
                have := (hm _ c1 c2).1 (ahd _ ha)
                exact Nat.ble_eq_true_of_le (by omega)
            · cases ha : ahM ms ((chs ops)[j]'hj) i with
              | false => exact .inl rfl
              | true =>
                right
                have h1 := bhd _ ha
                have : ¬ cnt (chAt ops) ((chs ops)[j]'hj) < m := fun h => by
                  have := (hm _ c1 c2).2 h
                  rw [h1] at this
                  cases this
                exact Nat.ble_eq_true_of_le (by omega)
          · rw [getD_setB _ _ _ _ (by omega)]
            have : i ≠ j := fun e => by subst e; rw [hch] at hcj; cases hcj
            rw [if_neg this]
            exact hm j hj hcj
      obtain ⟨m', hm'M, h1, hm'⟩ := key
      have hlk : lookS ops i ⟨s0.nt, (se i).env, S m⟩ = restr ⟨s0.nt, (se i).env, S m⟩ (o.looksAt ops) := by simp only [lookS, ho]
      rw [hlk] at h1
      have hrel : Rel G (restr ⟨s0.nt, (se i).env, S m⟩ (o.looksAt ops)) g w a := by
        refine ⟨fun t => ?_, hsz, hsr⟩
        show AR G (S m) g w (look ((o.looksAt ops).map fun t => (t, St.get ⟨s0.nt, (se i).env, S m⟩ t)) t) _
        rw [look_restr]
        split
        · rename_i ht
          show AR G (S m) g w ((se i).get t) _
          by_cases hw : ∃ j, j < ops.size ∧ dstOf ops j = some t
          · obtain ⟨j, hj, hjt⟩ := hw
            rcases hT.l i o ho t ht j hj hjt with ⟨h2, h3⟩ | ⟨h2, h3⟩
            · rw [D1 i j t (by omega) h2 hjt]
              exact hv1 j t hj hjt (ahd j h3)
            · rw [D2 i t (by omega) fun q hq hqt => by have := hT.d j t hj hjt q (by omega) hqt; omega]
              exact hv2 t fun q hq hqt => by
                obtain rfl := hT.d j t hj hjt q hq hqt
                exact bhd _ h3
          · rw [D2 i t (by omega) fun j hj hjt => hw ⟨j, by omega, hjt⟩]
            exact hv2 t fun j hj hjt => absurd ⟨j, hj, hjt⟩ hw
        · exact .any _
      have h := h1 [] (fun s' => s' = putS (restr ⟨s0.nt, (se i).env, S m⟩ (o.looksAt ops)) (dstOf ops i) (xs i) (S m')) (AOL.nil rfl) G g w a (fun e a' w' => match e with | .normal => wpAnyIn (FW r) 0 P .any ops QQ fuel (listed.setIfInBounds i true) a' w' | e => QQ e a' w') hrel ?_
      · exact wpOpIn_of h
      · rintro s' g' w' a' rfl hr' hev' hdf' hfr
        rw [putS_st] at hev'
        have hev' : Evo (S m) g w (S m') g' w' := hev'
        have hsr' : SR G (S m') g' w' := by have := hr'.sr; rw [putS_st] at this; exact this
        have hnt : a'.tmps.size = s0.nt := hr'.size.trans (by cases dstOf ops i <;> rfl)
        have hdo : dstOf ops i = o.dst := by simp [dstOf, ho]
        have same : ∀ t, dstOf ops i ≠ some t → a'.tmps.getD t undef = a.tmps.getD t undef := fun t ht => hfr t fun j hj p hp => by
          obtain rfl := List.mem_singleton.1 hj
          rw [ho] at hp
          obtain rfl := Option.some.inj hp
          rw [← hdo]
          exact ht
        refine ih _ a' g' w' m' (by simp [hs]) ?_ (closed_set hc ho (by omega) he) hm' hm'M hnt hsr' (fun j t hj hjt hlj => ?_) (fun t ht => ?_) (hev.trans hev') (hdf'.trans hdf)
        · have := left_set (listed := listed) (by omega) hi1 hi2
          omega
        · rw [getD_setB _ _ _ _ (by omega)] at hlj
          by_cases e : i = j
          · subst e
            have := hr'.slots t
            rw [putS_st] at this
            have hg : (putS (restr ⟨s0.nt, (se i).env, S m⟩ (o.looksAt ops)) (dstOf ops i) (xs i) (S m')).get t = xs i := by
              rw [hjt]
              exact look_cons_eq
            rw [hg] at this
            exact this
          · rw [if_neg e] at hlj
            have hne : dstOf ops i ≠ some t := fun h => e (hT.d j t hj hjt i hi1 h)
            rw [same t hne]
            exact (hv1 j t hj hjt hlj).evo hev'
        · have hne : dstOf ops i ≠ some t := fun h => by
            have := ht i hi1 h
            rw [getD_setB _ _ _ _ (by omega), if_pos rfl] at this
            cases this
          rw [same t hne]
          refine (hv2 t fun j hj hjt => ?_).evo hev'
          have := ht j hj hjt
          rw [getD_setB _ _ _ _ (by omega)] at this
          split at this
          · cases this
          · exact this
end main
section fin
variable {r : Option Nat} {P : Program} {ops : Array Oper}
def stV (ops : Array Oper) (s : List AObj) (se : Nat → St) : Nat → List AObj
  | 0 => s
  | m + 1 => (se ((chs ops).getD m 0 + 1)).st
theorem stV_eq {s : St} {se : Nat → St} (h0 : se 0 = s) (hq : ∀ i, i < ops.size → chAt ops i = false → (se (i + 1)).st = (se i).st) : ∀ i, i ≤ ops.size → (se i).st = stV ops s.st se (cnt (chAt ops) i)
  | 0, _ => by rw [h0]; rfl
  | i + 1, hi => by
    rw [cnt_succ]
    cases hc : chAt ops i with
    | true =>
      have hg := cnt_get (chAt ops) (n := ops.size) (by omega) hc
      have : (chs ops).getD (cnt (chAt ops) i) 0 = i := by rw [List.getD_eq_getElem?_getD]; unfold chs; rw [hg]; rfl
      simp only [if_true, stV, this]
    | false =>
      rw [hq i (by omega) hc]
      simpa using stV_eq h0 hq i (by omega)
theorem vers_get {s : St} {se : Nat → St} {xs : Nat → AV} (hS : ∀ i, i ≤ ops.size → (se i).st = stV ops s.st se (cnt (chAt ops) i)) :
    ∀ (n k : Nat), k + n = ops.size → ∀ j, cnt (chAt ops) k + j ≤ cnt (chAt ops) ops.size →
      (vers ops (stV ops s.st se (cnt (chAt ops) k)) ((List.range n).map fun j => ⟨k + j, se (k + j), xs (k + j), (se (k + j + 1)).st⟩))[j]? = some (stV ops s.st se (cnt (chAt ops) k + j))
  | 0, k, hk, j, hj => by
    obtain rfl : k = ops.size := by omega
    obtain rfl : j = 0 := by omega
    rfl
  | n + 1, k, hk, j, hj => by
    have e : (List.range (n + 1)).map (fun j => (⟨k + j, se (k + j), xs (k + j), (se (k + j + 1)).st⟩ : TRec)) = ⟨k, se k, xs k, (se (k + 1)).st⟩ :: (List.range n).map fun j => ⟨k + 1 + j, se (k + 1 + j), xs (k + 1 + j), (se (k + 1 + j + 1)).st⟩ := by
      rw [List.range_succ_eq_map, List.map_cons, List.map_map]
      simp only [Nat.add_zero]
      congr 1
      refine List.map_congr_left fun j _ => ?_
      simp only [Function.comp, Nat.succ_eq_add_one]
      rw [show k + (j + 1) = k + 1 + j by omega]
    rw [e]
    have ih := vers_get (xs := xs) hS n (k + 1) (by omega)
    cases hc : chAt ops k with
    | true =>
      have e2 : cnt (chAt ops) (k + 1) = cnt (chAt ops) k + 1 := by rw [cnt_succ, hc]; rfl
      simp only [vers, hc]
      rw [hS (k + 1) (by omega)]
      cases j with
      | zero => rfl
      | succ j =>
        rw [List.getElem?_cons_succ, ih j (by omega), e2]
        congr 2; omega
    | false =>
      have e2 : cnt (chAt ops) (k + 1) = cnt (chAt ops) k := by rw [cnt_succ, hc]; rfl
      simp only [vers, hc]
      rw [← e2] at hj ⊢
      exact ih j hj
theorem AWp.drawV {id : Nat} {s : St} {Q : Exit → St → Prop} {l : List Nat} (hm : P.follows .mixedOrders = true) (hb : drawVB ops = true) (hl : List.range ops.size = l)
    (h : TR r P ops l s [] fun T rc => SameQ ops rc ∧ AllO r P ops (obl ops (masks ops.toList []) (chs ops) (vers ops s.st rc) rc) ∧ Q .normal T) : AWp r P (.region id ops true) s Q := fun G g w a B QQ hr hB hd k => by
  subst hl
  have hT := textV hb
  have h' : TR r P ops ((List.range ops.size).map (0 + ·)) s [] fun T rc => SameQ ops rc ∧ AllO r P ops (obl ops (masks ops.toList []) (chs ops) (vers ops s.st rc) rc) ∧ Q .normal T := by
    have : (List.range ops.size).map (0 + ·) = List.range ops.size := by
      have : (List.range ops.size).map (fun x => 0 + x) = (List.range ops.size).map (fun x => x) := List.map_congr_left fun x _ => Nat.zero_add x
      rw [this, List.map_id']
    rw [this]; exact h
  obtain ⟨se, xs, h0, h1, hq, ho, hQ⟩ := TR.collect _ _ _ _ h'
  rw [List.nil_append] at hq ho
  rw [Nat.zero_add] at hQ
  have hq' : ∀ i, i < ops.size → chAt ops i = false → (se (i + 1)).st = (se i).st := fun i hi hc => by
    have := SameQ_mem hq ⟨0 + i, se (0 + i), xs (0 + i), (se (0 + i + 1)).st⟩ (List.mem_map.2 ⟨i, List.mem_range.2 hi, rfl⟩) (by rw [Nat.zero_add]; exact hc)
    simp only [Nat.zero_add] at this
    exact this
  have hS := stV_eq h0 hq'
  have hnt : ∀ i, i ≤ ops.size → (se i).nt = s.nt := fun i => by
    induction i with
    | zero => intro _; rw [h0]
    | succ i ih =>
      intro hi
      rw [(h1 i (Nat.zero_le _) (by omega)).2]
      have : (putS (se i) (dstOf ops i) (xs i) (se (i + 1)).st).nt = (se i).nt := by cases dstOf ops i <;> rfl
      rw [this]; exact ih (by omega)
  have hget : ∀ i t, i < ops.size → (se (i + 1)).get t = if dstOf ops i = some t then xs i else (se i).get t := fun i t hi => by
    rw [(h1 i (Nat.zero_le _) (by omega)).2]
    cases hdo : dstOf ops i with
    | none => simp [putS]; rfl
    | some d =>
      show look ((d, xs i) :: (se i).env) t = _
      by_cases e : d = t
      · subst e; rw [look_cons_eq]; simp
      · rw [look_cons_ne e]; simp [e]; rfl
  have D2 : ∀ i t, i ≤ ops.size → (∀ j, j < i → dstOf ops j ≠ some t) → (se i).get t = s.get t := fun i => by
    induction i with
    | zero => intro t _ _; rw [h0]
    | succ i ih =>
      intro t hi hn
      rw [hget i t (by omega), if_neg (hn i (Nat.lt_succ_self i))]
      exact ih t (by omega) fun j hj => hn j (by omega)
  have D1 : ∀ i j t, i ≤ ops.size → j < i → dstOf ops j = some t → (se i).get t = xs j := fun i => by
    induction i with
    | zero => intro j t _ hj _; omega
    | succ i ih =>
      intro j t hi hj hjt
      rw [hget i t (by omega)]
      by_cases e : j = i
      · subst e; rw [if_pos hjt]
      · rw [if_neg fun h => e (hT.d i t (by omega) h j (by omega) hjt)]
        exact ih j t (by omega) (by omega) hjt
  have hlk : ∀ i m, i ≤ ops.size → lookS ops i ⟨s.nt, (se i).env, m⟩ = lookS ops i ⟨(se i).nt, (se i).env, m⟩ := fun i m hi => by rw [hnt i hi]
  have hM : (chs ops).length = cnt (chAt ops) ops.size := rfl
  have hv : ∀ m, m ≤ cnt (chAt ops) ops.size → (vers ops s.st ((List.range ops.size).map fun j => ⟨0 + j, se (0 + j), xs (0 + j), (se (0 + j + 1)).st⟩))[m]? = some (stV ops s.st se m) := fun m hm => by
    have := vers_get (xs := xs) hS ops.size 0 (by omega) m (by simpa [cnt] using hm)
    simpa [cnt, stV] using this
  have ev0 : Evo s.st g w s.st g { w with drawn := w.drawn + 1 } := .below ⟨rfl, rfl, rfl, Nat.le_refl _, fun _ _ => rfl⟩
  have sr0 : SR G s.st g { w with drawn := w.drawn + 1 } := hr.sr.below (w := w) (w' := { w with drawn := w.drawn + 1 }) ⟨rfl, rfl, rfl, Nat.le_refl _, fun _ _ => rfl⟩
  refine wpIn_region_any hm ?_
  refine drawV_any (G := G) hT (s0 := s) (se := se) (xs := xs) (S := stV ops s.st se) (g0 := g) (w0 := w) (a0 := a) (Q := Q .normal) hS D1 D2 (fun i hi => ?_) (fun i m hi hc hmM hok => ?_) ?_ (fun s' g' w' a' qs hr' he' hd' => k _ s' g' w' a' qs hr' he' (by rw [hd']; exact hd.evo hr.sr he')) ops.size _ a g _ 0 (by simp) ?_ ?_ ?_ (Nat.zero_le _) hr.size sr0 ?_ ?_ ev0 rfl
  · have := (h1 i (Nat.zero_le _) (by omega)).1
    rw [← hS i (by omega), ← hS (i + 1) (by omega), hlk i _ (by omega)]
    exact this
  · by_cases e : m = cnt (chAt ops) i
    · subst e
      have := (h1 i (Nat.zero_le _) (by omega)).1
      rw [hq' i hi hc] at this
      rw [← hS i (by omega), hlk i _ (by omega)]
      exact this
    · have hmem := obl_mem (ops := ops) (ms := masks ops.toList []) (cs := chs ops) (S := vers ops s.st ((List.range ops.size).map fun j => ⟨0 + j, se (0 + j), xs (0 + j), (se (0 + j + 1)).st⟩)) (t := ⟨0 + i, se (0 + i), xs (0 + i), (se (0 + i + 1)).st⟩) (by rw [Nat.zero_add]; exact hc) (m := m) hmM
        (by simp only [Nat.zero_add]; exact hok) (by simp only [Nat.zero_add]; unfold chs; rw [cnt_below _ (by omega)]; exact e) (hv m hmM) (List.mem_map.2 (⟨i, List.mem_range.2 hi, rfl⟩ : ∃ a, a ∈ List.range ops.size ∧ (fun j => (⟨0 + j, se (0 + j), xs (0 + j), (se (0 + j + 1)).st⟩ : TRec)) a = ⟨0 + i, se (0 + i), xs (0 + i), (se (0 + i + 1)).st⟩))
      have := AllO_mem ho _ hmem
      simp only [Nat.zero_add] at this
      rw [lookS_st] at this
      rw [hlk i _ (by omega)]
      exact this
  · have e : (⟨s.nt, (se ops.size).env, stV ops s.st se (cnt (chAt ops) ops.size)⟩ : St) = se ops.size := by
      rw [← hS _ (Nat.le_refl _), ← hnt _ (Nat.le_refl _)]
    rw [e]; exact hQ
  · unfold left
    have : (List.range ops.size).filter (fun j => !(Array.replicate ops.size false).getD j true) = List.range ops.size := by
      rw [List.filter_eq_self]
      intro j hj
      have := List.mem_range.1 hj
      simp [this]
    rw [this, List.length_range]
  · intro i o hi ho e hem hbe
    exfalso
    have := (Array.getElem?_eq_some_iff.1 ho).1
    simp [this] at hi
  · intro j hj _
    simp [hj]
  · intro j t hj _ hl
    simp [hj] at hl
  · intro t _
    exact (hr.slots t).evo ev0
def advT (A : Ar) (tab : List TI) (ops : Array Oper) (D G : List Nat) : List Nat → St → List TRec → List Nat × St × List TRec
  | [], s, rc => ([], s, rc)
  | i :: rest, s, rc => match ops[i]? with
    | some o => match hint ops G (lookS ops i s) o && !stops D o with
      | true => match gd ops (lookS ops i s) o.guard with
        | some true => match ev1 A tab (lookS ops i s) o.op with
          | some (x, st') => match dstOk (lookS ops i s) o.dst with
            | true => advT A tab ops D G rest (putS s o.dst x st') (rc ++ [⟨i, s, x, st'⟩])
            | false => (i :: rest, s, rc)
          | none => (i :: rest, s, rc)
        | some false => match dstOk (lookS ops i s) o.dst with
          | true => advT A tab ops D G rest (putS s o.dst (.tup []) s.st) (rc ++ [⟨i, s, .tup [], s.st⟩])
          | false => (i :: rest, s, rc)
        | none => (i :: rest, s, rc)
      | false => (i :: rest, s, rc)
    | none => (i :: rest, s, rc)
theorem TR.adv {A : Ar} {tab : List TI} (hA : A = real) (hT : TabOk P tab) {D Gh : List Nat} {Q : St → List TRec → Prop} : ∀ (l : List Nat) (s : St) (rc : List TRec), TR r P ops (advT A tab ops D Gh l s rc).1 (advT A tab ops D Gh l s rc).2.1 (advT A tab ops D Gh l s rc).2.2 Q → TR r P ops l s rc Q
  | [], s, rc, h => h
  | i :: rest, s, rc, h => by
    simp only [advT] at h
    cases ho : ops[i]? with
    | none => simp only [ho] at h; exact h
    | some o =>
      simp only [ho] at h
      have hdo : dstOf ops i = o.dst := by simp [dstOf, ho]
      cases hh : (hint ops Gh (lookS ops i s) o && !stops D o) with
      | false => simp only [hh] at h; exact h
      | true =>
        simp only [hh] at h
        cases hg : gd ops (lookS ops i s) o.guard with
        | none => simp only [hg] at h; exact h
        | some b =>
          cases b with
          | true =>
            simp only [hg] at h
            cases he : ev1 A tab (lookS ops i s) o.op with
            | none => simp only [he] at h; exact h
            | some p =>
              obtain ⟨x, st'⟩ := p
              simp only [he] at h
              cases hd : dstOk (lookS ops i s) o.dst with
              | false => simp only [hd] at h; exact h
              | true =>
                simp only [hd] at h
                refine ⟨x, st', fun rest' Q' k => ?_, by rw [hdo]; exact TR.adv hA hT rest _ _ h⟩
                rw [hdo] at k
                exact AOL.step ho hg hd (ev1_nd he) (ev1_mem hA hT he) k
          | false =>
            simp only [hg] at h
            cases hd : dstOk (lookS ops i s) o.dst with
            | false => simp only [hd] at h; exact h
            | true =>
              simp only [hd] at h
              refine ⟨.tup [], s.st, fun rest' Q' k => ?_, by rw [hdo]; exact TR.adv hA hT rest _ _ h⟩
              refine AOL.skip ho hg hd ?_
              rw [hdo] at k
              rw [lookS_st]
              exact k
def tnxt (A : Ar) (tab : List TI) (ops : Array Oper) (D G : List Nat) (l : List Nat) (s : St) (rc : List TRec) : List Nat × St × List TRec × Ev := match advT A tab ops D G l s rc with
  | (l', s', rc') => (l', s', rc', qevOf D G ops l' s')
def TRg (D G : List Nat) (r : Option Nat) (P : Program) (ops : Array Oper) (l : List Nat) (s : St) (rc : List TRec) (Q : St → List TRec → Prop) : Prop := TR r P ops l s rc Q
def TX (D G : List Nat) (r : Option Nat) (P : Program) (ops : Array Oper) (l : List Nat) (s : St) (rc : List TRec) (Q : St → List TRec → Prop) (ev : Ev) : Prop := qevOf D G ops l s = ev → TR r P ops l s rc Q
variable {D Gh : List Nat} {Q : St → List TRec → Prop}
theorem TRg.nx {A : Ar} {tab : List TI} (hA : A = real) (hT : TabOk P tab) {l l' : List Nat} {s s' : St} {rc rc' : List TRec} {ev : Ev} (h : tnxt A tab ops D Gh l s rc = (l', s', rc', ev)) (k : TX D Gh r P ops l' s' rc' Q ev) : TRg D Gh r P ops l s rc Q := by
  simp only [tnxt, Prod.mk.injEq] at h
  obtain ⟨h1, h2, h3, h4⟩ := h
  refine TR.adv hA hT (D := D) (Gh := Gh) l s rc ?_
  rw [h1, h2, h3]
  rw [h1, h2] at h4
  exact k h4
theorem TRg.pass {l : List Nat} {s : St} {rc : List TRec} (k : TRg D Gh r P ops l s rc Q) : TRg D Gh r P ops l s rc Q := k
theorem TX.done {s : St} {rc : List TRec} (h : Q s rc) : TX D Gh r P ops [] s rc Q .done := fun _ => h
theorem TX.gt {j : Nat} {l : List Nat} {s : St} {rc : List TRec} (k : TRg D (j :: Gh) r P ops l s rc Q) : TX D Gh r P ops l s rc Q (.guard j true) := fun _ => k
theorem TX.gf {j : Nat} {l : List Nat} {s : St} {rc : List TRec} (k : TRg D (j :: Gh) r P ops l s rc Q) : TX D Gh r P ops l s rc Q (.guard j false) := fun _ => k
theorem TX.gs {j : Nat} {b : Bool} {l : List Nat} {s : St} {rc : List TRec} (h1 : b = true → TRg D (j :: Gh) r P ops l s rc Q) (h2 : b = false → TRg D (j :: Gh) r P ops l s rc Q) : TX D Gh r P ops l s rc Q (.guard j b) := fun _ => by
  cases b with
  | true => exact h1 rfl
  | false => exact h2 rfl
theorem TX.one {ev : Ev} {i : Nat} {rest : List Nat} {s : St} {rc : List TRec} {x : AV} {st' : List AObj} (h : One r P ops i (lookS ops i s) x st') (k : TRg D Gh r P ops rest (putS s (dstOf ops i) x st') (rc ++ [⟨i, s, x, st'⟩]) Q) : TX D Gh r P ops (i :: rest) s rc Q ev := fun _ => ⟨x, st', h, k⟩
theorem TX.call {i : Nat} {rest : List Nat} {s : St} {rc : List TRec} {f : FuncId} {p : List PV} {y : PV} (hc : PureCalls P f p y) (k : TRg D Gh r P ops rest (putS s (dstOf ops i) y.av s.st) (rc ++ [⟨i, s, y.av, s.st⟩]) Q) : TX D Gh r P ops (i :: rest) s rc Q (.call f p) := fun h => by
  obtain ⟨op, h1, h2⟩ := evOf_op (l := rest) (i := i) h (by simp) (by simp) (by simp)
  obtain ⟨x, args, ts, first, cap, rfl, h3, h4⟩ := opEv_call h2
  have := One.call (r := r) false h1 h3 h4 hc rfl
  rw [lookS_st] at this
  exact ⟨_, _, this, k⟩
theorem TX.callO {i : Nat} {rest : List Nat} {s : St} {rc : List TRec} {own : Bool} {f : FuncId} {p : List PV} {q : List (Nat × Nat)} {y : PV} (hc : PureCalls P f p y) (hq : allEq q) (hn : (!own || noSl y) = true) (k : TRg D Gh r P ops rest (putS s (dstOf ops i) y.av s.st) (rc ++ [⟨i, s, y.av, s.st⟩]) Q) : TX D Gh r P ops (i :: rest) s rc Q (.callO own f p q) := fun h => by
  obtain ⟨op, h1, h2⟩ := evOf_op (l := rest) (i := i) h (by simp) (by simp) (by simp)
  obtain ⟨x, args, ts, first, cap, rfl, h3, h4⟩ := opEv_callO h2
  have := One.callO (r := r) own h1 h3 h4 hc hn hq
  rw [lookS_st] at this
  exact ⟨_, _, this, k⟩
theorem TX.raw {ev : Ev} {l : List Nat} {s : St} {rc : List TRec} (h : TR r P ops l s rc Q) : TX D Gh r P ops l s rc Q ev := fun _ => h
theorem TX.k (n : Nat) {l : List Nat} {s : St} {rc : List TRec} (h : TX D Gh r P ops l s rc Q (.one n)) : TX D Gh r P ops l s rc Q (.one n) := h
theorem TX.kC {f : FuncId} {p : List PV} {l : List Nat} {s : St} {rc : List TRec} (h : TX D Gh r P ops l s rc Q (.call f p)) : TX D Gh r P ops l s rc Q (.call f p) := h
theorem TX.kO {own : Bool} {f : FuncId} {p : List PV} {q : List (Nat × Nat)} {l : List Nat} {s : St} {rc : List TRec} (h : TX D Gh r P ops l s rc Q (.callO own f p q)) : TX D Gh r P ops l s rc Q (.callO own f p q) := h
def Fin3 (r : Option Nat) (P : Program) (ops : Array Oper) (l : List (Nat × St × AV)) (sq : Prop) (K : Prop) : Prop := sq ∧ AllO r P ops l ∧ K
theorem AWp.drawVG (D : List Nat) {id : Nat} {s : St} {Q : Exit → St → Prop} {l : List Nat} (hm : P.follows .mixedOrders = true) (hb : drawVB ops = true) (hl : List.range ops.size = l)
    (h : TRg D [] r P ops l s [] fun T rc => Fin3 r P ops (obl ops (masks ops.toList []) (chs ops) (vers ops s.st rc) rc) (SameQ ops rc) (Q .normal T)) : AWp r P (.region id ops true) s Q := AWp.drawV hm hb hl h
theorem Fin3.of {l l' : List (Nat × St × AV)} {sq K : Prop} (e : l = l') (h1 : sq) (h2 : AllO r P ops l') (h3 : K) : Fin3 r P ops l sq K := ⟨h1, e ▸ h2, h3⟩
theorem AllO.nil : AllO r P ops [] := trivial
theorem AllO.cons {i : Nat} {s : St} {x : AV} {l : List (Nat × St × AV)} (h : One r P ops i s x s.st) (k : AllO r P ops l) : AllO r P ops ((i, s, x) :: l) := ⟨h, k⟩
theorem AllO.consX {i : Nat} {s : St} {x x' : AV} {st' : List AObj} {l : List (Nat × St × AV)} (h : One r P ops i s x' st') (e : x' = x) (e2 : st' = s.st) (k : AllO r P ops l) : AllO r P ops ((i, s, x) :: l) := by
  subst e e2
  exact ⟨h, k⟩
theorem AllO.pass {l : List (Nat × St × AV)} (k : AllO r P ops l) : AllO r P ops l := k
theorem AllO.call {i : Nat} {s : St} {x : AV} {l : List (Nat × St × AV)} {f : FuncId} {p : List PV} {y : PV} (h : callAt ops i s = some (f, p)) (hc : PureCalls P f p y) (e : y.av = x) (k : AllO r P ops l) : AllO r P ops ((i, s, x) :: l) := by
  subst e
  exact ⟨One.callF h hc, k⟩
def skipAt (ops : Array Oper) (i : Nat) (s : St) : Bool := match ops[i]? with
  | some o => match gd ops s o.guard with
    | some false => dstOk s o.dst
    | _ => false
  | none => false
theorem One.skipB {i : Nat} {s : St} (h : skipAt ops i s = true) : One r P ops i s (.tup []) s.st := fun rest Q k => by
  unfold skipAt at h
  split at h
  · rename_i o ho
    split at h
    · rename_i hg
      have hdo : dstOf ops i = o.dst := by simp [dstOf, ho]
      rw [hdo] at k
      exact AOL.skip ho hg h k
    · simp at h
  · simp at h
end fin
end Go.Proofs.Ytkkjlmcnfoncdaa.Aw

namespace Go.Proofs.Ytkkjlmcnfoncdaa.Aw
open Go Go.RowKit
def allB (n : Nat) (p : Nat → Bool) : Bool := (List.range n).all p
theorem allB_t {n : Nat} {p : Nat → Bool} (h : ∀ i, i < n → p i = true) : allB n p = true := by
  unfold allB; rw [List.all_eq_true]; exact fun i hi => h i (List.mem_range.1 hi)
theorem allB_f {n : Nat} {p : Nat → Bool} {i : Nat} (hi : i < n) (h : p i = false) : allB n p = false := by
  cases hb : allB n p with
  | false => rfl
  | true =>
    unfold allB at hb
    rw [List.all_eq_true] at hb
    rw [hb i (List.mem_range.2 hi)] at h
    cases h
theorem allB_get {n : Nat} {p : Nat → Bool} (h : allB n p = true) {i : Nat} (hi : i < n) : p i = true := by
  unfold allB at h
  rw [List.all_eq_true] at h
  exact h i (List.mem_range.2 hi)
def idxB (n : Nat) (p : Nat → Bool) : Int := match (List.range n).find? p with
  | some i => (i : Int)
  | none => -1
theorem idxB_none {n : Nat} {p : Nat → Bool} (h : ∀ i, i < n → p i = false) : idxB n p = -1 := by
  have : (List.range n).find? p = none := by
    rw [List.find?_eq_none]
    intro i hi
    rw [h i (List.mem_range.1 hi)]; simp
  unfold idxB; rw [this]
theorem idxB_at {n : Nat} {p : Nat → Bool} {i : Nat} (hi : i < n) (h : p i = true) (hf : ∀ j, j < i → p j = false) : idxB n p = i := by
  have : (List.range n).find? p = some i := by
    rw [List.find?_range_eq_some]
    exact ⟨h, List.mem_range.2 hi, fun j hj => by rw [hf j hj]; rfl⟩
  unfold idxB; rw [this]
theorem idxB_cases (n : Nat) (p : Nat → Bool) : (idxB n p = -1 ∧ ∀ i, i < n → p i = false) ∨ ∃ i, i < n ∧ idxB n p = i ∧ p i = true ∧ ∀ j, j < i → p j = false := by
  unfold idxB
  cases h : (List.range n).find? p with
  | none =>
    left
    refine ⟨rfl, fun i hi => ?_⟩
    rw [List.find?_eq_none] at h
    have := h i (List.mem_range.2 hi)
    simpa using this
  | some i =>
    right
    rw [List.find?_range_eq_some] at h
    obtain ⟨h1, h2, h3⟩ := h
    exact ⟨i, List.mem_range.1 h2, rfl, h1, fun j hj => by have := h3 j hj; simpa using this⟩
theorem idxB_bound (n : Nat) (p : Nat → Bool) : -1 ≤ idxB n p ∧ idxB n p < n := by
  rcases idxB_cases n p with ⟨h, _⟩ | ⟨i, hi, h, _⟩ <;> rw [h] <;> omega
def eqS (a b : ByteArray) : Bool := decide (a.toList = b.toList)
abbrev SP (s : ByteArray) : PV := .c (.lit (.string s))
abbrev UP (z : Int) : PV := .c (.lit (.int .u8 z))
end Go.Proofs.Ytkkjlmcnfoncdaa.Aw

namespace Go.Proofs.Ytkkjlmcnfoncdaa.Aw
open Go Go.RowKit
def mkS (l : List Int) : ByteArray := l.foldl (fun r n => r.push (UInt8.ofNat n.toNat)) ByteArray.empty
def encU (n : Int) : List IC := [.lit (.int .u8 n)]
theorem Flat.bytes {w : World} {ok : Nat → Prop} {l : List Int} {cs : List Value} (h : Flat w ok 1 (List.map encU l) cs) : cs = l.map (Value.int .u8) := by
  have hl := h.len
  rw [List.length_map, Nat.mul_one] at hl
  apply List.ext_getElem?
  intro j
  rcases Nat.lt_or_ge j l.length with hj | hj
  · obtain ⟨u, hu, hr⟩ := h.rel j (encU l[j]) 0 (.lit (.int .u8 l[j])) (by rw [List.getElem?_map, List.getElem?_eq_getElem hj]; rfl) rfl
    rw [Nat.mul_one, Nat.add_zero] at hu
    cases hr
    rw [hu, List.getElem?_map, List.getElem?_eq_getElem hj]
    rfl
  · rw [List.getElem?_eq_none (by omega), List.getElem?_eq_none (by rw [List.length_map]; omega)]
section one
variable {r : Option Nat} {P : Program} {ops : Array Oper} {i : Nat} {s : St} {tab : List TI} {A : Ar}
end one
end Go.Proofs.Ytkkjlmcnfoncdaa.Aw

namespace Go.Proofs.Ytkkjlmcnfoncdaa.Aw
open Go Go.RowKit
theorem set_one (f : Nat → Value) (v : Value) : ((Array.range 1).map f).setIfInBounds 0 v = #[v] := by
  apply Array.ext
  · simp
  · intro i h1 h2
    have : i = 0 := by simp at h2; exact h2
    subst this
    simp
theorem does_build1 {P : Program} {s : St} (t e : TypeId) (x : Operand) (k : IntKind) (n : Int) (z : Value) (ht : (tyi P t).there = true) (hk : (tyi P t).k = .slice e) (hsz : (tyi P e).size = 1) (hz : (tyi P e).zero = some [z]) (hx : s.ev x = .ic (.lit (.int k n))) :
    Does P s (fun ρ => do pure (.value (← Instr.buildSlice t 1 ((#[(0, x)] : Array (Nat × Operand)).map fun (i, x) => (i, ρ x))))) (.own s.st.length 0) (s.st ++ [.row true 0 e 1 [[.lit (.int k n)]]]) := fun G g w a hrel => by
  have hu := tk_slice hk
  have h1 := hrel.ev x
  rw [hx] at h1
  have h1 := h1.lit_inv
  obtain ⟨zv, hzr, hzc⟩ := run_zero hz w
  have hss := run_size (P := P) (there_elem ht hu) w
  have hz2 : P.cellsOf e = 1 := hsz
  rw [hz2] at hss
  have hrun : (Instr.buildSlice t 1 ((#[(0, x)] : Array (Nat × Operand)).map fun (i, x) => (i, a.eval x))).run P w = .ok (.slice (some ⟨w.heap.size, 0, none⟩) 1 1) (w.alloc (.cells #[.int k n] e)) := by
    simp [Instr.buildSlice, run_underlying hu, hss, hzr, Instr.fill, newRow, h1, Value.cells, run_newObj]
    refine congrArg (fun c => w.alloc (Obj.cells c e)) ?_
    exact set_one _ _
  have hg : w.grownBy (w.alloc (.cells #[.int k n] e)) none := ⟨rfl, rfl, rfl, by simp, fun b hb _ => Below.heap_alloc _ _ _ hb⟩
  obtain ⟨g', hev, hsr, har⟩ := SR.newRow hrel e 1 [[.lit (.int k n)]] (.slice (some ⟨w.heap.size, 0, none⟩) 1 1) [.int k n] hg (fun b hb => by simp [gb] at hb; omega)
    ⟨by simp, .inr ⟨w.heap.size, 1, #[.int k n], rfl, Nat.zero_le _, heap_alloc_new _ _, Nat.le_refl _, by simp [maxLen], by simp, by simp⟩⟩ (fun ok => ⟨by simp, fun j r hj => by
      match j, hj with
      | 0, hj => obtain rfl := Option.some.inj hj; rfl, fun j r q y hj hq => by
      match j, hj with
      | 0, hj =>
        obtain rfl := Option.some.inj hj
        match q, hq with
        | 0, hq =>
          obtain rfl := Option.some.inj hq
          exact ⟨_, rfl, .lit _ rfl⟩, by simp [Value.oneCell']⟩)
  exact ⟨_, _, g', _, by simp only [Sem.run_bind, hrun, Result.andThen_ok, Sem.run_pure], .inl rfl, hev, hsr, har⟩
theorem One.build1 {r : Option Nat} {P : Program} {ops : Array Oper} {i : Nat} {s : St} {tab : List TI} (hT : TabOk P tab) {t e : TypeId} {j : TI} {x : Operand} {k : IntKind} {n : Int} {z : Value} (h : opAt ops i s = some (.buildSlice t 1 #[(0, x)])) (ht : slT tab t = some (e, j)) (hz : j.zero = some [z]) (hs : j.size = 1) (hx : s.ev x = .ic (.lit (.int k n))) : One r P ops i s (.own s.st.length 0) (s.st ++ [.row true 0 e 1 [[.lit (.int k n)]]]) := by
  obtain ⟨g1, g2, rfl⟩ := slT_ok hT ht
  exact .does h rfl fun o hop => (does_build1 t e x k n z g1 g2 hs hz hx).congr fun ρ => by simp only [execOp, hop]
theorem CLe.int {s : List AObj} {k : IntKind} {a b : Int} (e : a = b) : CLe s (.ic (.lit (.int k a))) (.ic (.lit (.int k b))) := e ▸ .refl _
theorem CLe.str {s : List AObj} {a b : ByteArray} (e : a = b) : CLe s (.ic (.lit (.string a))) (.ic (.lit (.string b))) := e ▸ .refl _
theorem AWp.cut {r : Option Nat} {P : Program} {s : St} {Q : Exit → St → Prop} {x y : Code} (up : List (Nat × AV)) (st' : List AObj) {keep : List (Nat × AV)} (hk : keepOf (wr x 0) s.env = keep) (h : AWp r P x s (Thn (fun s' => s'.nt = s.nt ∧ s'.st = st' ∧ subE s' up ∧ subE s' keep) Q)) (k : AWp r P y ⟨s.nt, up ++ keep, st'⟩ Q) : AWp r P (.seq x y) s Q := by
  refine AWp.seq (h.mono fun e s' hq => ?_)
  cases e with
  | normal =>
    obtain ⟨h1, h2, h3, h4⟩ := hq
    exact AWp.sub (Sub.of h1 h2 (subE_append h3 h4)) k
  | _ => exact hq
def cutS (b : ByteArray) (l n : Int) : ByteArray := b.extract l.toNat n.toNat
section strcut
variable {r : Option Nat} {P : Program} {ops : Array Oper} {i : Nat} {s : St} {tab : List TI} {A : Ar}
end strcut
end Go.Proofs.Ytkkjlmcnfoncdaa.Aw

namespace Go.Proofs.Ytkkjlmcnfoncdaa.Aw
open Go Go.RowKit Go.ChangeShapes Go.WideShapes
end Go.Proofs.Ytkkjlmcnfoncdaa.Aw

namespace Go.Proofs.Ytkkjlmcnfoncdaa.Aw
open Go Go.RowKit
theorem Zd {p : Prop} (h : p := by (((try simp only [zn]) <;> (try simp (disch := omega) only [zz hA, zb, zy, reduceCtorEq, Bool.false_eq_true, Int.reduceLT, Int.reduceLE, Int.reduceNeg]) <;> (try simp only [zw])) <;> omega)) : p := h
theorem Zc {p : Prop} (h : p := by conv => lhs; cbv) : p := h
theorem Zk {p : Prop} (h : p := by repeat' (first | exact subE.nil | refine subE.cons rfl ?_)) : p := h
theorem Zt {p : Prop} (h : p := by repeat' (first | exact trimOk.nil | refine trimOk.same ?_ | refine trimOk.turn rfl ?_)) : p := h
theorem Z1 {p : Prop} (h : p := by first | exact One.elemM hA tabOk rfl rfl rfl rfl Zd Zd | exact One.elemOwnM hA tabOk rfl rfl rfl rfl rfl Zd Zd) : p := h
theorem Z2 {p : Prop} (h : p := by first | exact One.clipM tabOk rfl rfl rfl rfl rfl Zd Zd | exact One.cut_hM hA tabOk rfl rfl rfl rfl Zd Zd | exact One.cut_lM hA tabOk rfl rfl rfl rfl Zd Zd | exact One.cut_lhM hA tabOk rfl rfl rfl rfl rfl Zd Zd Zd) : p := h
theorem Z3 {p : Prop} (h : p := by first | exact One.quoM hA rfl rfl rfl Zd) : p := h
theorem Z4 {p : Prop} (h : p := by first | exact One.remM hA rfl rfl rfl Zd) : p := h
theorem Z6 {p : Prop} (h : p := by first | exact One.bitsM hA rfl rfl rfl rfl) : p := h
theorem Z7 {p : Prop} (h : p := by first | exact One.concatM hA rfl rfl rfl Zd) : p := h
theorem Z8 {p : Prop} (h : p := by first | exact One.eqBoolM hA tabOk rfl rfl rfl rfl rfl) : p := h
theorem Z9 {p : Prop} (h : p := by first | exact One.neBoolM hA tabOk rfl rfl rfl rfl rfl) : p := h
theorem Z10 {p : Prop} (h : p := by first | exact One.lenOwnM hA tabOk rfl rfl rfl rfl) : p := h
theorem Z11 {p : Prop} (h : p := by first | exact One.appendM hA tabOk _ rfl rfl rfl rfl rfl rfl Zd Zd | exact One.appendMM hA tabOk rfl rfl rfl rfl rfl Zd Zd | exact One.appendOwnM hA tabOk _ rfl rfl rfl rfl rfl rfl rfl Zd Zd | exact One.appendOwnMM hA tabOk rfl rfl rfl rfl rfl rfl Zd Zd | exact One.appendOwn0 hA tabOk rfl rfl rfl rfl rfl rfl Zd Zd) : p := h
theorem Z13 {p : Prop} (h : p := by first | exact One.byteM hA tabOk rfl rfl rfl rfl rfl Zd Zd) : p := h
theorem Z14 {p : Prop} (h : p := by first | exact One.loadRatM hA tabOk rfl rfl rfl rfl rfl rfl Zd) : p := h
theorem Z15 {p : Prop} (h : p := by first | exact One.storeRatM hA tabOk _ rfl rfl rfl rfl rfl rfl rfl rfl (fun _ => rfl) Zd) : p := h
theorem Z16 {p : Prop} (h : p := by first | exact One.makeM hA tabOk encI 0 rfl rfl rfl rfl rfl rfl rfl Zd Zd Zd) : p := h
theorem Z17 {p : Prop} (h : p := by first | exact One.build0 tabOk rfl rfl) : p := h
theorem Z18 {p : Prop} (h : p := by first | exact One.fieldRat tabOk rfl rfl rfl rfl (by decide) rfl rfl) : p := h
theorem ZX {p : Prop} (h : p := by first | exact One.elemM hA tabOk rfl rfl rfl rfl Zd Zd | exact One.elemOwnM hA tabOk rfl rfl rfl rfl rfl Zd Zd | exact One.cut_hM hA tabOk rfl rfl rfl rfl Zd Zd | exact One.cut_lM hA tabOk rfl rfl rfl rfl Zd Zd | exact One.cut_lhM hA tabOk rfl rfl rfl rfl rfl Zd Zd Zd | exact One.byteM hA tabOk rfl rfl rfl rfl rfl Zd Zd | exact One.quoM hA rfl rfl rfl Zd | exact One.remM hA rfl rfl rfl Zd | exact One.lenOwnM hA tabOk rfl rfl rfl rfl | exact One.loadRatM hA tabOk rfl rfl rfl rfl rfl rfl Zd | exact One.concatM hA rfl rfl rfl Zd) : p := h
theorem Ze {p : Prop} (h : p := by first | (exfalso; omega) | (refine rPV_then Zc ?_; rfl) | (refine rPV_then Zc ?_; refine congrArg (fun b => PV.c (IC.lit (Value.bool b))) ?_; ((try simp only [zn]) <;> (try simp (disch := omega) only [zz hA, zb, zy, reduceCtorEq, Bool.false_eq_true, Int.reduceLT, Int.reduceLE, Int.reduceNeg]) <;> (try simp only [zw])); done) | (refine rPV_then Zc ?_; refine congrArg (fun b => PV.c (IC.lit (Value.bool b))) ?_; ((try simp only [zn]) <;> (try simp (disch := omega) only [zz hA, zb, zy, reduceCtorEq, Bool.false_eq_true, Int.reduceLT, Int.reduceLE, Int.reduceNeg]) <;> (try simp only [zw])); omega)) : p := h
end Go.Proofs.Ytkkjlmcnfoncdaa.Aw

namespace Go.Proofs.Ytkkjlmcnfoncdaa.Aw
open Go Go.RowKit
end Go.Proofs.Ytkkjlmcnfoncdaa.Aw

namespace Go.Proofs.Ytkkjlmcnfoncdaa.Aw
open Go Go.RowKit
section
variable {P : Program} {b : Frame} {a : Act} {k : List Item} {cs : List Frame} {w : World}
theorem stepR_scope {c : Code} : step P (lone (b.atR a (.code (.scope c) :: k)) cs w) = .next (lone (b.atR a (.code c :: .inScope c :: k)) cs w) :=
  step_lone_go (by simp [stepG, stepG.exec, Frame.atR])
theorem stepR_inScope {c : Code} : step P (lone (b.atR a (.inScope c :: k)) cs w) = .next (lone (b.atR a k) cs w) :=
  step_lone_go (by simp [stepG, stepG.exec, Frame.atR])
end
def NoGo (Q : Exit → Act → World → Prop) : Exit → Act → World → Prop
  | .goto _, _, _ => False
  | e, a, w => Q e a w
theorem wpIn_scope {F : Fence} {n : Nat} {P : Program} {Q : Exit → Act → World → Prop} {a : Act} {w : World} {c : Code} (h : c.wpIn F n P (NoGo Q) a w) : (Code.scope c).wpIn F n P Q a w := by
  intro b k cs hro hb hr
  have h0 : (lone (b.atR a (.code (.scope c) :: k)) cs w).fenced P F := fenced_calm hb hr rfl
  obtain ⟨e, a₁, w₁, hq, harr⟩ := h b (.inScope c :: k) cs hro hb hr
  cases e with
  | normal => exact ⟨.normal, a₁, w₁, hq, .head h0 stepR_scope (StepsIn.trans harr (.one (fenced_calm hb hr rfl) stepR_inScope))⟩
  | exit id' =>
    have hx : exitTo id' (.inScope c :: k) = exitTo id' k := by simp [exitTo]
    exact ⟨.exit id', a₁, w₁, hq, fun k' hk => .head h0 stepR_scope (harr.1 k' (by rw [hx]; exact hk)),
      fun hr' hk => let ⟨k₁, h1, h2⟩ := harr.2 hr' (by rw [hx]; exact hk); ⟨k₁, h1, .head h0 stepR_scope h2⟩⟩
  | goto l => exact hq.elim
  | ret => exact ⟨_, a₁, w₁, hq, .of_steps (.one h0 stepR_scope) harr⟩
  | panic ch => exact ⟨_, a₁, w₁, hq, .of_steps (.one h0 stepR_scope) harr⟩
  | outgrown => exact ⟨_, a₁, w₁, hq, .of_steps (.one h0 stepR_scope) harr⟩
def NoGoS (Q : Exit → St → Prop) : Exit → St → Prop
  | .goto _, _ => False
  | e, s => Q e s
theorem AWp.scope {r : Option Nat} {P : Program} {s : St} {Q : Exit → St → Prop} {c : Code} (h : AWp r P c s (NoGoS Q)) : AWp r P (.scope c) s Q := fun G g w a B QQ hr hB hd k => by
  refine wpIn_scope (h G g w a B _ hr hB hd fun e s' g' w' a' q hr' he hd' => ?_)
  cases e with
  | goto l => exact q.elim
  | _ => exact k _ s' g' w' a' q hr' he hd'
theorem NoGoS.exit {Q : Exit → St → Prop} {i : Nat} {s : St} (h : Q (.exit i) s) : NoGoS Q (.exit i) s := h
theorem NoGoS.normal {Q : Exit → St → Prop} {s : St} (h : Q .normal s) : NoGoS Q .normal s := h
theorem NoGoS.ret {Q : Exit → St → Prop} {s : St} (h : Q .ret s) : NoGoS Q .ret s := h
end Go.Proofs.Ytkkjlmcnfoncdaa.Aw

namespace Go.Proofs.Ytkkjlmcnfoncdaa.Aw
open Go Go.RowKit
set_option maxRecDepth 10000
attribute [local irreducible] AWp AOL QS One AOLg QSg NX QX TRg TX AllO Fin3
theorem stepB {p : Nat → Bool} {k : Nat} (h : ∀ i, i < k → p i = true) (hk : p k = true) : ∀ i, i < k + 1 → p i = true := fun i hi => by
  rcases Nat.lt_or_ge i k with h1 | h1
  · exact h i h1
  · obtain rfl : i = k := by omega
    exact hk
def smallM (c : Int) : Bool := decide (97 ≤ c) && decide (c ≤ 122)
def bigM (c : Int) : Bool := decide (65 ≤ c) && decide (c ≤ 90)
def figM (c : Int) : Bool := (decide (48 ≤ c) && decide (c ≤ 57)) || decide (c = 95)
def nameOk (s : ByteArray) (i : Nat) : Bool := (smallM (sb s i) || bigM (sb s i)) || (!decide (i = 0) && figM (sb s i))
def nameM (s : ByteArray) : Bool := decide (1 ≤ s.size) && decide (s.size ≤ 20) && allB s.size (nameOk s)
def conM (s : ByteArray) : Bool := nameM s && smallM (sb s 0)
def varM (s : ByteArray) : Bool := nameM s && bigM (sb s 0)
def partOk (s : ByteArray) (i : Nat) : Bool := decide (sb s i = 43) || decide (sb s i = 45) || decide (sb s i = 61)
def argsM (s : ByteArray) : Bool := allB s.size (partOk s) && decide (s.size ≤ 8)
abbrev Sg := ByteArray × ByteArray
def sgN (n : Sg) : ByteArray := n.1
def sgA (n : Sg) : ByteArray := n.2
def encG (A : Ar) (n : Sg) : List IC := [.lit (.string (hid A (sgN n))), .lit (.string (hid A (sgA n)))]
def findG (l : List Sg) (s : ByteArray) : Int := idxB l.length fun i => eqS (sgN (l.getD i default)) s
def sigOk (l : List Sg) (i : Nat) : Bool := (conM (sgN (l.getD i default)) && argsM (sgA (l.getD i default))) && decide ((i : Int) ≤ findG l (sgN (l.getD i default)))
def rightG (l : List Sg) : Bool := allB l.length (sigOk l) && decide (l.length ≤ 64)
variable {A : Ar} (hA : A = real)
include hA
theorem small_c (c : Int) : PureCalls Try.prog 100 [UP c] (BP (hid A (smallM c))) := by
  refine PureCalls.of Try.func100 rfl (by kernel_rfl) rfl ?_
  try first | refine AOLg.of [] ?_ | refine QSg.of [] ?_
  repeat' (first | (refine AWp.pass ?_; first | refine AWp.seq ?_ | refine AWp.block ?_ | refine AWp.skip ?_ | refine AWp.regG [] Zc ?_ | refine AWp.cond_t rfl ?_ | refine AWp.cond_f rfl ?_ | (refine AWp.cond rfl ?_ ?_ <;> intro hc <;> (try rw [hc]) <;> ((try simp only [zn] at hc) <;> (try simp (disch := omega) only [zz hA, zb, zy, reduceCtorEq, Bool.false_eq_true, Int.reduceLT, Int.reduceLE, Int.reduceNeg] at hc) <;> (try simp only [zw] at hc)) <;> (try (exfalso; omega))) | refine AWp.exit ?_ | refine AWp.ret ⟨.inr rfl, _, RetOk.ev tabOk Zc, ?_⟩) | (refine AOLg.pass ?_; refine AOLg.nx hA tabOk Zc ?_; first | refine NX.done ?_ | refine NX.gt ?_ | refine NX.gf ?_ | (refine NX.gs ?_ ?_ <;> intro hc <;> rw [hc] <;> ((try simp only [zn] at hc) <;> (try simp (disch := omega) only [zz hA, zb, zy, reduceCtorEq, Bool.false_eq_true, Int.reduceLT, Int.reduceLE, Int.reduceNeg] at hc) <;> (try simp only [zw] at hc)) <;> (try (exfalso; omega))) | refine NX.raw ?_) | refine Thn.exit ?_ | refine Blk.here ?_ | refine Blk.other (by decide) ?_ | refine ⟨.inl rfl, _, RetOk.ev tabOk Zc, ?_⟩ | fail)
  all_goals (refine rPV_then (by conv => lhs; cbv) ?_; refine congrArg (fun b => PV.c (IC.lit (Value.bool b))) ?_; rw [Bool.eq_iff_iff]; (try simp only [zn]); (try simp (disch := omega) only [zz hA, zb, zy, reduceCtorEq, Bool.false_eq_true, Int.reduceLT, Int.reduceLE, Int.reduceNeg, smallM, Bool.and_eq_true, Bool.or_eq_true, Bool.not_eq_true, decide_eq_true_eq, decide_eq_false_iff_not, true_iff, iff_true, false_iff, iff_false, and_true, true_and, or_true, true_or, and_false, false_and, or_false, false_or, not_true_eq_false, not_false_eq_true]); first | done | omega)
theorem big_c (c : Int) : PureCalls Try.prog 126 [UP c] (BP (hid A (bigM c))) := by
  refine PureCalls.of Try.func126 rfl (by kernel_rfl) rfl ?_
  try first | refine AOLg.of [] ?_ | refine QSg.of [] ?_
  repeat' (first | (refine AWp.pass ?_; first | refine AWp.seq ?_ | refine AWp.block ?_ | refine AWp.skip ?_ | refine AWp.regG [] Zc ?_ | refine AWp.cond_t rfl ?_ | refine AWp.cond_f rfl ?_ | (refine AWp.cond rfl ?_ ?_ <;> intro hc <;> (try rw [hc]) <;> ((try simp only [zn] at hc) <;> (try simp (disch := omega) only [zz hA, zb, zy, reduceCtorEq, Bool.false_eq_true, Int.reduceLT, Int.reduceLE, Int.reduceNeg] at hc) <;> (try simp only [zw] at hc)) <;> (try (exfalso; omega))) | refine AWp.exit ?_ | refine AWp.ret ⟨.inr rfl, _, RetOk.ev tabOk Zc, ?_⟩) | (refine AOLg.pass ?_; refine AOLg.nx hA tabOk Zc ?_; first | refine NX.done ?_ | refine NX.gt ?_ | refine NX.gf ?_ | (refine NX.gs ?_ ?_ <;> intro hc <;> rw [hc] <;> ((try simp only [zn] at hc) <;> (try simp (disch := omega) only [zz hA, zb, zy, reduceCtorEq, Bool.false_eq_true, Int.reduceLT, Int.reduceLE, Int.reduceNeg] at hc) <;> (try simp only [zw] at hc)) <;> (try (exfalso; omega))) | refine NX.raw ?_) | refine Thn.exit ?_ | refine Blk.here ?_ | refine Blk.other (by decide) ?_ | refine ⟨.inl rfl, _, RetOk.ev tabOk Zc, ?_⟩ | fail)
  all_goals (refine rPV_then (by conv => lhs; cbv) ?_; refine congrArg (fun b => PV.c (IC.lit (Value.bool b))) ?_; rw [Bool.eq_iff_iff]; (try simp only [zn]); (try simp (disch := omega) only [zz hA, zb, zy, reduceCtorEq, Bool.false_eq_true, Int.reduceLT, Int.reduceLE, Int.reduceNeg, bigM, Bool.and_eq_true, Bool.or_eq_true, Bool.not_eq_true, decide_eq_true_eq, decide_eq_false_iff_not, true_iff, iff_true, false_iff, iff_false, and_true, true_and, or_true, true_or, and_false, false_and, or_false, false_or, not_true_eq_false, not_false_eq_true]); first | done | omega)
theorem name_c (s : ByteArray) : PureCalls Try.prog 99 [SP s] (BP (hid A (nameM s))) := by
  refine PureCalls.of Try.func99 rfl (by kernel_rfl) rfl ?_
  try first | refine AOLg.of [] ?_ | refine QSg.of [] ?_
  repeat' (first | (refine AWp.pass ?_; first | refine AWp.seq ?_ | refine AWp.block ?_ | refine AWp.skip ?_ | refine AWp.regG [] Zc ?_ | refine AWp.cond_t rfl ?_ | refine AWp.cond_f rfl ?_ | (refine AWp.cond rfl ?_ ?_ <;> intro hc <;> (try rw [hc]) <;> ((try simp only [zn] at hc) <;> (try simp (disch := omega) only [zz hA, zb, zy, reduceCtorEq, Bool.false_eq_true, Int.reduceLT, Int.reduceLE, Int.reduceNeg] at hc) <;> (try simp only [zw] at hc)) <;> (try (exfalso; omega))) | refine AWp.exit ?_ | refine AWp.ret ⟨.inr rfl, _, RetOk.ev tabOk Zc, ?_⟩) | (refine AOLg.pass ?_; refine AOLg.nx hA tabOk Zc ?_; first | refine NX.done ?_ | refine NX.gt ?_ | refine NX.gf ?_ | (refine NX.gs ?_ ?_ <;> intro hc <;> rw [hc] <;> ((try simp only [zn] at hc) <;> (try simp (disch := omega) only [zz hA, zb, zy, reduceCtorEq, Bool.false_eq_true, Int.reduceLT, Int.reduceLE, Int.reduceNeg] at hc) <;> (try simp only [zw] at hc)) <;> (try (exfalso; omega))) | refine NX.k 7 (NX.one Z7 ?_) | refine NX.k 8 (NX.one Z8 ?_) | refine NX.k 10 (NX.one Z10 ?_) | refine NX.k 13 (NX.one Z13 ?_) | refine NX.raw ?_) | refine Thn.exit ?_ | refine Blk.here ?_ | refine Blk.other (by decide) ?_ | refine ⟨.inl rfl, _, RetOk.ev tabOk Zc, ?_⟩ | fail)
  · (refine rPV_then (by conv => lhs; cbv) ?_; refine congrArg (fun b => PV.c (IC.lit (Value.bool b))) ?_; rw [Bool.eq_iff_iff]; (try simp only [zn]); (try simp (disch := omega) only [zz hA, zb, zy, reduceCtorEq, Bool.false_eq_true, Int.reduceLT, Int.reduceLE, Int.reduceNeg, nameM, Bool.and_eq_true, Bool.or_eq_true, Bool.not_eq_true, decide_eq_true_eq, decide_eq_false_iff_not, true_iff, iff_true, false_iff, iff_false, and_true, true_and, or_true, true_or, and_false, false_and, or_false, false_or, not_true_eq_false, not_false_eq_true]); first | done | omega)
  · (refine rPV_then (by conv => lhs; cbv) ?_; refine congrArg (fun b => PV.c (IC.lit (Value.bool b))) ?_; rw [Bool.eq_iff_iff]; (try simp only [zn]); (try simp (disch := omega) only [zz hA, zb, zy, reduceCtorEq, Bool.false_eq_true, Int.reduceLT, Int.reduceLE, Int.reduceNeg, nameM, Bool.and_eq_true, Bool.or_eq_true, Bool.not_eq_true, decide_eq_true_eq, decide_eq_false_iff_not, true_iff, iff_true, false_iff, iff_false, and_true, true_and, or_true, true_or, and_false, false_and, or_false, false_or, not_true_eq_false, not_false_eq_true]); first | done | omega)
  rename_i hs1
  refine AWp.loopU (fun k : Nat => [(3, .ic (.lit (.int .i64 (hid A (cN k)))))]) (fun _ => []) (fun k => s.size - k) (fun k => k ≤ s.size ∧ ∀ i, i < k → nameOk s i = true) 0 (by conv => lhs; cbv) ⟨Nat.zero_le _, by simp⟩ (by (repeat' (first | exact subE.nil | refine subE.cons rfl ?_ | refine subE.int rfl ?_ ?_ | refine subE.bool rfl ?_ ?_ | refine subE.str rfl ?_ ?_ | refine subE.sl rfl ?_ ?_)) <;> simp [hA, real, hid, cN]) rfl ?_
  rintro k ⟨hk, hok⟩
  by_cases hlt : k < s.size
  · have hno : nameOk s k = false → nameM s = false := fun h => by unfold nameM; rw [allB_f hlt h, Bool.and_false]
    try first | refine AOLg.of [] ?_ | refine QSg.of [] ?_
    repeat' (first | (refine AWp.pass ?_; first | refine AWp.seq ?_ | refine AWp.block ?_ | refine AWp.skip ?_ | refine AWp.regG [] Zc ?_ | refine AWp.cond_t rfl ?_ | refine AWp.cond_f rfl ?_ | (refine AWp.cond rfl ?_ ?_ <;> intro hc <;> (try rw [hc]) <;> ((try simp only [zn] at hc) <;> (try simp (disch := omega) only [zz hA, zb, zy, reduceCtorEq, Bool.false_eq_true, Int.reduceLT, Int.reduceLE, Int.reduceNeg] at hc) <;> (try simp only [zw] at hc)) <;> (try (exfalso; omega))) | refine AWp.exit ?_ | refine AWp.ret ⟨.inr rfl, _, RetOk.ev tabOk Zc, ?_⟩) | (refine AOLg.pass ?_; refine AOLg.nx hA tabOk Zc ?_; first | refine NX.done ?_ | refine NX.gt ?_ | refine NX.gf ?_ | (refine NX.gs ?_ ?_ <;> intro hc <;> rw [hc] <;> ((try simp only [zn] at hc) <;> (try simp (disch := omega) only [zz hA, zb, zy, reduceCtorEq, Bool.false_eq_true, Int.reduceLT, Int.reduceLE, Int.reduceNeg] at hc) <;> (try simp only [zw] at hc)) <;> (try (exfalso; omega))) | (refine NX.kC ?_; first | (with_reducible refine NX.call (small_c hA _) ?_) | (with_reducible refine NX.call (big_c hA _) ?_) | ((first | refine NX.call (small_c hA _) ?_ | refine NX.call (big_c hA _) ?_)) | fail) | (refine NX.kO ?_; (first | refine NX.callO (small_c hA _) (by simp [allEq]) rfl ?_ | refine NX.callO (big_c hA _) (by simp [allEq]) rfl ?_)) | refine NX.k 7 (NX.one Z7 ?_) | refine NX.k 8 (NX.one Z8 ?_) | refine NX.k 10 (NX.one Z10 ?_) | refine NX.k 13 (NX.one Z13 ?_) | refine NX.raw ?_) | refine Thn.exit ?_ | refine Blk.here ?_ | refine Blk.other (by decide) ?_ | refine ⟨.inl rfl, _, RetOk.ev tabOk Zc, ?_⟩ | fail)
    all_goals first
      | (refine rPV_then (by conv => lhs; cbv) ?_
         rw [hno (by grind [nameOk, figM])]
         simp [hid_eq hA]; done)
      | skip
    all_goals
      refine ⟨k + 1, ?_, ?_, rfl, rfl, ?_, Zk⟩ <;> (try omega)
      repeat' (first | exact subE.nil | refine subE.cons rfl ?_ | refine subE.int rfl ?_ ?_ | refine subE.bool rfl ?_ ?_ | refine subE.str rfl ?_ ?_ | refine subE.sl rfl ?_ ?_)
    all_goals first
      | exact ⟨by omega, stepB hok (by grind [nameOk, figM])⟩
      | exact Zd
  · have hyes : nameM s = true := by
      unfold nameM
      rw [allB_t fun i hi => hok i (by omega), decide_eq_true (p := 1 ≤ s.size) (by omega), decide_eq_true (p := s.size ≤ 20) (by omega)]; rfl
    try first | refine AOLg.of [] ?_ | refine QSg.of [] ?_
    repeat' (first | (refine AWp.pass ?_; first | refine AWp.seq ?_ | refine AWp.block ?_ | refine AWp.skip ?_ | refine AWp.regG [] Zc ?_ | refine AWp.cond_t rfl ?_ | refine AWp.cond_f rfl ?_ | (refine AWp.cond rfl ?_ ?_ <;> intro hc <;> (try rw [hc]) <;> ((try simp only [zn] at hc) <;> (try simp (disch := omega) only [zz hA, zb, zy, reduceCtorEq, Bool.false_eq_true, Int.reduceLT, Int.reduceLE, Int.reduceNeg] at hc) <;> (try simp only [zw] at hc)) <;> (try (exfalso; omega))) | refine AWp.exit ?_ | refine AWp.ret ⟨.inr rfl, _, RetOk.ev tabOk Zc, ?_⟩) | (refine AOLg.pass ?_; refine AOLg.nx hA tabOk Zc ?_; first | refine NX.done ?_ | refine NX.gt ?_ | refine NX.gf ?_ | (refine NX.gs ?_ ?_ <;> intro hc <;> rw [hc] <;> ((try simp only [zn] at hc) <;> (try simp (disch := omega) only [zz hA, zb, zy, reduceCtorEq, Bool.false_eq_true, Int.reduceLT, Int.reduceLE, Int.reduceNeg] at hc) <;> (try simp only [zw] at hc)) <;> (try (exfalso; omega))) | refine NX.k 7 (NX.one Z7 ?_) | refine NX.k 8 (NX.one Z8 ?_) | refine NX.k 10 (NX.one Z10 ?_) | refine NX.k 13 (NX.one Z13 ?_) | refine NX.raw ?_) | refine Thn.exit ?_ | refine Blk.here ?_ | refine Blk.other (by decide) ?_ | refine ⟨.inl rfl, _, RetOk.ev tabOk Zc, ?_⟩ | fail)
    all_goals (refine rPV_then (by conv => lhs; cbv) ?_; refine congrArg (fun b => PV.c (IC.lit (Value.bool b))) ?_; rw [Bool.eq_iff_iff]; (try simp only [zn]); (try simp (disch := omega) only [zz hA, zb, zy, reduceCtorEq, Bool.false_eq_true, Int.reduceLT, Int.reduceLE, Int.reduceNeg, hyes, Bool.and_eq_true, Bool.or_eq_true, Bool.not_eq_true, decide_eq_true_eq, decide_eq_false_iff_not, true_iff, iff_true, false_iff, iff_false, and_true, true_and, or_true, true_or, and_false, false_and, or_false, false_or, not_true_eq_false, not_false_eq_true]); first | done | omega)
theorem con_c (s : ByteArray) : PureCalls Try.prog 74 [SP s] (BP (hid A (conM s))) := by
  refine PureCalls.of Try.func74 rfl (by kernel_rfl) rfl ?_
  by_cases hn : nameM s = true
  · have h1 : 1 ≤ s.size := by unfold nameM at hn; simp only [Bool.and_eq_true, decide_eq_true_eq] at hn; omega
    try first | refine AOLg.of [] ?_ | refine QSg.of [] ?_
    repeat' (first | (refine AWp.pass ?_; first | refine AWp.seq ?_ | refine AWp.block ?_ | refine AWp.skip ?_ | refine AWp.regG [] Zc ?_ | refine AWp.cond_t rfl ?_ | refine AWp.cond_f rfl ?_ | (refine AWp.cond rfl ?_ ?_ <;> intro hc <;> (try rw [hc]) <;> ((try simp only [zn] at hc) <;> (try simp (disch := omega) only [zz hA, zb, zy, reduceCtorEq, Bool.false_eq_true, Int.reduceLT, Int.reduceLE, Int.reduceNeg] at hc) <;> (try simp only [zw] at hc)) <;> (try (exfalso; omega))) | refine AWp.exit ?_ | refine AWp.ret ⟨.inr rfl, _, RetOk.ev tabOk Zc, ?_⟩) | (refine AOLg.pass ?_; refine AOLg.nx hA tabOk Zc ?_; first | refine NX.done ?_ | refine NX.gt ?_ | refine NX.gf ?_ | (refine NX.gs ?_ ?_ <;> intro hc <;> rw [hc] <;> ((try simp only [zn] at hc) <;> (try simp (disch := omega) only [zz hA, zb, zy, reduceCtorEq, Bool.false_eq_true, Int.reduceLT, Int.reduceLE, Int.reduceNeg] at hc) <;> (try simp only [zw] at hc)) <;> (try (exfalso; omega))) | (refine NX.kC ?_; first | (with_reducible refine NX.call (name_c hA _) ?_) | (with_reducible refine NX.call (small_c hA _) ?_) | ((first | refine NX.call (name_c hA _) ?_ | refine NX.call (small_c hA _) ?_)) | fail) | (refine NX.kO ?_; (first | refine NX.callO (name_c hA _) (by simp [allEq]) rfl ?_ | refine NX.callO (small_c hA _) (by simp [allEq]) rfl ?_)) | refine NX.k 13 (NX.one Z13 ?_) | refine NX.raw ?_) | refine Thn.exit ?_ | refine Blk.here ?_ | refine Blk.other (by decide) ?_ | refine ⟨.inl rfl, _, RetOk.ev tabOk Zc, ?_⟩ | fail)
    all_goals first
      | (exfalso; simp_all; done)
      | (refine rPV_then (by conv => lhs; cbv) ?_
         simp [hid_eq hA, conM, hn]; done)
  · try first | refine AOLg.of [] ?_ | refine QSg.of [] ?_
    repeat' (first | (refine AWp.pass ?_; first | refine AWp.seq ?_ | refine AWp.block ?_ | refine AWp.skip ?_ | refine AWp.regG [] Zc ?_ | refine AWp.cond_t rfl ?_ | refine AWp.cond_f rfl ?_ | (refine AWp.cond rfl ?_ ?_ <;> intro hc <;> (try rw [hc]) <;> ((try simp only [zn] at hc) <;> (try simp (disch := omega) only [zz hA, zb, zy, reduceCtorEq, Bool.false_eq_true, Int.reduceLT, Int.reduceLE, Int.reduceNeg] at hc) <;> (try simp only [zw] at hc)) <;> (try (exfalso; omega))) | refine AWp.exit ?_ | refine AWp.ret ⟨.inr rfl, _, RetOk.ev tabOk Zc, ?_⟩) | (refine AOLg.pass ?_; refine AOLg.nx hA tabOk Zc ?_; first | refine NX.done ?_ | refine NX.gt ?_ | refine NX.gf ?_ | (refine NX.gs ?_ ?_ <;> intro hc <;> rw [hc] <;> ((try simp only [zn] at hc) <;> (try simp (disch := omega) only [zz hA, zb, zy, reduceCtorEq, Bool.false_eq_true, Int.reduceLT, Int.reduceLE, Int.reduceNeg] at hc) <;> (try simp only [zw] at hc)) <;> (try (exfalso; omega))) | (refine NX.kC ?_; first | (with_reducible refine NX.call (name_c hA _) ?_) | ((first | refine NX.call (name_c hA _) ?_)) | fail) | (refine NX.kO ?_; (first | refine NX.callO (name_c hA _) (by simp [allEq]) rfl ?_)) | refine NX.k 13 (NX.one Z13 ?_) | refine NX.raw ?_) | refine Thn.exit ?_ | refine Blk.here ?_ | refine Blk.other (by decide) ?_ | refine ⟨.inl rfl, _, RetOk.ev tabOk Zc, ?_⟩ | fail)
    all_goals first
      | (exfalso; simp_all; done)
      | (refine rPV_then (by conv => lhs; cbv) ?_
         simp [hid_eq hA, conM, hn]; done)
theorem args_c (s : ByteArray) (hs : s.size ≤ 1000000000000000) : PureCalls Try.prog 75 [SP s] (BP (hid A (argsM s))) := by
  refine PureCalls.of Try.func75 rfl (by kernel_rfl) rfl ?_
  try first | refine AOLg.of [] ?_ | refine QSg.of [] ?_
  repeat' (first | (refine AWp.pass ?_; first | refine AWp.seq ?_ | refine AWp.block ?_ | refine AWp.skip ?_ | refine AWp.regG [] Zc ?_ | refine AWp.cond_t rfl ?_ | refine AWp.cond_f rfl ?_ | (refine AWp.cond rfl ?_ ?_ <;> intro hc <;> (try rw [hc]) <;> ((try simp only [zn] at hc) <;> (try simp (disch := omega) only [zz hA, zb, zy, reduceCtorEq, Bool.false_eq_true, Int.reduceLT, Int.reduceLE, Int.reduceNeg] at hc) <;> (try simp only [zw] at hc)) <;> (try (exfalso; omega))) | refine AWp.exit ?_ | refine AWp.ret ⟨.inr rfl, _, RetOk.ev tabOk Zc, ?_⟩) | (refine AOLg.pass ?_; refine AOLg.nx hA tabOk Zc ?_; first | refine NX.done ?_ | refine NX.gt ?_ | refine NX.gf ?_ | (refine NX.gs ?_ ?_ <;> intro hc <;> rw [hc] <;> ((try simp only [zn] at hc) <;> (try simp (disch := omega) only [zz hA, zb, zy, reduceCtorEq, Bool.false_eq_true, Int.reduceLT, Int.reduceLE, Int.reduceNeg] at hc) <;> (try simp only [zw] at hc)) <;> (try (exfalso; omega))) | refine NX.k 7 (NX.one Z7 ?_) | refine NX.k 9 (NX.one Z9 ?_) | refine NX.k 10 (NX.one Z10 ?_) | refine NX.k 13 (NX.one Z13 ?_) | refine NX.raw ?_) | refine Thn.exit ?_ | refine Blk.here ?_ | refine Blk.other (by decide) ?_ | refine ⟨.inl rfl, _, RetOk.ev tabOk Zc, ?_⟩ | fail)
  refine AWp.loopU (fun k : Nat => [(3, .ic (.lit (.int .i64 (hid A (cN k)))))]) (fun _ => []) (fun k => s.size - k) (fun k => k ≤ s.size ∧ ∀ i, i < k → partOk s i = true) 0 (by conv => lhs; cbv) ⟨Nat.zero_le _, by simp⟩ (by (repeat' (first | exact subE.nil | refine subE.cons rfl ?_ | refine subE.int rfl ?_ ?_ | refine subE.bool rfl ?_ ?_ | refine subE.str rfl ?_ ?_ | refine subE.sl rfl ?_ ?_)) <;> simp [hA, real, hid, cN]) rfl ?_
  rintro k ⟨hk, hok⟩
  by_cases hlt : k < s.size
  · have hno : partOk s k = false → argsM s = false := fun h => by unfold argsM; rw [allB_f hlt h, Bool.false_and]
    try first | refine AOLg.of [] ?_ | refine QSg.of [] ?_
    repeat' (first | (refine AWp.pass ?_; first | refine AWp.seq ?_ | refine AWp.block ?_ | refine AWp.skip ?_ | refine AWp.regG [] Zc ?_ | refine AWp.cond_t rfl ?_ | refine AWp.cond_f rfl ?_ | (refine AWp.cond rfl ?_ ?_ <;> intro hc <;> (try rw [hc]) <;> ((try simp only [zn] at hc) <;> (try simp (disch := omega) only [zz hA, zb, zy, reduceCtorEq, Bool.false_eq_true, Int.reduceLT, Int.reduceLE, Int.reduceNeg] at hc) <;> (try simp only [zw] at hc)) <;> (try (exfalso; omega))) | refine AWp.exit ?_ | refine AWp.ret ⟨.inr rfl, _, RetOk.ev tabOk Zc, ?_⟩) | (refine AOLg.pass ?_; refine AOLg.nx hA tabOk Zc ?_; first | refine NX.done ?_ | refine NX.gt ?_ | refine NX.gf ?_ | (refine NX.gs ?_ ?_ <;> intro hc <;> rw [hc] <;> ((try simp only [zn] at hc) <;> (try simp (disch := omega) only [zz hA, zb, zy, reduceCtorEq, Bool.false_eq_true, Int.reduceLT, Int.reduceLE, Int.reduceNeg] at hc) <;> (try simp only [zw] at hc)) <;> (try (exfalso; omega))) | refine NX.k 7 (NX.one Z7 ?_) | refine NX.k 9 (NX.one Z9 ?_) | refine NX.k 10 (NX.one Z10 ?_) | refine NX.k 13 (NX.one Z13 ?_) | refine NX.raw ?_) | refine Thn.exit ?_ | refine Blk.here ?_ | refine Blk.other (by decide) ?_ | refine ⟨.inl rfl, _, RetOk.ev tabOk Zc, ?_⟩ | fail)
    all_goals first
      | (refine rPV_then (by conv => lhs; cbv) ?_
         rw [hno (by grind [partOk])]
         simp [hid_eq hA]; done)
      | skip
    all_goals
      refine ⟨k + 1, ?_, ?_, rfl, rfl, ?_, Zk⟩ <;> (try omega)
      repeat' (first | exact subE.nil | refine subE.cons rfl ?_ | refine subE.int rfl ?_ ?_ | refine subE.bool rfl ?_ ?_ | refine subE.str rfl ?_ ?_ | refine subE.sl rfl ?_ ?_)
    all_goals first
      | exact ⟨by omega, stepB hok (by grind [partOk])⟩
      | exact Zd
  · have hyes : argsM s = decide (s.size ≤ 8) := by
      unfold argsM
      rw [allB_t fun i hi => hok i (by omega)]; rfl
    try first | refine AOLg.of [] ?_ | refine QSg.of [] ?_
    repeat' (first | (refine AWp.pass ?_; first | refine AWp.seq ?_ | refine AWp.block ?_ | refine AWp.skip ?_ | refine AWp.regG [] Zc ?_ | refine AWp.cond_t rfl ?_ | refine AWp.cond_f rfl ?_ | (refine AWp.cond rfl ?_ ?_ <;> intro hc <;> (try rw [hc]) <;> ((try simp only [zn] at hc) <;> (try simp (disch := omega) only [zz hA, zb, zy, reduceCtorEq, Bool.false_eq_true, Int.reduceLT, Int.reduceLE, Int.reduceNeg] at hc) <;> (try simp only [zw] at hc)) <;> (try (exfalso; omega))) | refine AWp.exit ?_ | refine AWp.ret ⟨.inr rfl, _, RetOk.ev tabOk Zc, ?_⟩) | (refine AOLg.pass ?_; refine AOLg.nx hA tabOk Zc ?_; first | refine NX.done ?_ | refine NX.gt ?_ | refine NX.gf ?_ | (refine NX.gs ?_ ?_ <;> intro hc <;> rw [hc] <;> ((try simp only [zn] at hc) <;> (try simp (disch := omega) only [zz hA, zb, zy, reduceCtorEq, Bool.false_eq_true, Int.reduceLT, Int.reduceLE, Int.reduceNeg] at hc) <;> (try simp only [zw] at hc)) <;> (try (exfalso; omega))) | refine NX.k 7 (NX.one Z7 ?_) | refine NX.k 9 (NX.one Z9 ?_) | refine NX.k 10 (NX.one Z10 ?_) | refine NX.k 13 (NX.one Z13 ?_) | refine NX.raw ?_) | refine Thn.exit ?_ | refine Blk.here ?_ | refine Blk.other (by decide) ?_ | refine ⟨.inl rfl, _, RetOk.ev tabOk Zc, ?_⟩ | fail)
    all_goals (refine rPV_then (by conv => lhs; cbv) ?_; refine congrArg (fun b => PV.c (IC.lit (Value.bool b))) ?_; rw [Bool.eq_iff_iff]; (try simp only [zn]); (try simp (disch := omega) only [zz hA, zb, zy, reduceCtorEq, Bool.false_eq_true, Int.reduceLT, Int.reduceLE, Int.reduceNeg, hyes, Bool.and_eq_true, Bool.or_eq_true, Bool.not_eq_true, decide_eq_true_eq, decide_eq_false_iff_not, true_iff, iff_true, false_iff, iff_false, and_true, true_and, or_true, true_or, and_false, false_and, or_false, false_or, not_true_eq_false, not_false_eq_true]); first | done | omega)
theorem find_G (l : List Sg) (s : ByteArray) : PureCalls Try.prog 76 [slP A 2 (encG A) l, SP s] (IP (hid A (findG l s))) := by
  refine PureCalls.lens (by kernel_rfl) fun hlen => ?_
  have hl := lens_ints hA (hlen _ List.mem_cons_self)
  rw [show maxLen = 9223372036854775807 from rfl] at hl
  refine PureCalls.of Try.func76 rfl (by kernel_rfl) rfl ?_
  try first | refine AOLg.of [] ?_ | refine QSg.of [] ?_
  repeat' (first | (refine AWp.pass ?_; first | refine AWp.seq ?_ | refine AWp.block ?_ | refine AWp.skip ?_ | refine AWp.regG [] Zc ?_ | refine AWp.cond_t rfl ?_ | refine AWp.cond_f rfl ?_ | (refine AWp.cond rfl ?_ ?_ <;> intro hc <;> (try rw [hc]) <;> ((try simp only [zn] at hc) <;> (try simp (disch := omega) only [zz hA, zb, zy, reduceCtorEq, Bool.false_eq_true, Int.reduceLT, Int.reduceLE, Int.reduceNeg] at hc) <;> (try simp only [zw] at hc)) <;> (try (exfalso; omega))) | refine AWp.exit ?_ | refine AWp.ret ⟨.inr rfl, _, RetOk.ev tabOk Zc, ?_⟩) | (refine AOLg.pass ?_; refine AOLg.nx hA tabOk Zc ?_; first | refine NX.done ?_ | refine NX.gt ?_ | refine NX.gf ?_ | (refine NX.gs ?_ ?_ <;> intro hc <;> rw [hc] <;> ((try simp only [zn] at hc) <;> (try simp (disch := omega) only [zz hA, zb, zy, reduceCtorEq, Bool.false_eq_true, Int.reduceLT, Int.reduceLE, Int.reduceNeg] at hc) <;> (try simp only [zw] at hc)) <;> (try (exfalso; omega))) | refine NX.k 1 (NX.one Z1 ?_) | refine NX.k 7 (NX.one Z7 ?_) | refine NX.k 8 (NX.one Z8 ?_) | refine NX.k 10 (NX.one Z10 ?_) | refine NX.k 14 (NX.one Z14 ?_) | refine NX.k 18 (NX.one Z18 ?_) | refine NX.raw ?_) | refine Thn.exit ?_ | refine Blk.here ?_ | refine Blk.other (by decide) ?_ | refine ⟨.inl rfl, _, RetOk.ev tabOk Zc, ?_⟩ | fail)
  refine AWp.loopU (fun k : Nat => [(5, .ic (.lit (.int .i64 (hid A (cN k)))))]) (fun _ => []) (fun k => l.length - k) (fun k => k ≤ l.length ∧ ∀ j, j < k → eqS (sgN (l.getD j default)) s = false) 0 (by conv => lhs; cbv) ⟨Nat.zero_le _, by simp⟩ (by (repeat' (first | exact subE.nil | refine subE.cons rfl ?_ | refine subE.int rfl ?_ ?_ | refine subE.bool rfl ?_ ?_ | refine subE.str rfl ?_ ?_ | refine subE.sl rfl ?_ ?_)) <;> simp [hA, real, hid, cN]) rfl ?_
  rintro k ⟨hk, hok⟩
  by_cases hlt : k < l.length
  · try first | refine AOLg.of [] ?_ | refine QSg.of [] ?_
    repeat' (first | (refine AWp.pass ?_; first | refine AWp.seq ?_ | refine AWp.block ?_ | refine AWp.skip ?_ | refine AWp.regG [] Zc ?_ | refine AWp.cond_t rfl ?_ | refine AWp.cond_f rfl ?_ | (refine AWp.cond rfl ?_ ?_ <;> intro hc <;> (try rw [hc]) <;> ((try simp only [zn] at hc) <;> (try simp (disch := omega) only [zz hA, zb, zy, reduceCtorEq, Bool.false_eq_true, Int.reduceLT, Int.reduceLE, Int.reduceNeg] at hc) <;> (try simp only [zw] at hc)) <;> (try (exfalso; omega))) | refine AWp.exit ?_ | refine AWp.ret ⟨.inr rfl, _, RetOk.ev tabOk Zc, ?_⟩) | (refine AOLg.pass ?_; refine AOLg.nx hA tabOk Zc ?_; first | refine NX.done ?_ | refine NX.gt ?_ | refine NX.gf ?_ | (refine NX.gs ?_ ?_ <;> intro hc <;> rw [hc] <;> ((try simp only [zn] at hc) <;> (try simp (disch := omega) only [zz hA, zb, zy, reduceCtorEq, Bool.false_eq_true, Int.reduceLT, Int.reduceLE, Int.reduceNeg] at hc) <;> (try simp only [zw] at hc)) <;> (try (exfalso; omega))) | refine NX.k 1 (NX.one Z1 ?_) | refine NX.k 7 (NX.one Z7 ?_) | refine NX.k 8 (NX.one Z8 ?_) | refine NX.k 10 (NX.one Z10 ?_) | refine NX.k 14 (NX.one Z14 ?_) | refine NX.k 18 (NX.one Z18 ?_) | refine NX.raw ?_) | refine Thn.exit ?_ | refine Blk.here ?_ | refine Blk.other (by decide) ?_ | refine ⟨.inl rfl, _, RetOk.ev tabOk Zc, ?_⟩ | fail)
    · refine rPV_then (by conv => lhs; cbv) ?_
      rw [show findG l s = k from idxB_at hlt (by unfold eqS; simpa using hc) hok]
      simp [hA, real, hid, cN]
    · refine ⟨k + 1, ?_, ?_, rfl, rfl, ?_, Zk⟩ <;> (try omega)
      repeat' (first | exact subE.nil | refine subE.cons rfl ?_ | refine subE.int rfl ?_ ?_ | refine subE.bool rfl ?_ ?_ | refine subE.str rfl ?_ ?_ | refine subE.sl rfl ?_ ?_)
      · refine ⟨by omega, fun j hj => ?_⟩
        rcases Nat.lt_or_ge j k with h | h
        · exact hok j h
        · obtain rfl : j = k := by omega
          unfold eqS; simpa using hc
      · exact Zd
  · try first | refine AOLg.of [] ?_ | refine QSg.of [] ?_
    repeat' (first | (refine AWp.pass ?_; first | refine AWp.seq ?_ | refine AWp.block ?_ | refine AWp.skip ?_ | refine AWp.regG [] Zc ?_ | refine AWp.cond_t rfl ?_ | refine AWp.cond_f rfl ?_ | (refine AWp.cond rfl ?_ ?_ <;> intro hc <;> (try rw [hc]) <;> ((try simp only [zn] at hc) <;> (try simp (disch := omega) only [zz hA, zb, zy, reduceCtorEq, Bool.false_eq_true, Int.reduceLT, Int.reduceLE, Int.reduceNeg] at hc) <;> (try simp only [zw] at hc)) <;> (try (exfalso; omega))) | refine AWp.exit ?_ | refine AWp.ret ⟨.inr rfl, _, RetOk.ev tabOk Zc, ?_⟩) | (refine AOLg.pass ?_; refine AOLg.nx hA tabOk Zc ?_; first | refine NX.done ?_ | refine NX.gt ?_ | refine NX.gf ?_ | (refine NX.gs ?_ ?_ <;> intro hc <;> rw [hc] <;> ((try simp only [zn] at hc) <;> (try simp (disch := omega) only [zz hA, zb, zy, reduceCtorEq, Bool.false_eq_true, Int.reduceLT, Int.reduceLE, Int.reduceNeg] at hc) <;> (try simp only [zw] at hc)) <;> (try (exfalso; omega))) | refine NX.k 1 (NX.one Z1 ?_) | refine NX.k 7 (NX.one Z7 ?_) | refine NX.k 8 (NX.one Z8 ?_) | refine NX.k 10 (NX.one Z10 ?_) | refine NX.k 14 (NX.one Z14 ?_) | refine NX.k 18 (NX.one Z18 ?_) | refine NX.raw ?_) | refine Thn.exit ?_ | refine Blk.here ?_ | refine Blk.other (by decide) ?_ | refine ⟨.inl rfl, _, RetOk.ev tabOk Zc, ?_⟩ | fail)
    · refine rPV_then (by conv => lhs; cbv) ?_
      rw [show findG l s = -1 from idxB_none fun i hi => hok i (by omega)]
      simp [hA, real, hid]
theorem sigRight_c (l : List Sg) (hsz : ∀ x ∈ l, (sgN x).size ≤ 1000000000000000 ∧ (sgA x).size ≤ 1000000000000000) : PureCalls Try.prog 34 [slP A 2 (encG A) l] (BP (hid A (rightG l))) := by
  refine PureCalls.lens (by kernel_rfl) fun hlen => ?_
  have hl := lens_ints hA (hlen _ List.mem_cons_self)
  rw [show maxLen = 9223372036854775807 from rfl] at hl
  refine PureCalls.of Try.func34 rfl (by kernel_rfl) rfl ?_
  try first | refine AOLg.of [] ?_ | refine QSg.of [] ?_
  repeat' (first | (refine AWp.pass ?_; first | refine AWp.seq ?_ | refine AWp.block ?_ | refine AWp.skip ?_ | refine AWp.regG [] Zc ?_ | refine AWp.cond_t rfl ?_ | refine AWp.cond_f rfl ?_ | (refine AWp.cond rfl ?_ ?_ <;> intro hc <;> (try rw [hc]) <;> ((try simp only [zn] at hc) <;> (try simp (disch := omega) only [zz hA, zb, zy, reduceCtorEq, Bool.false_eq_true, Int.reduceLT, Int.reduceLE, Int.reduceNeg] at hc) <;> (try simp only [zw] at hc)) <;> (try (exfalso; omega))) | refine AWp.exit ?_ | refine AWp.ret ⟨.inr rfl, _, RetOk.ev tabOk Zc, ?_⟩) | (refine AOLg.pass ?_; refine AOLg.nx hA tabOk Zc ?_; first | refine NX.done ?_ | refine NX.gt ?_ | refine NX.gf ?_ | (refine NX.gs ?_ ?_ <;> intro hc <;> rw [hc] <;> ((try simp only [zn] at hc) <;> (try simp (disch := omega) only [zz hA, zb, zy, reduceCtorEq, Bool.false_eq_true, Int.reduceLT, Int.reduceLE, Int.reduceNeg] at hc) <;> (try simp only [zw] at hc)) <;> (try (exfalso; omega))) | refine NX.k 1 (NX.one Z1 ?_) | refine NX.k 7 (NX.one Z7 ?_) | refine NX.k 10 (NX.one Z10 ?_) | refine NX.k 14 (NX.one Z14 ?_) | refine NX.k 18 (NX.one Z18 ?_) | refine NX.raw ?_) | refine Thn.exit ?_ | refine Blk.here ?_ | refine Blk.other (by decide) ?_ | refine ⟨.inl rfl, _, RetOk.ev tabOk Zc, ?_⟩ | fail)
  refine AWp.loopU (fun k : Nat => [(3, .ic (.lit (.int .i64 (hid A (cN k)))))]) (fun _ => []) (fun k => l.length - k) (fun k => k ≤ l.length ∧ ∀ i, i < k → sigOk l i = true) 0 (by conv => lhs; cbv) ⟨Nat.zero_le _, by simp⟩ (by (repeat' (first | exact subE.nil | refine subE.cons rfl ?_ | refine subE.int rfl ?_ ?_ | refine subE.bool rfl ?_ ?_ | refine subE.str rfl ?_ ?_ | refine subE.sl rfl ?_ ?_)) <;> simp [hA, real, hid, cN]) rfl ?_
  rintro k ⟨hk, hok⟩
  by_cases hlt : k < l.length
  · have hno : sigOk l k = false → rightG l = false := fun h => by unfold rightG; rw [allB_f hlt h, Bool.false_and]
    have hm : l.getD k default ∈ l := by rw [List.getD_eq_getElem?_getD, List.getElem?_eq_getElem hlt]; exact List.getElem_mem _
    have hz := hsz _ hm
    have hfb := idxB_bound l.length fun i => eqS (sgN (l.getD i default)) (sgN (l.getD k default))
    try first | refine AOLg.of [] ?_ | refine QSg.of [] ?_
    repeat' (first | (refine AWp.pass ?_; first | refine AWp.seq ?_ | refine AWp.block ?_ | refine AWp.skip ?_ | refine AWp.regG [] Zc ?_ | refine AWp.cond_t rfl ?_ | refine AWp.cond_f rfl ?_ | (refine AWp.cond rfl ?_ ?_ <;> intro hc <;> (try rw [hc]) <;> ((try simp only [zn] at hc) <;> (try simp (disch := omega) only [zz hA, zb, zy, reduceCtorEq, Bool.false_eq_true, Int.reduceLT, Int.reduceLE, Int.reduceNeg] at hc) <;> (try simp only [zw] at hc)) <;> (try (exfalso; omega))) | refine AWp.exit ?_ | refine AWp.ret ⟨.inr rfl, _, RetOk.ev tabOk Zc, ?_⟩) | (refine AOLg.pass ?_; refine AOLg.nx hA tabOk Zc ?_; first | refine NX.done ?_ | refine NX.gt ?_ | refine NX.gf ?_ | (refine NX.gs ?_ ?_ <;> intro hc <;> rw [hc] <;> ((try simp only [zn] at hc) <;> (try simp (disch := omega) only [zz hA, zb, zy, reduceCtorEq, Bool.false_eq_true, Int.reduceLT, Int.reduceLE, Int.reduceNeg] at hc) <;> (try simp only [zw] at hc)) <;> (try (exfalso; omega))) | (refine NX.kC ?_; first | (with_reducible refine NX.call (con_c hA _) ?_) | ((with_reducible refine NX.call (args_c hA _ ?_) ?_) <;> (first | refine AOLg.pass ?_ | exact Zd)) | (with_reducible refine NX.call (find_G hA l _) ?_) | ((first | refine NX.call (con_c hA _) ?_ | refine NX.call (args_c hA _ ?_) ?_ | refine NX.call (find_G hA l _) ?_) <;> (first | refine AOLg.pass ?_ | exact Zd)) | fail) | (refine NX.kO ?_; (first | refine NX.callO (con_c hA _) (by simp [allEq]) rfl ?_ | refine NX.callO (args_c hA _ ?_) (by simp [allEq]) rfl ?_ | refine NX.callO (find_G hA l _) (by simp [allEq]) rfl ?_) <;> (first | refine AOLg.pass ?_ | exact Zd)) | refine NX.k 1 (NX.one Z1 ?_) | refine NX.k 7 (NX.one Z7 ?_) | refine NX.k 10 (NX.one Z10 ?_) | refine NX.k 14 (NX.one Z14 ?_) | refine NX.k 18 (NX.one Z18 ?_) | refine NX.raw ?_) | refine Thn.exit ?_ | refine Blk.here ?_ | refine Blk.other (by decide) ?_ | refine ⟨.inl rfl, _, RetOk.ev tabOk Zc, ?_⟩ | fail)
    all_goals first
      | (refine rPV_then (by conv => lhs; cbv) ?_
         rw [hno (by grind [sigOk, findG])]
         simp [hid_eq hA]; done)
      | skip
    all_goals
      refine ⟨k + 1, ?_, ?_, rfl, rfl, ?_, Zk⟩ <;> (try omega)
      repeat' (first | exact subE.nil | refine subE.cons rfl ?_ | refine subE.int rfl ?_ ?_ | refine subE.bool rfl ?_ ?_ | refine subE.str rfl ?_ ?_ | refine subE.sl rfl ?_ ?_)
    all_goals first
      | exact ⟨by omega, stepB hok (by grind [sigOk, findG])⟩
      | exact Zd
  · have hyes : rightG l = decide (l.length ≤ 64) := by
      unfold rightG
      rw [allB_t fun i hi => hok i (by omega)]; rfl
    try first | refine AOLg.of [] ?_ | refine QSg.of [] ?_
    repeat' (first | (refine AWp.pass ?_; first | refine AWp.seq ?_ | refine AWp.block ?_ | refine AWp.skip ?_ | refine AWp.regG [] Zc ?_ | refine AWp.cond_t rfl ?_ | refine AWp.cond_f rfl ?_ | (refine AWp.cond rfl ?_ ?_ <;> intro hc <;> (try rw [hc]) <;> ((try simp only [zn] at hc) <;> (try simp (disch := omega) only [zz hA, zb, zy, reduceCtorEq, Bool.false_eq_true, Int.reduceLT, Int.reduceLE, Int.reduceNeg] at hc) <;> (try simp only [zw] at hc)) <;> (try (exfalso; omega))) | refine AWp.exit ?_ | refine AWp.ret ⟨.inr rfl, _, RetOk.ev tabOk Zc, ?_⟩) | (refine AOLg.pass ?_; refine AOLg.nx hA tabOk Zc ?_; first | refine NX.done ?_ | refine NX.gt ?_ | refine NX.gf ?_ | (refine NX.gs ?_ ?_ <;> intro hc <;> rw [hc] <;> ((try simp only [zn] at hc) <;> (try simp (disch := omega) only [zz hA, zb, zy, reduceCtorEq, Bool.false_eq_true, Int.reduceLT, Int.reduceLE, Int.reduceNeg] at hc) <;> (try simp only [zw] at hc)) <;> (try (exfalso; omega))) | refine NX.k 1 (NX.one Z1 ?_) | refine NX.k 7 (NX.one Z7 ?_) | refine NX.k 10 (NX.one Z10 ?_) | refine NX.k 14 (NX.one Z14 ?_) | refine NX.k 18 (NX.one Z18 ?_) | refine NX.raw ?_) | refine Thn.exit ?_ | refine Blk.here ?_ | refine Blk.other (by decide) ?_ | refine ⟨.inl rfl, _, RetOk.ev tabOk Zc, ?_⟩ | fail)
    all_goals (refine rPV_then (by conv => lhs; cbv) ?_; refine congrArg (fun b => PV.c (IC.lit (Value.bool b))) ?_; rw [Bool.eq_iff_iff]; (try simp only [zn]); (try simp (disch := omega) only [zz hA, zb, zy, reduceCtorEq, Bool.false_eq_true, Int.reduceLT, Int.reduceLE, Int.reduceNeg, hyes, Bool.and_eq_true, Bool.or_eq_true, Bool.not_eq_true, decide_eq_true_eq, decide_eq_false_iff_not, true_iff, iff_true, false_iff, iff_false, and_true, true_and, or_true, true_or, and_false, false_and, or_false, false_or, not_true_eq_false, not_false_eq_true]); first | done | omega)
end Go.Proofs.Ytkkjlmcnfoncdaa.Aw

namespace Go.Proofs.Ytkkjlmcnfoncdaa.Aw
open Go Go.RowKit
set_option maxRecDepth 10000
attribute [local irreducible] AWp AOL QS One AOLg QSg NX QX TRg TX AllO Fin3
def hstep (h b : Int) : Int := bitsV .xor .u32 h b * 16777619 % 4294967296
def hbyte (n : Int) (k : Nat) : Int := n % 18446744073709551616 / 256 ^ k % 256
def hnum (h n : Int) (k : Nat) : Int := (List.range k).foldl (fun h k => hstep h (hbyte n k)) h
def hashM (key : List Int) : Int := key.foldl (fun h n => hnum h n 8) 2166136261
theorem hnum_succ (h n : Int) (k : Nat) : hnum h n (k + 1) = hstep (hnum h n k) (hbyte n k) := by simp [hnum, List.range_succ]
theorem hashM_snoc (l : List Int) (n : Int) : hashM (l ++ [n]) = hnum (hashM l) n 8 := by simp [hashM]
theorem take_snoc {α : Type} [Inhabited α] (l : List α) (k : Nat) (h : k < l.length) : l.take (k + 1) = l.take k ++ [l.getD k default] := by
  rw [List.take_add_one]; simp [h]
variable {A : Ar} (hA : A = real)
include hA
end Go.Proofs.Ytkkjlmcnfoncdaa.Aw

namespace Go.Proofs.Ytkkjlmcnfoncdaa.Aw
open Go Go.RowKit
set_option maxRecDepth 10000
attribute [local irreducible] AWp AOL QS One AOLg QSg NX QX TRg TX AllO Fin3
def sizeGo : Nat → Nat → Nat → Nat
  | 0, s, _ => s
  | f + 1, s, n => if 3 * s < 4 * n then sizeGo f (2 * s) n else s
def sizeM (n : Nat) : Nat := sizeGo (4 * n) 8 n
def slotM (key : List Int) (size k : Nat) : Int := (hashM key % size + k) % size
theorem hstep_range (h b : Int) : 0 ≤ hstep h b ∧ hstep h b < 4294967296 := by unfold hstep; omega
theorem hnum_range (h n : Int) (k : Nat) (h0 : 0 ≤ h ∧ h < 4294967296) : 0 ≤ hnum h n k ∧ hnum h n k < 4294967296 := by
  cases k with
  | zero => exact h0
  | succ k => rw [hnum_succ]; exact hstep_range _ _
theorem hashM_range (key : List Int) : 0 ≤ hashM key ∧ hashM key < 4294967296 := by
  unfold hashM
  generalize hb : (2166136261 : Int) = b
  have h0 : 0 ≤ b ∧ b < 4294967296 := by omega
  clear hb
  induction key generalizing b with
  | nil => exact h0
  | cons n r ih => exact ih _ (hnum_range _ _ _ h0)
theorem sizeGo_done (f s n : Nat) (h : ¬ 3 * s < 4 * n) : sizeGo f s n = s := by cases f <;> simp [sizeGo, h]
variable {A : Ar} (hA : A = real)
include hA
end Go.Proofs.Ytkkjlmcnfoncdaa.Aw

namespace Go.Proofs.Ytkkjlmcnfoncdaa.Aw
open Go Go.RowKit
set_option maxRecDepth 10000
attribute [local irreducible] AWp AOL QS One AOLg QSg NX QX TRg TX AllO Fin3
theorem take_next {α : Type} [Inhabited α] {a b : List α} {k : Nat} (h : a.take k = b.take k) (ha : k < a.length) (hb : k < b.length) (e : a.getD k default = b.getD k default) : a.take (k + 1) = b.take (k + 1) := by
  rw [take_snoc a k ha, take_snoc b k hb, h, e]
theorem take_all {α : Type} {a b : List α} {k : Nat} (h : a.take k = b.take k) (ha : a.length ≤ k) (hb : b.length ≤ k) : a = b := by
  rwa [List.take_of_length_le ha, List.take_of_length_le hb] at h
def atM (K : List (List Int)) (key : List Int) : Int := if key ∈ K then (K.idxOf key : Nat) else -1
theorem atM_hit (K : List (List Int)) (key : List Int) (k : Nat) (hk : k < K.length) (h0 : key ∉ K.take k) (h : K.getD k default = key) : atM K key = k := by
  have h1 : K = K.take k ++ K.getD k default :: K.drop (k + 1) := by
    rw [List.getD_eq_getElem?_getD, List.getElem?_eq_getElem hk]
    conv => lhs; rw [← List.take_append_drop k K, List.drop_eq_getElem_cons hk]
    simp
  unfold atM
  rw [if_pos (by rw [h1, h]; simp)]
  conv => lhs; rw [h1, h]
  rw [List.idxOf_append, if_neg h0]
  simp [Nat.min_eq_left (Nat.le_of_lt hk)]
theorem atM_miss (K : List (List Int)) (key : List Int) (h0 : key ∉ K) : atM K key = -1 := by simp [atM, h0]
def totM (K : List (List Int)) (S : List Int) (k : Nat) : Nat := S.length + ((K.take k).map fun x => 1 + x.length).sum
def fewM (K : List (List Int)) (S : List Int) : Bool := decide (totM K S K.length ≤ 2000)
theorem totM_succ (K : List (List Int)) (S : List Int) (k : Nat) (h : k < K.length) : totM K S (k + 1) = totM K S k + (1 + (K.getD k default).length) := by
  simp [totM, take_snoc K k h]; omega
theorem totM_mono (K : List (List Int)) (S : List Int) (k : Nat) : totM K S k ≤ totM K S K.length := by
  have : ∀ (l : List (List Int)) (k : Nat), ((l.take k).map fun x => 1 + x.length).sum ≤ (l.map fun x => 1 + x.length).sum := by
    intro l
    induction l with
    | nil => simp
    | cons x r ih =>
      intro k
      cases k with
      | zero => simp
      | succ k => have := ih k; simp only [List.take_succ_cons, List.map_cons, List.sum_cons]; omega
  have := this K k
  unfold totM
  rw [List.take_length]
  omega
abbrev keyedPV (A : Ar) (K : List (List Int)) (S : List Int) : PV := .agg [.sl 1 false (hid A (List.map (encK A) K)), .sl 1 false (hid A (List.map encI S))]
variable {A : Ar} (hA : A = real)
include hA
theorem refInts_c (a b : List Int) : PureCalls Try.prog 17 [intsP A a, intsP A b] (BP (hid A (decide (a = b)))) := by
  refine PureCalls.lens (by kernel_rfl) fun hb => ?_
  have ha := lens_ints hA (hb (intsP A a) (by simp))
  replace hb := lens_ints hA (hb (intsP A b) (by simp))
  simp only [maxLen] at ha hb
  refine PureCalls.of Try.func17 rfl (by kernel_rfl) rfl ?_
  try first | refine AOLg.of [] ?_ | refine QSg.of [] ?_
  repeat' (first | (refine AWp.pass ?_; first | refine AWp.seq ?_ | refine AWp.block ?_ | refine AWp.skip ?_ | refine AWp.regG [] Zc ?_ | refine AWp.cond_t rfl ?_ | refine AWp.cond_f rfl ?_ | (refine AWp.cond rfl ?_ ?_ <;> intro hc <;> (try rw [hc]) <;> ((try simp only [zn] at hc) <;> (try simp (disch := omega) only [zz hA, zb, zy, reduceCtorEq, Bool.false_eq_true, Int.reduceLT, Int.reduceLE, Int.reduceNeg] at hc) <;> (try simp only [zw] at hc)) <;> (try (exfalso; omega))) | refine AWp.exit ?_ | refine AWp.ret ⟨.inr rfl, _, RetOk.ev tabOk Zc, ?_⟩ | refine AWp.drawVG [] rfl (by decide +kernel) Zc ?_) | (refine AOLg.pass ?_; refine AOLg.nx hA tabOk Zc ?_; first | refine NX.done ?_ | refine NX.gt ?_ | refine NX.gf ?_ | (refine NX.gs ?_ ?_ <;> intro hc <;> rw [hc] <;> ((try simp only [zn] at hc) <;> (try simp (disch := omega) only [zz hA, zb, zy, reduceCtorEq, Bool.false_eq_true, Int.reduceLT, Int.reduceLE, Int.reduceNeg] at hc) <;> (try simp only [zw] at hc)) <;> (try (exfalso; omega))) | refine NX.k 1 (NX.one Z1 ?_) | refine NX.k 7 (NX.one Z7 ?_) | refine NX.k 9 (NX.one Z9 ?_) | refine NX.k 10 (NX.one Z10 ?_) | refine NX.k 14 (NX.one Z14 ?_) | refine NX.raw ?_) | (refine TRg.pass ?_; refine TRg.nx hA tabOk Zc ?_; first | refine TX.done ?_ | refine TX.gt ?_ | refine TX.gf ?_ | (refine TX.gs ?_ ?_ <;> intro hc <;> rw [hc] <;> ((try simp only [zn] at hc) <;> (try simp (disch := omega) only [zz hA, zb, zy, reduceCtorEq, Bool.false_eq_true, Int.reduceLT, Int.reduceLE, Int.reduceNeg] at hc) <;> (try simp only [zw] at hc)) <;> (try (exfalso; omega))) | refine TX.k 1 (TX.one Z1 ?_) | refine TX.k 7 (TX.one Z7 ?_) | refine TX.k 9 (TX.one Z9 ?_) | refine TX.k 10 (TX.one Z10 ?_) | refine TX.k 14 (TX.one Z14 ?_) | refine TX.raw ?_) | refine Fin3.of Zc (by repeat' (first | exact True.intro | exact rfl | refine And.intro ?_ ?_)) ?_ ?_ | (refine AllO.pass ?_; first | exact AllO.nil | (refine AllO.cons (One.ev hA tabOk ?_) ?_ <;> (first | refine AllO.pass ?_ | ((conv => lhs; cbv); done))) | (refine AllO.cons (One.skipB ?_) ?_ <;> (first | refine AllO.pass ?_ | ((conv => lhs; cbv); done))) | refine AllO.consX ZX rfl rfl ?_) | refine Thn.exit ?_ | refine Blk.here ?_ | refine Blk.other (by decide) ?_ | refine ⟨.inl rfl, _, RetOk.ev tabOk Zc, ?_⟩ | fail)
  · refine rPV_then (by conv => lhs; cbv) ?_
    ((try simp only [zn]) <;> (try simp (disch := omega) only [zz hA, zb, zy, reduceCtorEq, Bool.false_eq_true, Int.reduceLT, Int.reduceLE, Int.reduceNeg]) <;> (try simp only [zw]))
    rw [decide_eq_false fun e => hc (by rw [e])]
  · refine AWp.loopU (fun k : Nat => [(5, .ic (.lit (.int .i64 (hid A (cN k)))))]) (fun _ => []) (fun k => a.length - k) (fun k => k ≤ a.length ∧ a.take k = b.take k) 0 (by conv => lhs; cbv) ⟨by omega, rfl⟩ (by (repeat' (first | exact subE.nil | refine subE.cons rfl ?_ | refine subE.int rfl ?_ ?_ | refine subE.bool rfl ?_ ?_ | refine subE.str rfl ?_ ?_ | refine subE.sl rfl ?_ ?_)) <;> simp [hA, real, hid, cN]) rfl ?_
    rintro k ⟨hk, ht⟩
    try first | refine AOLg.of [] ?_ | refine QSg.of [] ?_
    repeat' (first | (refine AWp.pass ?_; first | refine AWp.seq ?_ | refine AWp.block ?_ | refine AWp.skip ?_ | refine AWp.regG [] Zc ?_ | refine AWp.cond_t rfl ?_ | refine AWp.cond_f rfl ?_ | (refine AWp.cond rfl ?_ ?_ <;> intro hc <;> (try rw [hc]) <;> ((try simp only [zn] at hc) <;> (try simp (disch := omega) only [zz hA, zb, zy, reduceCtorEq, Bool.false_eq_true, Int.reduceLT, Int.reduceLE, Int.reduceNeg] at hc) <;> (try simp only [zw] at hc)) <;> (try (exfalso; omega))) | refine AWp.exit ?_ | refine AWp.ret ⟨.inr rfl, _, RetOk.ev tabOk Zc, ?_⟩ | refine AWp.drawVG [] rfl (by decide +kernel) Zc ?_) | (refine AOLg.pass ?_; refine AOLg.nx hA tabOk Zc ?_; first | refine NX.done ?_ | refine NX.gt ?_ | refine NX.gf ?_ | (refine NX.gs ?_ ?_ <;> intro hc <;> rw [hc] <;> ((try simp only [zn] at hc) <;> (try simp (disch := omega) only [zz hA, zb, zy, reduceCtorEq, Bool.false_eq_true, Int.reduceLT, Int.reduceLE, Int.reduceNeg] at hc) <;> (try simp only [zw] at hc)) <;> (try (exfalso; omega))) | refine NX.k 1 (NX.one Z1 ?_) | refine NX.k 7 (NX.one Z7 ?_) | refine NX.k 9 (NX.one Z9 ?_) | refine NX.k 10 (NX.one Z10 ?_) | refine NX.k 14 (NX.one Z14 ?_) | refine NX.raw ?_) | (refine TRg.pass ?_; refine TRg.nx hA tabOk Zc ?_; first | refine TX.done ?_ | refine TX.gt ?_ | refine TX.gf ?_ | (refine TX.gs ?_ ?_ <;> intro hc <;> rw [hc] <;> ((try simp only [zn] at hc) <;> (try simp (disch := omega) only [zz hA, zb, zy, reduceCtorEq, Bool.false_eq_true, Int.reduceLT, Int.reduceLE, Int.reduceNeg] at hc) <;> (try simp only [zw] at hc)) <;> (try (exfalso; omega))) | refine TX.k 1 (TX.one Z1 ?_) | refine TX.k 7 (TX.one Z7 ?_) | refine TX.k 9 (TX.one Z9 ?_) | refine TX.k 10 (TX.one Z10 ?_) | refine TX.k 14 (TX.one Z14 ?_) | refine TX.raw ?_) | refine Fin3.of Zc (by repeat' (first | exact True.intro | exact rfl | refine And.intro ?_ ?_)) ?_ ?_ | (refine AllO.pass ?_; first | exact AllO.nil | (refine AllO.cons (One.ev hA tabOk ?_) ?_ <;> (first | refine AllO.pass ?_ | ((conv => lhs; cbv); done))) | (refine AllO.cons (One.skipB ?_) ?_ <;> (first | refine AllO.pass ?_ | ((conv => lhs; cbv); done))) | refine AllO.consX ZX rfl rfl ?_) | refine Thn.exit ?_ | refine Blk.here ?_ | refine Blk.other (by decide) ?_ | refine ⟨.inl rfl, _, RetOk.ev tabOk Zc, ?_⟩ | fail)
    · refine rPV_then (by conv => lhs; cbv) ?_
      ((try simp only [zn]) <;> (try simp (disch := omega) only [zz hA, zb, zy, reduceCtorEq, Bool.false_eq_true, Int.reduceLT, Int.reduceLE, Int.reduceNeg]) <;> (try simp only [zw]))
      rw [decide_eq_false fun e => hc (by rw [e])]
    · refine ⟨k + 1, ?_, ?_, rfl, rfl, ?_, Zk⟩ <;> (try omega)
      repeat' (first | exact subE.nil | refine subE.cons rfl ?_ | refine subE.int rfl ?_ ?_ | refine subE.bool rfl ?_ ?_ | refine subE.str rfl ?_ ?_ | refine subE.sl rfl ?_ ?_)
      · exact ⟨by omega, take_next ht (by omega) (by omega) (by assumption)⟩
      · exact Zd
    · refine rPV_then (by conv => lhs; cbv) ?_
      ((try simp only [zn]) <;> (try simp (disch := omega) only [zz hA, zb, zy, reduceCtorEq, Bool.false_eq_true, Int.reduceLT, Int.reduceLE, Int.reduceNeg]) <;> (try simp only [zw]))
      rw [decide_eq_true (take_all ht (by omega) (by omega))]
theorem refAt_c (K : List (List Int)) (key : List Int) : PureCalls Try.prog 56 [slP A 1 (encK A) K, intsP A key] (IP (hid A (atM K key))) := by
  refine PureCalls.lens (by kernel_rfl) fun hb => ?_
  have ha := lens_ints hA (hb (slP A 1 (encK A) K) (by simp))
  clear hb
  simp only [maxLen] at ha
  refine PureCalls.of Try.func56 rfl (by kernel_rfl) rfl ?_
  try first | refine AOLg.of [] ?_ | refine QSg.of [] ?_
  repeat' (first | (refine AWp.pass ?_; first | refine AWp.seq ?_ | refine AWp.block ?_ | refine AWp.skip ?_ | refine AWp.regG [] Zc ?_ | refine AWp.cond_t rfl ?_ | refine AWp.cond_f rfl ?_ | (refine AWp.cond rfl ?_ ?_ <;> intro hc <;> (try rw [hc]) <;> ((try simp only [zn] at hc) <;> (try simp (disch := omega) only [zz hA, zb, zy, reduceCtorEq, Bool.false_eq_true, Int.reduceLT, Int.reduceLE, Int.reduceNeg] at hc) <;> (try simp only [zw] at hc)) <;> (try (exfalso; omega))) | refine AWp.exit ?_ | refine AWp.ret ⟨.inr rfl, _, RetOk.ev tabOk Zc, ?_⟩) | (refine AOLg.pass ?_; refine AOLg.nx hA tabOk Zc ?_; first | refine NX.done ?_ | refine NX.gt ?_ | refine NX.gf ?_ | (refine NX.gs ?_ ?_ <;> intro hc <;> rw [hc] <;> ((try simp only [zn] at hc) <;> (try simp (disch := omega) only [zz hA, zb, zy, reduceCtorEq, Bool.false_eq_true, Int.reduceLT, Int.reduceLE, Int.reduceNeg] at hc) <;> (try simp only [zw] at hc)) <;> (try (exfalso; omega))) | refine NX.k 1 (NX.one Z1 ?_) | refine NX.k 7 (NX.one Z7 ?_) | refine NX.k 10 (NX.one Z10 ?_) | refine NX.k 14 (NX.one Z14 ?_) | refine NX.raw ?_) | refine Thn.exit ?_ | refine Blk.here ?_ | refine Blk.other (by decide) ?_ | refine ⟨.inl rfl, _, RetOk.ev tabOk Zc, ?_⟩ | fail)
  refine AWp.loopU (fun k : Nat => [(5, .ic (.lit (.int .i64 (hid A (cN k)))))]) (fun _ => []) (fun k => K.length - k) (fun k => k ≤ K.length ∧ key ∉ K.take k) 0 (by conv => lhs; cbv) ⟨by omega, by simp⟩ (by (repeat' (first | exact subE.nil | refine subE.cons rfl ?_ | refine subE.int rfl ?_ ?_ | refine subE.bool rfl ?_ ?_ | refine subE.str rfl ?_ ?_ | refine subE.sl rfl ?_ ?_)) <;> simp [hA, real, hid, cN]) rfl ?_
  rintro k ⟨hk, ht⟩
  try first | refine AOLg.of [] ?_ | refine QSg.of [] ?_
  repeat' (first | (refine AWp.pass ?_; first | refine AWp.seq ?_ | refine AWp.block ?_ | refine AWp.skip ?_ | refine AWp.regG [] Zc ?_ | refine AWp.cond_t rfl ?_ | refine AWp.cond_f rfl ?_ | (refine AWp.cond rfl ?_ ?_ <;> intro hc <;> (try rw [hc]) <;> ((try simp only [zn] at hc) <;> (try simp (disch := omega) only [zz hA, zb, zy, reduceCtorEq, Bool.false_eq_true, Int.reduceLT, Int.reduceLE, Int.reduceNeg] at hc) <;> (try simp only [zw] at hc)) <;> (try (exfalso; omega))) | refine AWp.exit ?_ | refine AWp.ret ⟨.inr rfl, _, RetOk.ev tabOk Zc, ?_⟩) | (refine AOLg.pass ?_; refine AOLg.nx hA tabOk Zc ?_; first | refine NX.done ?_ | refine NX.gt ?_ | refine NX.gf ?_ | (refine NX.gs ?_ ?_ <;> intro hc <;> rw [hc] <;> ((try simp only [zn] at hc) <;> (try simp (disch := omega) only [zz hA, zb, zy, reduceCtorEq, Bool.false_eq_true, Int.reduceLT, Int.reduceLE, Int.reduceNeg] at hc) <;> (try simp only [zw] at hc)) <;> (try (exfalso; omega))) | (refine NX.kC ?_; first | (with_reducible refine NX.call (refInts_c hA _ _) ?_) | ((first | refine NX.call (refInts_c hA _ _) ?_)) | fail) | (refine NX.kO ?_; (first | refine NX.callO (refInts_c hA _ _) (by simp [allEq]) rfl ?_)) | refine NX.k 1 (NX.one Z1 ?_) | refine NX.k 7 (NX.one Z7 ?_) | refine NX.k 10 (NX.one Z10 ?_) | refine NX.k 14 (NX.one Z14 ?_) | refine NX.raw ?_) | refine Thn.exit ?_ | refine Blk.here ?_ | refine Blk.other (by decide) ?_ | refine ⟨.inl rfl, _, RetOk.ev tabOk Zc, ?_⟩ | fail)
  · refine rPV_then (by conv => lhs; cbv) ?_
    ((try simp only [zn]) <;> (try simp (disch := omega) only [zz hA, zb, zy, reduceCtorEq, Bool.false_eq_true, Int.reduceLT, Int.reduceLE, Int.reduceNeg]) <;> (try simp only [zw]))
    rw [atM_hit K key k (by omega) ht (by assumption)]
  · refine ⟨k + 1, ?_, ?_, rfl, rfl, ?_, Zk⟩ <;> (try omega)
    repeat' (first | exact subE.nil | refine subE.cons rfl ?_ | refine subE.int rfl ?_ ?_ | refine subE.bool rfl ?_ ?_ | refine subE.str rfl ?_ ?_ | refine subE.sl rfl ?_ ?_)
    · refine ⟨by omega, ?_⟩
      rw [take_snoc K k (by omega)]
      simp only [List.mem_append, List.mem_singleton, not_or]
      exact ⟨ht, fun e => hc e.symm⟩
    · exact Zd
  · refine rPV_then (by conv => lhs; cbv) ?_
    rw [List.take_of_length_le (by omega)] at ht
    ((try simp only [zn]) <;> (try simp (disch := omega) only [zz hA, zb, zy, reduceCtorEq, Bool.false_eq_true, Int.reduceLT, Int.reduceLE, Int.reduceNeg]) <;> (try simp only [zw]))
    rw [atM_miss K key ht]
theorem refFew_c (K : List (List Int)) (S : List Int) (h1 : S.length ≤ 2000000000000000000) (h2 : K.length ≤ 2000000000000000000) (h3 : ∀ x ∈ K, x.length ≤ 2000000000000000000) : PureCalls Try.prog 35 [keyedPV A K S] (BP (hid A (fewM K S))) := by
  refine PureCalls.of Try.func35 rfl (by kernel_rfl) rfl ?_
  try first | refine AOLg.of [] ?_ | refine QSg.of [] ?_
  repeat' (first | (refine AWp.pass ?_; first | refine AWp.seq ?_ | refine AWp.block ?_ | refine AWp.skip ?_ | refine AWp.regG [] Zc ?_ | refine AWp.cond_t rfl ?_ | refine AWp.cond_f rfl ?_ | (refine AWp.cond rfl ?_ ?_ <;> intro hc <;> (try rw [hc]) <;> ((try simp only [zn] at hc) <;> (try simp (disch := omega) only [zz hA, zb, zy, reduceCtorEq, Bool.false_eq_true, Int.reduceLT, Int.reduceLE, Int.reduceNeg] at hc) <;> (try simp only [zw] at hc)) <;> (try (exfalso; omega))) | refine AWp.exit ?_ | refine AWp.ret ⟨.inr rfl, _, RetOk.ev tabOk Zc, ?_⟩) | (refine AOLg.pass ?_; refine AOLg.nx hA tabOk Zc ?_; first | refine NX.done ?_ | refine NX.gt ?_ | refine NX.gf ?_ | (refine NX.gs ?_ ?_ <;> intro hc <;> rw [hc] <;> ((try simp only [zn] at hc) <;> (try simp (disch := omega) only [zz hA, zb, zy, reduceCtorEq, Bool.false_eq_true, Int.reduceLT, Int.reduceLE, Int.reduceNeg] at hc) <;> (try simp only [zw] at hc)) <;> (try (exfalso; omega))) | refine NX.k 1 (NX.one Z1 ?_) | refine NX.k 7 (NX.one Z7 ?_) | refine NX.k 10 (NX.one Z10 ?_) | refine NX.k 14 (NX.one Z14 ?_) | refine NX.k 18 (NX.one Z18 ?_) | refine NX.raw ?_) | refine Thn.exit ?_ | refine Blk.here ?_ | refine Blk.other (by decide) ?_ | refine ⟨.inl rfl, _, RetOk.ev tabOk Zc, ?_⟩ | fail)
  refine AWp.loopU (fun k : Nat => [(4, .ic (.lit (.int .i64 (hid A (cN k))))), (3, .ic (.lit (.int .i64 (hid A (cN (totM K S k))))))]) (fun _ => [.var true 26 [.ic (.sl 1 false (hid A (List.map (encK A) K))), .ic (.sl 1 false (hid A (List.map encI S)))]]) (fun k => K.length - k) (fun k => k ≤ K.length ∧ totM K S k ≤ 5000000000000000000) 0 (by conv => lhs; cbv) ⟨by omega, by simp [totM]; omega⟩ (.int rfl (by ((try simp only [zn]) <;> (try simp (disch := omega) only [zz hA, zb, zy, reduceCtorEq, Bool.false_eq_true, Int.reduceLT, Int.reduceLE, Int.reduceNeg]) <;> (try simp only [zw])); rfl) (.int rfl (by simp [hA, real, hid, cN, totM]) .nil)) rfl ?_
  rintro k ⟨hk, ht⟩
  try first | refine AOLg.of [] ?_ | refine QSg.of [] ?_
  repeat' (first | (refine AWp.pass ?_; first | refine AWp.seq ?_ | refine AWp.block ?_ | refine AWp.skip ?_ | refine AWp.regG [] Zc ?_ | refine AWp.cond_t rfl ?_ | refine AWp.cond_f rfl ?_ | (refine AWp.cond rfl ?_ ?_ <;> intro hc <;> (try rw [hc]) <;> ((try simp only [zn] at hc) <;> (try simp (disch := omega) only [zz hA, zb, zy, reduceCtorEq, Bool.false_eq_true, Int.reduceLT, Int.reduceLE, Int.reduceNeg] at hc) <;> (try simp only [zw] at hc)) <;> (try (exfalso; omega))) | refine AWp.exit ?_ | refine AWp.ret ⟨.inr rfl, _, RetOk.ev tabOk Zc, ?_⟩) | (refine AOLg.pass ?_; refine AOLg.nx hA tabOk Zc ?_; first | refine NX.done ?_ | refine NX.gt ?_ | refine NX.gf ?_ | (refine NX.gs ?_ ?_ <;> intro hc <;> rw [hc] <;> ((try simp only [zn] at hc) <;> (try simp (disch := omega) only [zz hA, zb, zy, reduceCtorEq, Bool.false_eq_true, Int.reduceLT, Int.reduceLE, Int.reduceNeg] at hc) <;> (try simp only [zw] at hc)) <;> (try (exfalso; omega))) | refine NX.k 1 (NX.one Z1 ?_) | refine NX.k 7 (NX.one Z7 ?_) | refine NX.k 10 (NX.one Z10 ?_) | refine NX.k 14 (NX.one Z14 ?_) | refine NX.k 18 (NX.one Z18 ?_) | refine NX.raw ?_) | refine Thn.exit ?_ | refine Blk.here ?_ | refine Blk.other (by decide) ?_ | refine ⟨.inl rfl, _, RetOk.ev tabOk Zc, ?_⟩ | fail)
  · have h4 := totM_succ K S k (by omega)
    have h5 : (K.getD k default).length ≤ 2000000000000000000 := by
      rw [List.getD_eq_getElem?_getD, List.getElem?_eq_getElem (by omega)]
      exact h3 _ (List.getElem_mem _)
    refine ⟨k + 1, ?_, ?_, rfl, rfl, ?_, Zk⟩ <;> (try omega)
    repeat' (first | exact subE.nil | refine subE.cons rfl ?_ | refine subE.int rfl ?_ ?_ | refine subE.bool rfl ?_ ?_ | refine subE.str rfl ?_ ?_ | refine subE.sl rfl ?_ ?_)
    · exact Zd
    · exact Zd
  · refine rPV_then (by conv => lhs; cbv) ?_
    have := totM_mono K S k
    ((try simp only [zn]) <;> (try simp (disch := omega) only [zz hA, zb, zy, reduceCtorEq, Bool.false_eq_true, Int.reduceLT, Int.reduceLE, Int.reduceNeg, fewM]) <;> (try simp only [zw]))
    rw [decide_eq_false (by omega), decide_eq_false (by omega)]
  · refine rPV_then (by conv => lhs; cbv) ?_
    obtain rfl : k = K.length := by omega
    simp [hA, real, hid, cN, fewM]
    omega
end Go.Proofs.Ytkkjlmcnfoncdaa.Aw

namespace Go.Proofs.Ytkkjlmcnfoncdaa.Aw
open Go Go.RowKit
set_option maxRecDepth 10000
attribute [local irreducible] AWp AOL QS One AOLg QSg NX QX TRg TX AllO Fin3
def slotN (key : List Int) (size k : Nat) : Nat := (slotM key size k).toNat
def freeAt (S key : List Int) (k : Nat) : Bool := S.getD (slotN key S.length k) 0 == 0
def placeM (S key : List Int) (n : Nat) : List Int := match (List.range S.length).find? (freeAt S key) with
  | some k => S.set (slotN key S.length k) (n + 1)
  | none => S
variable {A : Ar} (hA : A = real)
include hA
end Go.Proofs.Ytkkjlmcnfoncdaa.Aw

namespace Go.Proofs.Ytkkjlmcnfoncdaa.Aw
open Go Go.RowKit
set_option maxRecDepth 10000
attribute [local irreducible] AWp AOL QS One AOLg QSg NX QX TRg TX AllO Fin3
def layGo (K : List (List Int)) (i : Nat) : List Int := (List.range i).foldl (fun S j => placeM S (K.getD j default) j) (List.replicate (sizeM K.length) 0)
def layM (K : List (List Int)) : List Int := layGo K K.length
theorem layGo_succ (K : List (List Int)) (i : Nat) : layGo K (i + 1) = placeM (layGo K i) (K.getD i default) i := by simp [layGo, List.range_succ]
theorem placeM_len (S key : List Int) (n : Nat) : (placeM S key n).length = S.length := by unfold placeM; split <;> simp
theorem layGo_len (K : List (List Int)) (i : Nat) : (layGo K i).length = sizeM K.length := by
  induction i with
  | zero => simp [layGo]
  | succ i ih => rw [layGo_succ, placeM_len, ih]
theorem sizeGo_bound (f s n : Nat) (h : s ≤ 8 * n + 8) (h8 : 8 ≤ s) : 8 ≤ sizeGo f s n ∧ sizeGo f s n ≤ 8 * n + 8 := by
  induction f generalizing s with
  | zero => exact ⟨h8, h⟩
  | succ f ih =>
    simp only [sizeGo]
    split
    · exact ih _ (by omega) (by omega)
    · exact ⟨h8, h⟩
theorem sizeM_bound (n : Nat) : 8 ≤ sizeM n ∧ sizeM n ≤ 8 * n + 8 := sizeGo_bound _ _ _ (by omega) (by omega)
def probe (K : List (List Int)) (S key : List Int) (k : Nat) : Option Int :=
  if S.getD (slotN key S.length k) default - 1 < 0 ∨ K.getD (S.getD (slotN key S.length k) default - 1).toNat default = key then some (S.getD (slotN key S.length k) default - 1) else none
def findM (K : List (List Int)) (S key : List Int) : Int := match (List.range S.length).find? (fun k => (probe K S key k).isSome) with
  | some k => (probe K S key k).getD (-1)
  | none => -1
variable {A : Ar} (hA : A = real)
include hA
end Go.Proofs.Ytkkjlmcnfoncdaa.Aw

namespace Go.Proofs.Ytkkjlmcnfoncdaa.Aw
open Go Go.RowKit
theorem nodup_inj {α : Type} {l : List α} (h : l.Nodup) {i j : Nat} {hi : i < l.length} {hj : j < l.length} (e : l[i] = l[j]) : i = j := by
  have h' := List.pairwise_iff_getElem.1 h
  rcases Nat.lt_trichotomy i j with h1 | h1 | h1
  · exact absurd e (h' i j hi hj h1)
  · exact h1
  · exact absurd e.symm (h' j i hj hi h1)
theorem slotN_eq (key : List Int) (size k : Nat) (hk : k < size) : ∃ a, a < size ∧ ∀ k, k < size → slotN key size k = if a + k < size then a + k else a + k - size := by
  refine ⟨(hashM key % size).toNat, ?_, fun k hk => ?_⟩
  · have := Int.emod_lt_of_pos (hashM key) (show 0 < (size : Int) by omega)
    have := Int.emod_nonneg (hashM key) (show (size : Int) ≠ 0 by omega)
    omega
  · have h1 := Int.emod_lt_of_pos (hashM key) (show 0 < (size : Int) by omega)
    have h0 := Int.emod_nonneg (hashM key) (show (size : Int) ≠ 0 by omega)
    unfold slotN slotM
    generalize hashM key % size = a at h0 h1
    split
    · rw [Int.emod_eq_of_lt (by omega) (by omega)]; omega
    · rw [← Int.sub_emod_right, Int.emod_eq_of_lt (by omega) (by omega)]; omega
theorem slotN_lt (key : List Int) (size k : Nat) (hk : k < size) : slotN key size k < size := by
  obtain ⟨a, ha, h⟩ := slotN_eq key size k hk
  rw [h k hk]; split <;> omega
theorem slotN_onto (key : List Int) (size p : Nat) (hp : p < size) : ∃ k, k < size ∧ slotN key size k = p := by
  obtain ⟨a, ha, h⟩ := slotN_eq key size p hp
  refine ⟨if a ≤ p then p - a else p + size - a, ?_, ?_⟩
  · split <;> omega
  · rw [h _ (by split <;> omega)]
    split <;> split <;> omega
structure Laid (K : List (List Int)) (S : List Int) (i : Nat) : Prop where
  vals : ∀ p, p < S.length → S.getD p 0 = 0 ∨ ∃ j, j < i ∧ S.getD p 0 = (j + 1 : Nat)
  one : ∀ p q, p < S.length → q < S.length → S.getD p 0 = S.getD q 0 → S.getD p 0 ≠ 0 → p = q
  all : ∀ j, j < i → ∃ k, k < S.length ∧ S.getD (slotN (K.getD j default) S.length k) 0 = (j + 1 : Nat) ∧ ∀ k', k' < k → S.getD (slotN (K.getD j default) S.length k') 0 ≠ 0
  free : S.count 0 + i = S.length
theorem getD_set_eq {S : List Int} {p : Nat} {v : Int} (h : p < S.length) : (S.set p v).getD p 0 = v := by simp [h]
theorem getD_set_ne {S : List Int} {p q : Nat} {v : Int} (h : p ≠ q) : (S.set p v).getD q 0 = S.getD q 0 := by simp [h]
theorem Laid.zero (K : List (List Int)) (n : Nat) : Laid K (List.replicate n 0) 0 where
  vals := fun p hp => .inl (by simp at hp; simp [hp])
  one := fun p q hp hq e hne => by simp at hp; simp [hp] at hne
  all := fun j hj => by omega
  free := by simp
theorem Laid.find {K : List (List Int)} {S : List Int} {i : Nat} (h : Laid K S i) (hi : i < S.length) (key : List Int) : ∃ k, k < S.length ∧ S.getD (slotN key S.length k) 0 = 0 ∧ (∀ k', k' < k → S.getD (slotN key S.length k') 0 ≠ 0) ∧ ∀ n, placeM S key n = S.set (slotN key S.length k) (n + 1) := by
  have hc : 0 < S.count 0 := by have := h.free; omega
  obtain ⟨p, hp, hpv⟩ := List.getElem_of_mem (List.count_pos_iff.1 hc)
  obtain ⟨k0, hk0, hs⟩ := slotN_onto key S.length p hp
  have hf0 : freeAt S key k0 = true := by simp [freeAt, hs, hp, hpv]
  cases hf : (List.range S.length).find? (freeAt S key) with
  | none =>
    rw [List.find?_eq_none] at hf
    have := hf k0 (List.mem_range.2 hk0)
    rw [hf0] at this
    simp at this
  | some k =>
    have hfr := List.find?_range_eq_some.1 hf
    obtain ⟨h1, h2, h3⟩ := hfr
    refine ⟨k, by simpa using h2, by simpa [freeAt] using h1, fun k' hk' => ?_, fun n => ?_⟩
    · have := h3 k' hk'
      simpa [freeAt] using this
    · unfold placeM; rw [hf]
theorem Laid.step {K : List (List Int)} {S : List Int} {i : Nat} (h : Laid K S i) (hi : i < S.length) : Laid K (placeM S (K.getD i default) i) (i + 1) := by
  obtain ⟨k, hk, hz, hbef, hpl⟩ := h.find hi (K.getD i default)
  rw [hpl]
  have hlt := slotN_lt (K.getD i default) S.length k hk
  generalize hp : slotN (K.getD i default) S.length k = p at *
  have hne : ∀ q, S.getD q 0 ≠ 0 → p ≠ q := fun q hq e => hq (by rw [← e]; exact hz)
  constructor
  · intro q hq
    rw [List.length_set] at hq
    by_cases e : p = q
    · subst e
      rw [getD_set_eq hlt]
      exact .inr ⟨i, by omega, by omega⟩
    · rw [getD_set_ne e]
      rcases h.vals q hq with h1 | ⟨j, hj, h1⟩
      · exact .inl h1
      · exact .inr ⟨j, by omega, h1⟩
  · intro q q' hq hq' e hn
    rw [List.length_set] at hq hq'
    by_cases e1 : p = q <;> by_cases e2 : p = q'
    · omega
    · subst e1
      rw [getD_set_eq hlt, getD_set_ne e2] at e
      rcases h.vals q' hq' with h1 | ⟨j, hj, h1⟩ <;> omega
    · subst e2
      rw [getD_set_eq hlt, getD_set_ne e1] at e
      rcases h.vals q hq with h1 | ⟨j, hj, h1⟩ <;> omega
    · rw [getD_set_ne e1, getD_set_ne e2] at e
      rw [getD_set_ne e1] at hn
      exact h.one q q' hq hq' e hn
  · intro j hj
    rw [List.length_set]
    by_cases e : j = i
    · subst e
      refine ⟨k, hk, by rw [hp, getD_set_eq hlt]; omega, fun k' hk' => ?_⟩
      rw [getD_set_ne (hne _ (hbef k' hk'))]
      exact hbef k' hk'
    · obtain ⟨k1, h1, h2, h3⟩ := h.all j (by omega)
      refine ⟨k1, h1, ?_, fun k' hk' => ?_⟩
      · rw [getD_set_ne (hne _ (by rw [h2]; omega))]
        exact h2
      · rw [getD_set_ne (hne _ (h3 k' hk'))]
        exact h3 k' hk'
  · have hg : S[p] = 0 := by simpa [hlt] using hz
    rw [List.length_set, List.count_set hlt, hg]
    have := h.free
    have hcp : 0 < S.count 0 := List.count_pos_iff.2 (hg ▸ List.getElem_mem hlt)
    simp only [beq_self_eq_true, if_true]
    rw [if_neg (by simp; omega)]
    omega
theorem sizeGo_big (f s n : Nat) (h : 4 * n ≤ 3 * s + f) (hs : 1 ≤ s) : 4 * n ≤ 3 * sizeGo f s n := by
  induction f generalizing s with
  | zero => simpa [sizeGo] using h
  | succ f ih =>
    simp only [sizeGo]
    split
    · exact ih _ (by omega) (by omega)
    · omega
theorem sizeM_big (n : Nat) : 4 * n ≤ 3 * sizeM n := sizeGo_big _ _ _ (by omega) (by omega)
theorem layGo_laid (K : List (List Int)) (i : Nat) (hi : i ≤ K.length) : Laid K (layGo K i) i := by
  induction i with
  | zero => exact Laid.zero K _
  | succ i ih =>
    rw [layGo_succ]
    refine (ih (by omega)).step ?_
    rw [layGo_len]
    have := sizeM_big K.length
    have := (sizeM_bound K.length).1
    omega
def putK (K : List (List Int)) (key : List Int) : List (List Int) := if key ∈ K then K else K ++ [key]
theorem nodup_at (K : List (List Int)) : K.Nodup ↔ ∀ i, i < K.length → atM K (K.getD i default) = i := by
  constructor
  · intro h i hi
    refine atM_hit K _ i hi (fun hm => ?_) rfl
    obtain ⟨j, hj, e⟩ := List.getElem_of_mem hm
    rw [List.length_take] at hj
    rw [List.getElem_take, List.getD_eq_getElem?_getD, List.getElem?_eq_getElem hi, Option.getD_some] at e
    have := nodup_inj h e
    omega
  · intro h
    refine List.pairwise_iff_getElem.2 fun i j hi hj hij e => ?_
    have h1 := h i hi
    have h2 := h j hj
    simp only [List.getD_eq_getElem?_getD, List.getElem?_eq_getElem hi, List.getElem?_eq_getElem hj, Option.getD_some, e] at h1 h2
    omega
end Go.Proofs.Ytkkjlmcnfoncdaa.Aw

namespace Go.Proofs.Ytkkjlmcnfoncdaa.Aw
open Go Go.RowKit
set_option maxRecDepth 10000
attribute [local irreducible] AWp AOL QS One AOLg QSg NX QX TRg TX AllO Fin3
variable {A : Ar} (hA : A = real)
include hA
theorem clone_c (R : List (List IC)) (hR : R.length ≤ 1000000) : PureCalls Try.prog 70 [.c (.sl 1 false R)] (.c (.sl 1 false R)) := by
  refine PureCalls.ofLe Try.func70 rfl (by kernel_rfl) rfl ?_
  try first | refine AOLg.of [] ?_ | refine QSg.of [] ?_
  repeat' (first | (refine AWp.pass ?_; first | refine AWp.seq ?_ | refine AWp.block ?_ | refine AWp.skip ?_ | refine AWp.regG [] Zc ?_ | refine AWp.cond_t rfl ?_ | refine AWp.cond_f rfl ?_ | (refine AWp.cond rfl ?_ ?_ <;> intro hc <;> (try rw [hc]) <;> ((try simp only [zn] at hc) <;> (try simp (disch := omega) only [zz hA, zb, zy, reduceCtorEq, Bool.false_eq_true, Int.reduceLT, Int.reduceLE, Int.reduceNeg] at hc) <;> (try simp only [zw] at hc)) <;> (try (exfalso; omega))) | refine AWp.exit ?_ | refine AWp.ret ⟨.inr rfl, _, RetOk.ev tabOk Zc, ?_⟩) | (refine AOLg.pass ?_; refine AOLg.nx hA tabOk Zc ?_; first | refine NX.done ?_ | refine NX.gt ?_ | refine NX.gf ?_ | (refine NX.gs ?_ ?_ <;> intro hc <;> rw [hc] <;> ((try simp only [zn] at hc) <;> (try simp (disch := omega) only [zz hA, zb, zy, reduceCtorEq, Bool.false_eq_true, Int.reduceLT, Int.reduceLE, Int.reduceNeg] at hc) <;> (try simp only [zw] at hc)) <;> (try (exfalso; omega))) | refine NX.k 8 (NX.one Z8 ?_) | refine NX.k 11 (NX.one Z11 ?_) | refine NX.k 17 (NX.one Z17 ?_) | refine NX.raw ?_) | refine Thn.exit ?_ | refine Blk.here ?_ | refine Blk.other (by decide) ?_ | refine ⟨.inl rfl, _, RetOk.ev tabOk Zc, ?_⟩ | fail)
  refine AOL.eqNil tabOk rfl rfl rfl ?_
  intro b hb
  try first | refine AOLg.of [] ?_ | refine QSg.of [] ?_
  repeat' (first | (refine AWp.pass ?_; first | refine AWp.seq ?_ | refine AWp.block ?_ | refine AWp.skip ?_ | refine AWp.regG [] Zc ?_ | refine AWp.cond_t rfl ?_ | refine AWp.cond_f rfl ?_ | (refine AWp.cond rfl ?_ ?_ <;> intro hc <;> (try rw [hc]) <;> ((try simp only [zn] at hc) <;> (try simp (disch := omega) only [zz hA, zb, zy, reduceCtorEq, Bool.false_eq_true, Int.reduceLT, Int.reduceLE, Int.reduceNeg] at hc) <;> (try simp only [zw] at hc)) <;> (try (exfalso; omega))) | refine AWp.exit ?_ | refine AWp.ret ⟨.inr rfl, _, RetOk.ev tabOk Zc, ?_⟩) | (refine AOLg.pass ?_; refine AOLg.nx hA tabOk Zc ?_; first | refine NX.done ?_ | refine NX.gt ?_ | refine NX.gf ?_ | (refine NX.gs ?_ ?_ <;> intro hc <;> rw [hc] <;> ((try simp only [zn] at hc) <;> (try simp (disch := omega) only [zz hA, zb, zy, reduceCtorEq, Bool.false_eq_true, Int.reduceLT, Int.reduceLE, Int.reduceNeg] at hc) <;> (try simp only [zw] at hc)) <;> (try (exfalso; omega))) | refine NX.k 8 (NX.one Z8 ?_) | refine NX.k 11 (NX.one Z11 ?_) | refine NX.k 17 (NX.one Z17 ?_) | refine NX.raw ?_) | refine Thn.exit ?_ | refine Blk.here ?_ | refine Blk.other (by decide) ?_ | refine ⟨.inl rfl, _, RetOk.ev tabOk Zc, ?_⟩ | fail)
  · rw [hb hc]
    exact ⟨_, rfl, .c (.nil _ _ _)⟩
  · exact ⟨_, rPV_own rfl, .refl _⟩
end Go.Proofs.Ytkkjlmcnfoncdaa.Aw

namespace Go.Proofs.Ytkkjlmcnfoncdaa.Aw
open Go Go.RowKit
set_option maxRecDepth 10000
attribute [local irreducible] AWp AOL QS One AOLg QSg NX QX TRg TX AllO Fin3
theorem slotN_succ (key : List Int) (size k : Nat) (hk : k + 1 < size) : slotN key size (k + 1) = if slotN key size k + 1 = size then 0 else slotN key size k + 1 := by
  obtain ⟨a, ha, h⟩ := slotN_eq key size k (by omega)
  rw [h _ hk, h _ (by omega)]
  split <;> split <;> split <;> omega
theorem slotN_zero (key : List Int) (size : Nat) (h : 0 < size) : ((slotN key size 0 : Nat) : Int) = hashM key % size := by
  have h0 := Int.emod_nonneg (hashM key) (show (size : Int) ≠ 0 by omega)
  have h1 := Int.emod_lt_of_pos (hashM key) (show 0 < (size : Int) by omega)
  unfold slotN slotM
  rw [Int.emod_eq_of_lt (by omega) (by omega)]
  omega
theorem hbyte_div (n : Int) (j : Nat) : n % 18446744073709551616 / 256 ^ (j + 1) = n % 18446744073709551616 / 256 ^ j / 256 := by
  rw [Int.pow_succ, Int.ediv_ediv_of_nonneg (by exact Int.le_of_lt (Int.pow_pos (by decide)))]
variable {A : Ar} (hA : A = real)
include hA
theorem refSize_c (n : Nat) (z : Int) (hz : z = n) (hn : n ≤ 10000000) : PureCalls Try.prog 83 [IP z] (IP (hid A (cN (sizeM n)))) := by
  refine PureCalls.of Try.func83 rfl (by kernel_rfl) rfl ?_
  try first | refine AOLg.of [] ?_ | refine QSg.of [] ?_
  repeat' (first | (refine AWp.pass ?_; first | refine AWp.seq ?_ | refine AWp.block ?_ | refine AWp.skip ?_ | refine AWp.regG [] Zc ?_ | refine AWp.cond_t rfl ?_ | refine AWp.cond_f rfl ?_ | (refine AWp.cond rfl ?_ ?_ <;> intro hc <;> (try rw [hc]) <;> ((try simp only [zn] at hc) <;> (try simp (disch := omega) only [zz hA, zb, zy, reduceCtorEq, Bool.false_eq_true, Int.reduceLT, Int.reduceLE, Int.reduceNeg] at hc) <;> (try simp only [zw] at hc)) <;> (try (exfalso; omega))) | refine AWp.exit ?_ | refine AWp.ret ⟨.inr rfl, _, RetOk.ev tabOk Zc, ?_⟩) | (refine AOLg.pass ?_; refine AOLg.nx hA tabOk Zc ?_; first | refine NX.done ?_ | refine NX.gt ?_ | refine NX.gf ?_ | (refine NX.gs ?_ ?_ <;> intro hc <;> rw [hc] <;> ((try simp only [zn] at hc) <;> (try simp (disch := omega) only [zz hA, zb, zy, reduceCtorEq, Bool.false_eq_true, Int.reduceLT, Int.reduceLE, Int.reduceNeg] at hc) <;> (try simp only [zw] at hc)) <;> (try (exfalso; omega))) | refine NX.raw ?_) | refine Thn.exit ?_ | refine Blk.here ?_ | refine Blk.other (by decide) ?_ | refine ⟨.inl rfl, _, RetOk.ev tabOk Zc, ?_⟩ | fail)
  refine AWp.loopU (fun x : Nat × Nat => [(3, .ic (.lit (.int .i64 (hid A (cN x.2)))))]) (fun _ => []) (fun x => x.1) (fun x => sizeGo x.1 x.2 n = sizeM n ∧ 4 * n ≤ 3 * x.2 + x.1 ∧ x.2 ≤ 8 * n + 8 ∧ 8 ≤ x.2) (4 * n, 8) (by conv => lhs; cbv) ⟨rfl, by simp, by simp, by simp⟩ (by (repeat' (first | exact subE.nil | refine subE.cons rfl ?_ | refine subE.int rfl ?_ ?_ | refine subE.bool rfl ?_ ?_ | refine subE.str rfl ?_ ?_ | refine subE.sl rfl ?_ ?_)) <;> simp [hA, real, hid, cN]) rfl ?_
  rintro ⟨f, s⟩ ⟨h1, h2, h4, h5⟩
  simp only [] at h1 h2 h4 h5 ⊢
  try first | refine AOLg.of [] ?_ | refine QSg.of [] ?_
  repeat' (first | (refine AWp.pass ?_; first | refine AWp.seq ?_ | refine AWp.block ?_ | refine AWp.skip ?_ | refine AWp.regG [] Zc ?_ | refine AWp.cond_t rfl ?_ | refine AWp.cond_f rfl ?_ | (refine AWp.cond rfl ?_ ?_ <;> intro hc <;> (try rw [hc]) <;> ((try simp only [zn] at hc) <;> (try simp (disch := omega) only [zz hA, zb, zy, reduceCtorEq, Bool.false_eq_true, Int.reduceLT, Int.reduceLE, Int.reduceNeg] at hc) <;> (try simp only [zw] at hc)) <;> (try (exfalso; omega))) | refine AWp.exit ?_ | refine AWp.ret ⟨.inr rfl, _, RetOk.ev tabOk Zc, ?_⟩) | (refine AOLg.pass ?_; refine AOLg.nx hA tabOk Zc ?_; first | refine NX.done ?_ | refine NX.gt ?_ | refine NX.gf ?_ | (refine NX.gs ?_ ?_ <;> intro hc <;> rw [hc] <;> ((try simp only [zn] at hc) <;> (try simp (disch := omega) only [zz hA, zb, zy, reduceCtorEq, Bool.false_eq_true, Int.reduceLT, Int.reduceLE, Int.reduceNeg] at hc) <;> (try simp only [zw] at hc)) <;> (try (exfalso; omega))) | refine NX.raw ?_) | refine Thn.exit ?_ | refine Blk.here ?_ | refine Blk.other (by decide) ?_ | refine ⟨.inl rfl, _, RetOk.ev tabOk Zc, ?_⟩ | fail)
  · cases f with
    | zero => omega
    | succ f =>
      refine ⟨(f, 2 * s), ?_, ?_, rfl, rfl, ?_, Zk⟩ <;> (try omega)
      repeat' (first | exact subE.nil | refine subE.cons rfl ?_ | refine subE.int rfl ?_ ?_ | refine subE.bool rfl ?_ ?_ | refine subE.str rfl ?_ ?_ | refine subE.sl rfl ?_ ?_)
      · refine ⟨?_, ?_, ?_, ?_⟩ <;> simp only [] <;> try omega
        rw [← h1, sizeGo, if_pos (by omega)]
      · exact Zd
  · refine rPV_then (by conv => lhs; cbv) ?_
    ((try simp only [zn]) <;> (try simp (disch := omega) only [zz hA, zb, zy, reduceCtorEq, Bool.false_eq_true, Int.reduceLT, Int.reduceLE, Int.reduceNeg]) <;> (try simp only [zw]))
    rw [← h1, sizeGo_done _ _ _ (by omega)]
theorem refHash_c (key : List Int) : PureCalls Try.prog 84 [intsP A key] (.c (.lit (.int .u32 (hid A (hashM key))))) := by
  refine PureCalls.lens (by kernel_rfl) fun hb => ?_
  have hl := lens_ints hA (hb (intsP A key) (by simp))
  clear hb
  simp only [maxLen] at hl
  refine PureCalls.of Try.func84 rfl (by kernel_rfl) rfl ?_
  try first | refine AOLg.of [] ?_ | refine QSg.of [] ?_
  repeat' (first | (refine AWp.pass ?_; first | refine AWp.seq ?_ | refine AWp.block ?_ | refine AWp.skip ?_ | refine AWp.regG [] Zc ?_ | refine AWp.cond_t rfl ?_ | refine AWp.cond_f rfl ?_ | (refine AWp.cond rfl ?_ ?_ <;> intro hc <;> (try rw [hc]) <;> ((try simp only [zn] at hc) <;> (try simp (disch := omega) only [zz hA, zb, zy, reduceCtorEq, Bool.false_eq_true, Int.reduceLT, Int.reduceLE, Int.reduceNeg] at hc) <;> (try simp only [zw] at hc)) <;> (try (exfalso; omega))) | refine AWp.exit ?_ | refine AWp.ret ⟨.inr rfl, _, RetOk.ev tabOk Zc, ?_⟩) | (refine AOLg.pass ?_; refine AOLg.nx hA tabOk Zc ?_; first | refine NX.done ?_ | refine NX.gt ?_ | refine NX.gf ?_ | (refine NX.gs ?_ ?_ <;> intro hc <;> rw [hc] <;> ((try simp only [zn] at hc) <;> (try simp (disch := omega) only [zz hA, zb, zy, reduceCtorEq, Bool.false_eq_true, Int.reduceLT, Int.reduceLE, Int.reduceNeg] at hc) <;> (try simp only [zw] at hc)) <;> (try (exfalso; omega))) | refine NX.k 1 (NX.one Z1 ?_) | refine NX.k 3 (NX.one Z3 ?_) | refine NX.k 4 (NX.one Z4 ?_) | refine NX.k 6 (NX.one Z6 ?_) | refine NX.k 7 (NX.one Z7 ?_) | refine NX.k 10 (NX.one Z10 ?_) | refine NX.k 14 (NX.one Z14 ?_) | refine NX.raw ?_) | refine Thn.exit ?_ | refine Blk.here ?_ | refine Blk.other (by decide) ?_ | refine ⟨.inl rfl, _, RetOk.ev tabOk Zc, ?_⟩ | fail)
  refine AWp.loopU (fun k : Nat => [(3, .ic (.lit (.int .u32 (hid A (hashM (key.take k)))))), (4, .ic (.lit (.int .i64 (hid A (cN k)))))]) (fun _ => []) (fun k => key.length - k) (fun k => k ≤ key.length) 0 (by conv => lhs; cbv) (by omega) (.int rfl (by simp [hid, hA, real, hashM]) (.int rfl (by simp [hid, hA, real, cN]) .nil)) rfl ?_
  intro k hk
  try first | refine AOLg.of [] ?_ | refine QSg.of [] ?_
  repeat' (first | (refine AWp.pass ?_; first | refine AWp.seq ?_ | refine AWp.block ?_ | refine AWp.skip ?_ | refine AWp.regG [] Zc ?_ | refine AWp.cond_t rfl ?_ | refine AWp.cond_f rfl ?_ | (refine AWp.cond rfl ?_ ?_ <;> intro hc <;> (try rw [hc]) <;> ((try simp only [zn] at hc) <;> (try simp (disch := omega) only [zz hA, zb, zy, reduceCtorEq, Bool.false_eq_true, Int.reduceLT, Int.reduceLE, Int.reduceNeg] at hc) <;> (try simp only [zw] at hc)) <;> (try (exfalso; omega))) | refine AWp.exit ?_ | refine AWp.ret ⟨.inr rfl, _, RetOk.ev tabOk Zc, ?_⟩) | (refine AOLg.pass ?_; refine AOLg.nx hA tabOk Zc ?_; first | refine NX.done ?_ | refine NX.gt ?_ | refine NX.gf ?_ | (refine NX.gs ?_ ?_ <;> intro hc <;> rw [hc] <;> ((try simp only [zn] at hc) <;> (try simp (disch := omega) only [zz hA, zb, zy, reduceCtorEq, Bool.false_eq_true, Int.reduceLT, Int.reduceLE, Int.reduceNeg] at hc) <;> (try simp only [zw] at hc)) <;> (try (exfalso; omega))) | refine NX.k 1 (NX.one Z1 ?_) | refine NX.k 3 (NX.one Z3 ?_) | refine NX.k 4 (NX.one Z4 ?_) | refine NX.k 6 (NX.one Z6 ?_) | refine NX.k 7 (NX.one Z7 ?_) | refine NX.k 10 (NX.one Z10 ?_) | refine NX.k 14 (NX.one Z14 ?_) | refine NX.raw ?_) | refine Thn.exit ?_ | refine Blk.here ?_ | refine Blk.other (by decide) ?_ | refine ⟨.inl rfl, _, RetOk.ev tabOk Zc, ?_⟩ | fail)
  · generalize hn : key.getD (A (.hid Int) fun x => cN k).toNat default = n
    refine AWp.loopU (fun j : Nat => [(3, .ic (.lit (.int .u32 (hid A (hnum (hashM (key.take k)) n j))))), (5, .ic (.lit (.int .u64 (hid A (n % 18446744073709551616 / 256 ^ j))))), (6, .ic (.lit (.int .i64 (hid A (cN j)))))]) (fun _ => []) (fun j => 8 - j) (fun j => j ≤ 8) 0 (by conv => lhs; cbv) (by omega) (.int rfl (by simp [hid, hA, real, hnum]) (.int rfl (by simp only [hA, real, hid, Int.pow_zero, Int.ediv_one, IntKind.wrap_u64]) (.int rfl (by simp [hid, hA, real, cN]) .nil))) rfl ?_
    intro j hj
    have hnn : 0 ≤ n % 18446744073709551616 / 256 ^ j := Int.ediv_nonneg (by omega) (by exact Int.le_of_lt (Int.pow_pos (by decide)))
    have hlt : n % 18446744073709551616 / 256 ^ j < 18446744073709551616 := Int.lt_of_le_of_lt (Int.ediv_le_self _ (by omega)) (by omega)
    try first | refine AOLg.of [] ?_ | refine QSg.of [] ?_
    repeat' (first | (refine AWp.pass ?_; first | refine AWp.seq ?_ | refine AWp.block ?_ | refine AWp.skip ?_ | refine AWp.regG [] Zc ?_ | refine AWp.cond_t rfl ?_ | refine AWp.cond_f rfl ?_ | (refine AWp.cond rfl ?_ ?_ <;> intro hc <;> (try rw [hc]) <;> ((try simp only [zn] at hc) <;> (try simp (disch := omega) only [zz hA, zb, zy, reduceCtorEq, Bool.false_eq_true, Int.reduceLT, Int.reduceLE, Int.reduceNeg] at hc) <;> (try simp only [zw] at hc)) <;> (try (exfalso; omega))) | refine AWp.exit ?_ | refine AWp.ret ⟨.inr rfl, _, RetOk.ev tabOk Zc, ?_⟩) | (refine AOLg.pass ?_; refine AOLg.nx hA tabOk Zc ?_; first | refine NX.done ?_ | refine NX.gt ?_ | refine NX.gf ?_ | (refine NX.gs ?_ ?_ <;> intro hc <;> rw [hc] <;> ((try simp only [zn] at hc) <;> (try simp (disch := omega) only [zz hA, zb, zy, reduceCtorEq, Bool.false_eq_true, Int.reduceLT, Int.reduceLE, Int.reduceNeg] at hc) <;> (try simp only [zw] at hc)) <;> (try (exfalso; omega))) | refine NX.k 1 (NX.one Z1 ?_) | refine NX.k 3 (NX.one Z3 ?_) | refine NX.k 4 (NX.one Z4 ?_) | refine NX.k 6 (NX.one Z6 ?_) | refine NX.k 7 (NX.one Z7 ?_) | refine NX.k 10 (NX.one Z10 ?_) | refine NX.k 14 (NX.one Z14 ?_) | refine NX.raw ?_) | refine Thn.exit ?_ | refine Blk.here ?_ | refine Blk.other (by decide) ?_ | refine ⟨.inl rfl, _, RetOk.ev tabOk Zc, ?_⟩ | fail)
    · skip
      refine ⟨j + 1, ?_, ?_, rfl, rfl, ?_, Zk⟩ <;> (try omega)
      repeat' (first | exact subE.nil | refine subE.cons rfl ?_ | refine subE.int rfl ?_ ?_ | refine subE.bool rfl ?_ ?_ | refine subE.str rfl ?_ ?_ | refine subE.sl rfl ?_ ?_)
      · ((try simp only [zn]) <;> (try simp (disch := omega) only [zz hA, zb, zy, reduceCtorEq, Bool.false_eq_true, Int.reduceLT, Int.reduceLE, Int.reduceNeg]) <;> (try simp only [zw]))
        rw [hnum_succ, hstep, hbyte]
      · ((try simp only [zn]) <;> (try simp (disch := omega) only [zz hA, zb, zy, reduceCtorEq, Bool.false_eq_true, Int.reduceLT, Int.reduceLE, Int.reduceNeg]) <;> (try simp only [zw]))
        rw [hbyte_div]
      · exact Zd
    · skip
      refine ⟨k + 1, ?_, ?_, rfl, rfl, ?_, Zk⟩ <;> (try omega)
      repeat' (first | exact subE.nil | refine subE.cons rfl ?_ | refine subE.int rfl ?_ ?_ | refine subE.bool rfl ?_ ?_ | refine subE.str rfl ?_ ?_ | refine subE.sl rfl ?_ ?_)
      · ((try simp only [zn]) <;> (try simp (disch := omega) only [zz hA, zb, zy, reduceCtorEq, Bool.false_eq_true, Int.reduceLT, Int.reduceLE, Int.reduceNeg]) <;> (try simp only [zw]))
        rw [show j = 8 by omega, take_snoc key k (by omega), hashM_snoc, ← hn]
        ((try simp only [zn]) <;> (try simp (disch := omega) only [zz hA, zb, zy, reduceCtorEq, Bool.false_eq_true, Int.reduceLT, Int.reduceLE, Int.reduceNeg]) <;> (try simp only [zw]))
      · exact Zd
  · refine rPV_then (by conv => lhs; cbv) ?_
    ((try simp only [zn]) <;> (try simp (disch := omega) only [zz hA, zb, zy, reduceCtorEq, Bool.false_eq_true, Int.reduceLT, Int.reduceLE, Int.reduceNeg]) <;> (try simp only [zw]))
    rw [List.take_of_length_le (by omega)]
theorem refLay_c (K : List (List Int)) (hK : K.length ≤ 1000000) : PureCalls Try.prog 45 [slP A 1 (encK A) K] (intsP A (layM K)) := by
  have hb := sizeM_bound K.length
  have hbig := sizeM_big K.length
  refine PureCalls.of Try.func45 rfl (by kernel_rfl) rfl ?_
  try first | refine AOLg.of [] ?_ | refine QSg.of [] ?_
  repeat' (first | (refine AWp.pass ?_; first | refine AWp.seq ?_ | refine AWp.block ?_ | refine AWp.skip ?_ | refine AWp.regG [] Zc ?_ | refine AWp.cond_t rfl ?_ | refine AWp.cond_f rfl ?_ | (refine AWp.cond rfl ?_ ?_ <;> intro hc <;> (try rw [hc]) <;> ((try simp only [zn] at hc) <;> (try simp (disch := omega) only [zz hA, zb, zy, reduceCtorEq, Bool.false_eq_true, Int.reduceLT, Int.reduceLE, Int.reduceNeg] at hc) <;> (try simp only [zw] at hc)) <;> (try (exfalso; omega))) | refine AWp.exit ?_ | refine AWp.ret ⟨.inr rfl, _, RetOk.ev tabOk Zc, ?_⟩) | (refine AOLg.pass ?_; refine AOLg.nx hA tabOk Zc ?_; first | refine NX.done ?_ | refine NX.gt ?_ | refine NX.gf ?_ | (refine NX.gs ?_ ?_ <;> intro hc <;> rw [hc] <;> ((try simp only [zn] at hc) <;> (try simp (disch := omega) only [zz hA, zb, zy, reduceCtorEq, Bool.false_eq_true, Int.reduceLT, Int.reduceLE, Int.reduceNeg] at hc) <;> (try simp only [zw] at hc)) <;> (try (exfalso; omega))) | (refine NX.kC ?_; first | ((with_reducible refine NX.call (refSize_c hA K.length _ ?_ (by omega)) ?_) <;> (first | refine AOLg.pass ?_ | exact Zd)) | ((first | refine NX.call (refSize_c hA K.length _ ?_ (by omega)) ?_) <;> (first | refine AOLg.pass ?_ | exact Zd)) | fail) | (refine NX.kO ?_; (first | refine NX.callO (refSize_c hA K.length _ ?_ (by omega)) (by simp [allEq]) rfl ?_) <;> (first | refine AOLg.pass ?_ | exact Zd)) | refine NX.k 1 (NX.one Z1 ?_) | refine NX.k 4 (NX.one Z4 ?_) | refine NX.k 7 (NX.one Z7 ?_) | refine NX.k 8 (NX.one Z8 ?_) | refine NX.k 9 (NX.one Z9 ?_) | refine NX.k 10 (NX.one Z10 ?_) | refine NX.k 14 (NX.one Z14 ?_) | refine NX.k 15 (NX.one Z15 ?_) | refine NX.k 16 (NX.one Z16 ?_) | refine NX.raw ?_) | refine Thn.exit ?_ | refine Blk.here ?_ | refine Blk.other (by decide) ?_ | refine ⟨.inl rfl, _, RetOk.ev tabOk Zc, ?_⟩ | fail)
  refine AWp.loopU (fun k : Nat => [(4, .ic (.lit (.int .i64 (hid A (cN k)))))]) (fun k => [.row true 0 3 1 (hid A (List.map encI (layGo K k)))]) (fun k => K.length - k) (fun k => k ≤ K.length) 0 (by conv => lhs; cbv) (by omega) (by (repeat' (first | exact subE.nil | refine subE.cons rfl ?_ | refine subE.int rfl ?_ ?_ | refine subE.bool rfl ?_ ?_ | refine subE.str rfl ?_ ?_ | refine subE.sl rfl ?_ ?_)) <;> simp [hA, real, hid, cN]) (by simp only [hA, real, hid, cN, layGo, List.range_zero, List.foldl_nil, Int.toNat_natCast]) ?_
  intro i hi
  have hlk := layGo_len K i
  try first | refine AOLg.of [] ?_ | refine QSg.of [] ?_
  repeat' (first | (refine AWp.pass ?_; first | refine AWp.seq ?_ | refine AWp.block ?_ | refine AWp.skip ?_ | refine AWp.regG [] Zc ?_ | refine AWp.cond_t rfl ?_ | refine AWp.cond_f rfl ?_ | (refine AWp.cond rfl ?_ ?_ <;> intro hc <;> (try rw [hc]) <;> ((try simp only [zn] at hc) <;> (try simp (disch := omega) only [zz hA, zb, zy, reduceCtorEq, Bool.false_eq_true, Int.reduceLT, Int.reduceLE, Int.reduceNeg] at hc) <;> (try simp only [zw] at hc)) <;> (try (exfalso; omega))) | refine AWp.exit ?_ | refine AWp.ret ⟨.inr rfl, _, RetOk.ev tabOk Zc, ?_⟩) | (refine AOLg.pass ?_; refine AOLg.nx hA tabOk Zc ?_; first | refine NX.done ?_ | refine NX.gt ?_ | refine NX.gf ?_ | (refine NX.gs ?_ ?_ <;> intro hc <;> rw [hc] <;> ((try simp only [zn] at hc) <;> (try simp (disch := omega) only [zz hA, zb, zy, reduceCtorEq, Bool.false_eq_true, Int.reduceLT, Int.reduceLE, Int.reduceNeg] at hc) <;> (try simp only [zw] at hc)) <;> (try (exfalso; omega))) | refine NX.k 1 (NX.one Z1 ?_) | refine NX.k 4 (NX.one Z4 ?_) | refine NX.k 7 (NX.one Z7 ?_) | refine NX.k 8 (NX.one Z8 ?_) | refine NX.k 9 (NX.one Z9 ?_) | refine NX.k 10 (NX.one Z10 ?_) | refine NX.k 14 (NX.one Z14 ?_) | refine NX.k 15 (NX.one Z15 ?_) | refine NX.k 16 (NX.one Z16 ?_) | refine NX.raw ?_) | refine Thn.exit ?_ | refine Blk.here ?_ | refine Blk.other (by decide) ?_ | refine ⟨.inl rfl, _, RetOk.ev tabOk Zc, ?_⟩ | fail)
  · have hr := hashM_range (K.getD (A (.hid Int) fun x => cN i).toNat default)
    have hil : i < K.length := by omega
    obtain ⟨k0, hk0, hz0, hbef, hpl⟩ := (layGo_laid K i hi).find (by omega) (K.getD i default)
    try first | refine AOLg.of [] ?_ | refine QSg.of [] ?_
    repeat' (first | (refine AWp.pass ?_; first | refine AWp.seq ?_ | refine AWp.block ?_ | refine AWp.skip ?_ | refine AWp.regG [] Zc ?_ | refine AWp.cond_t rfl ?_ | refine AWp.cond_f rfl ?_ | (refine AWp.cond rfl ?_ ?_ <;> intro hc <;> (try rw [hc]) <;> ((try simp only [zn] at hc) <;> (try simp (disch := omega) only [zz hA, zb, zy, reduceCtorEq, Bool.false_eq_true, Int.reduceLT, Int.reduceLE, Int.reduceNeg] at hc) <;> (try simp only [zw] at hc)) <;> (try (exfalso; omega))) | refine AWp.exit ?_ | refine AWp.ret ⟨.inr rfl, _, RetOk.ev tabOk Zc, ?_⟩) | (refine AOLg.pass ?_; refine AOLg.nx hA tabOk Zc ?_; first | refine NX.done ?_ | refine NX.gt ?_ | refine NX.gf ?_ | (refine NX.gs ?_ ?_ <;> intro hc <;> rw [hc] <;> ((try simp only [zn] at hc) <;> (try simp (disch := omega) only [zz hA, zb, zy, reduceCtorEq, Bool.false_eq_true, Int.reduceLT, Int.reduceLE, Int.reduceNeg] at hc) <;> (try simp only [zw] at hc)) <;> (try (exfalso; omega))) | (refine NX.kC ?_; first | (with_reducible refine NX.call (refHash_c hA _) ?_) | ((first | refine NX.call (refHash_c hA _) ?_)) | fail) | (refine NX.kO ?_; (first | refine NX.callO (refHash_c hA _) (by simp [allEq]) rfl ?_)) | refine NX.k 1 (NX.one Z1 ?_) | refine NX.k 4 (NX.one Z4 ?_) | refine NX.k 7 (NX.one Z7 ?_) | refine NX.k 8 (NX.one Z8 ?_) | refine NX.k 9 (NX.one Z9 ?_) | refine NX.k 10 (NX.one Z10 ?_) | refine NX.k 14 (NX.one Z14 ?_) | refine NX.k 15 (NX.one Z15 ?_) | refine NX.k 16 (NX.one Z16 ?_) | refine NX.raw ?_) | refine Thn.exit ?_ | refine Blk.here ?_ | refine Blk.other (by decide) ?_ | refine ⟨.inl rfl, _, RetOk.ev tabOk Zc, ?_⟩ | fail)
    refine AWp.loopU (fun k : Nat => [(5, .ic (.lit (.int .i64 (hid A (cN (slotN (K.getD i default) (layGo K i).length k))))))]) (fun k => [.row true 0 3 1 (hid A (List.map encI (layGo K i)))]) (fun k => k0 - k) (fun k => k ≤ k0) 0 (by conv => lhs; cbv) (Nat.zero_le _) ?_ rfl ?_
    · refine .int rfl ?_ .nil
      have hr2 := hashM_range (K.getD i default)
      ((try simp only [zn]) <;> (try simp (disch := omega) only [zz hA, zb, zy, reduceCtorEq, Bool.false_eq_true, Int.reduceLT, Int.reduceLE, Int.reduceNeg]) <;> (try simp only [zw]))
      rw [slotN_zero _ _ (by omega)]
    · intro k hk
      have hsl := slotN_lt (K.getD i default) (layGo K i).length k (by omega)
      have e0 : ∀ p, (layGo K i).getD p default = (layGo K i).getD p 0 := fun _ => rfl
      have hlt : (layGo K i).getD (slotN (K.getD i default) (layGo K i).length k) 0 ≠ 0 → k < k0 := fun h => by
        rcases Nat.lt_or_ge k k0 with h1 | h1
        · exact h1
        · rw [show k = k0 by omega] at h
          exact absurd hz0 h
      try first | refine AOLg.of [] ?_ | refine QSg.of [] ?_
      repeat' (first | (refine AWp.pass ?_; first | refine AWp.seq ?_ | refine AWp.block ?_ | refine AWp.skip ?_ | refine AWp.regG [] Zc ?_ | refine AWp.cond_t rfl ?_ | refine AWp.cond_f rfl ?_ | (refine AWp.cond rfl ?_ ?_ <;> intro hc <;> (try rw [hc]) <;> ((try simp only [zn] at hc) <;> (try simp (disch := omega) only [zz hA, zb, zy, reduceCtorEq, Bool.false_eq_true, Int.reduceLT, Int.reduceLE, Int.reduceNeg] at hc) <;> (try simp only [zw] at hc)) <;> (try (exfalso; omega))) | refine AWp.exit ?_ | refine AWp.ret ⟨.inr rfl, _, RetOk.ev tabOk Zc, ?_⟩) | (refine AOLg.pass ?_; refine AOLg.nx hA tabOk Zc ?_; first | refine NX.done ?_ | refine NX.gt ?_ | refine NX.gf ?_ | (refine NX.gs ?_ ?_ <;> intro hc <;> rw [hc] <;> ((try simp only [zn] at hc) <;> (try simp (disch := omega) only [zz hA, zb, zy, reduceCtorEq, Bool.false_eq_true, Int.reduceLT, Int.reduceLE, Int.reduceNeg] at hc) <;> (try simp only [zw] at hc)) <;> (try (exfalso; omega))) | refine NX.k 1 (NX.one Z1 ?_) | refine NX.k 4 (NX.one Z4 ?_) | refine NX.k 7 (NX.one Z7 ?_) | refine NX.k 8 (NX.one Z8 ?_) | refine NX.k 9 (NX.one Z9 ?_) | refine NX.k 10 (NX.one Z10 ?_) | refine NX.k 14 (NX.one Z14 ?_) | refine NX.k 15 (NX.one Z15 ?_) | refine NX.k 16 (NX.one Z16 ?_) | refine NX.raw ?_) | refine Thn.exit ?_ | refine Blk.here ?_ | refine Blk.other (by decide) ?_ | refine ⟨.inl rfl, _, RetOk.ev tabOk Zc, ?_⟩ | fail)
      · have hk2 : k < k0 := hlt (by assumption)
        have hsu := slotN_succ (K.getD i default) (layGo K i).length k (by omega)
        rw [if_pos (by omega)] at hsu
        refine ⟨k + 1, ?_, ?_, rfl, rfl, ?_, Zk⟩ <;> (try omega)
        repeat' (first | exact subE.nil | refine subE.cons rfl ?_ | refine subE.int rfl ?_ ?_ | refine subE.bool rfl ?_ ?_ | refine subE.str rfl ?_ ?_ | refine subE.sl rfl ?_ ?_)
        ((try simp only [zn]) <;> (try simp (disch := omega) only [zz hA, zb, zy, reduceCtorEq, Bool.false_eq_true, Int.reduceLT, Int.reduceLE, Int.reduceNeg]) <;> (try simp only [zw]))
        rw [hsu]
        rfl
      · have hk2 : k < k0 := hlt (by assumption)
        have hsu := slotN_succ (K.getD i default) (layGo K i).length k (by omega)
        rw [if_neg (by omega)] at hsu
        refine ⟨k + 1, ?_, ?_, rfl, rfl, ?_, Zk⟩ <;> (try omega)
        repeat' (first | exact subE.nil | refine subE.cons rfl ?_ | refine subE.int rfl ?_ ?_ | refine subE.bool rfl ?_ ?_ | refine subE.str rfl ?_ ?_ | refine subE.sl rfl ?_ ?_)
        ((try simp only [zn]) <;> (try simp (disch := omega) only [zz hA, zb, zy, reduceCtorEq, Bool.false_eq_true, Int.reduceLT, Int.reduceLE, Int.reduceNeg]) <;> (try simp only [zw]))
        rw [hsu]
        rfl
      · have hk2 : k = k0 := by
          rcases Nat.lt_or_ge k k0 with h1 | h1
          · exact absurd hc (hbef k h1)
          · omega
        subst hk2
        refine ⟨i + 1, ?_, ?_, rfl, ?_, ?_, Zk⟩ <;> (try omega)
        · rw [layGo_succ, hpl]
          ((try simp only [zn]) <;> (try simp (disch := omega) only [zz hA, zb, zy, reduceCtorEq, Bool.false_eq_true, Int.reduceLT, Int.reduceLE, Int.reduceNeg]) <;> (try simp only [zw]))
        · (repeat' (first | exact subE.nil | refine subE.cons rfl ?_ | refine subE.int rfl ?_ ?_ | refine subE.bool rfl ?_ ?_ | refine subE.str rfl ?_ ?_ | refine subE.sl rfl ?_ ?_))
          exact Zd
  · refine rPV_then (by conv => lhs; cbv) ?_
    ((try simp only [zn]) <;> (try simp (disch := omega) only [zz hA, zb, zy, reduceCtorEq, Bool.false_eq_true, Int.reduceLT, Int.reduceLE, Int.reduceNeg]) <;> (try simp only [zw]))
    rw [layM, show K.length = i by omega]
    simp [hid, real, hA]
end Go.Proofs.Ytkkjlmcnfoncdaa.Aw

namespace Go.Proofs.Ytkkjlmcnfoncdaa.Aw
open Go Go.RowKit
set_option maxRecDepth 10000
attribute [local irreducible] AWp AOL QS One AOLg QSg NX QX TRg TX AllO Fin3
theorem nodup_false {K : List (List Int)} {i : Nat} (hi : i < K.length) (h : atM K (K.getD i default) ≠ i) : ¬ K.Nodup := fun hn => h ((nodup_at K).1 hn i hi)
variable {A : Ar} (hA : A = real)
include hA
theorem refRight_c (K : List (List Int)) (S : List Int) (hK : K.length ≤ 1000000) : PureCalls Try.prog 77 [keyedPV A K S] (BP (hid A (decide (K.Nodup ∧ S = layM K)))) := by
  refine PureCalls.of Try.func77 rfl (by kernel_rfl) rfl ?_
  try first | refine AOLg.of [] ?_ | refine QSg.of [] ?_
  repeat' (first | (refine AWp.pass ?_; first | refine AWp.seq ?_ | refine AWp.block ?_ | refine AWp.skip ?_ | refine AWp.regG [] Zc ?_ | refine AWp.cond_t rfl ?_ | refine AWp.cond_f rfl ?_ | (refine AWp.cond rfl ?_ ?_ <;> intro hc <;> (try rw [hc]) <;> ((try simp only [zn] at hc) <;> (try simp (disch := omega) only [zz hA, zb, zy, reduceCtorEq, Bool.false_eq_true, Int.reduceLT, Int.reduceLE, Int.reduceNeg] at hc) <;> (try simp only [zw] at hc)) <;> (try (exfalso; omega))) | refine AWp.exit ?_ | refine AWp.ret ⟨.inr rfl, _, RetOk.ev tabOk Zc, ?_⟩ | refine AWp.drawVG [] rfl (by decide +kernel) Zc ?_) | (refine AOLg.pass ?_; refine AOLg.nx hA tabOk Zc ?_; first | refine NX.done ?_ | refine NX.gt ?_ | refine NX.gf ?_ | (refine NX.gs ?_ ?_ <;> intro hc <;> rw [hc] <;> ((try simp only [zn] at hc) <;> (try simp (disch := omega) only [zz hA, zb, zy, reduceCtorEq, Bool.false_eq_true, Int.reduceLT, Int.reduceLE, Int.reduceNeg] at hc) <;> (try simp only [zw] at hc)) <;> (try (exfalso; omega))) | refine NX.k 1 (NX.one Z1 ?_) | refine NX.k 7 (NX.one Z7 ?_) | refine NX.k 9 (NX.one Z9 ?_) | refine NX.k 10 (NX.one Z10 ?_) | refine NX.k 14 (NX.one Z14 ?_) | refine NX.k 18 (NX.one Z18 ?_) | refine NX.raw ?_) | (refine TRg.pass ?_; refine TRg.nx hA tabOk Zc ?_; first | refine TX.done ?_ | refine TX.gt ?_ | refine TX.gf ?_ | (refine TX.gs ?_ ?_ <;> intro hc <;> rw [hc] <;> ((try simp only [zn] at hc) <;> (try simp (disch := omega) only [zz hA, zb, zy, reduceCtorEq, Bool.false_eq_true, Int.reduceLT, Int.reduceLE, Int.reduceNeg] at hc) <;> (try simp only [zw] at hc)) <;> (try (exfalso; omega))) | refine TX.k 1 (TX.one Z1 ?_) | refine TX.k 7 (TX.one Z7 ?_) | refine TX.k 9 (TX.one Z9 ?_) | refine TX.k 10 (TX.one Z10 ?_) | refine TX.k 14 (TX.one Z14 ?_) | refine TX.k 18 (TX.one Z18 ?_) | refine TX.raw ?_) | refine Fin3.of Zc (by repeat' (first | exact True.intro | exact rfl | refine And.intro ?_ ?_)) ?_ ?_ | (refine AllO.pass ?_; first | exact AllO.nil | (refine AllO.cons (One.ev hA tabOk ?_) ?_ <;> (first | refine AllO.pass ?_ | ((conv => lhs; cbv); done))) | (refine AllO.cons (One.skipB ?_) ?_ <;> (first | refine AllO.pass ?_ | ((conv => lhs; cbv); done))) | refine AllO.consX ZX rfl rfl ?_) | refine Thn.exit ?_ | refine Blk.here ?_ | refine Blk.other (by decide) ?_ | refine ⟨.inl rfl, _, RetOk.ev tabOk Zc, ?_⟩ | fail)
  refine AWp.loopU (fun k : Nat => [(3, .ic (.lit (.int .i64 (hid A (cN k)))))]) (fun _ => [.var true 26 [.ic (.sl 1 false (hid A (List.map (encK A) K))), .ic (.sl 1 false (hid A (List.map encI S)))]]) (fun k => K.length - k) (fun k => k ≤ K.length ∧ ∀ i, i < k → atM K (K.getD i default) = i) 0 (by conv => lhs; cbv) ⟨by omega, by simp⟩ (by (repeat' (first | exact subE.nil | refine subE.cons rfl ?_ | refine subE.int rfl ?_ ?_ | refine subE.bool rfl ?_ ?_ | refine subE.str rfl ?_ ?_ | refine subE.sl rfl ?_ ?_)) <;> simp [hA, real, hid, cN]) rfl ?_
  rintro k ⟨hk, hat⟩
  try first | refine AOLg.of [] ?_ | refine QSg.of [] ?_
  repeat' (first | (refine AWp.pass ?_; first | refine AWp.seq ?_ | refine AWp.block ?_ | refine AWp.skip ?_ | refine AWp.regG [] Zc ?_ | refine AWp.cond_t rfl ?_ | refine AWp.cond_f rfl ?_ | (refine AWp.cond rfl ?_ ?_ <;> intro hc <;> (try rw [hc]) <;> ((try simp only [zn] at hc) <;> (try simp (disch := omega) only [zz hA, zb, zy, reduceCtorEq, Bool.false_eq_true, Int.reduceLT, Int.reduceLE, Int.reduceNeg] at hc) <;> (try simp only [zw] at hc)) <;> (try (exfalso; omega))) | refine AWp.exit ?_ | refine AWp.ret ⟨.inr rfl, _, RetOk.ev tabOk Zc, ?_⟩ | refine AWp.drawVG [] rfl (by decide +kernel) Zc ?_) | (refine AOLg.pass ?_; refine AOLg.nx hA tabOk Zc ?_; first | refine NX.done ?_ | refine NX.gt ?_ | refine NX.gf ?_ | (refine NX.gs ?_ ?_ <;> intro hc <;> rw [hc] <;> ((try simp only [zn] at hc) <;> (try simp (disch := omega) only [zz hA, zb, zy, reduceCtorEq, Bool.false_eq_true, Int.reduceLT, Int.reduceLE, Int.reduceNeg] at hc) <;> (try simp only [zw] at hc)) <;> (try (exfalso; omega))) | (refine NX.kC ?_; first | (with_reducible refine NX.call (refAt_c hA _ _) ?_) | (with_reducible refine NX.call (refLay_c hA K hK) ?_) | (with_reducible refine NX.call (refInts_c hA _ _) ?_) | ((first | refine NX.call (refAt_c hA _ _) ?_ | refine NX.call (refLay_c hA K hK) ?_ | refine NX.call (refInts_c hA _ _) ?_)) | fail) | (refine NX.kO ?_; (first | refine NX.callO (refAt_c hA _ _) (by simp [allEq]) rfl ?_ | refine NX.callO (refLay_c hA K hK) (by simp [allEq]) rfl ?_ | refine NX.callO (refInts_c hA _ _) (by simp [allEq]) rfl ?_)) | refine NX.k 1 (NX.one Z1 ?_) | refine NX.k 7 (NX.one Z7 ?_) | refine NX.k 9 (NX.one Z9 ?_) | refine NX.k 10 (NX.one Z10 ?_) | refine NX.k 14 (NX.one Z14 ?_) | refine NX.k 18 (NX.one Z18 ?_) | refine NX.raw ?_) | (refine TRg.pass ?_; refine TRg.nx hA tabOk Zc ?_; first | refine TX.done ?_ | refine TX.gt ?_ | refine TX.gf ?_ | (refine TX.gs ?_ ?_ <;> intro hc <;> rw [hc] <;> ((try simp only [zn] at hc) <;> (try simp (disch := omega) only [zz hA, zb, zy, reduceCtorEq, Bool.false_eq_true, Int.reduceLT, Int.reduceLE, Int.reduceNeg] at hc) <;> (try simp only [zw] at hc)) <;> (try (exfalso; omega))) | (refine TX.kC ?_; first | (with_reducible refine TX.call (refAt_c hA _ _) ?_) | (with_reducible refine TX.call (refLay_c hA K hK) ?_) | (with_reducible refine TX.call (refInts_c hA _ _) ?_) | ((first | refine TX.call (refAt_c hA _ _) ?_ | refine TX.call (refLay_c hA K hK) ?_ | refine TX.call (refInts_c hA _ _) ?_)) | fail) | (refine TX.kO ?_; (first | refine TX.callO (refAt_c hA _ _) (by simp [allEq]) rfl ?_ | refine TX.callO (refLay_c hA K hK) (by simp [allEq]) rfl ?_ | refine TX.callO (refInts_c hA _ _) (by simp [allEq]) rfl ?_)) | refine TX.k 1 (TX.one Z1 ?_) | refine TX.k 7 (TX.one Z7 ?_) | refine TX.k 9 (TX.one Z9 ?_) | refine TX.k 10 (TX.one Z10 ?_) | refine TX.k 14 (TX.one Z14 ?_) | refine TX.k 18 (TX.one Z18 ?_) | refine TX.raw ?_) | refine Fin3.of Zc (by repeat' (first | exact True.intro | exact rfl | refine And.intro ?_ ?_)) ?_ ?_ | (refine AllO.pass ?_; first | exact AllO.nil | (refine AllO.cons (One.ev hA tabOk ?_) ?_ <;> (first | refine AllO.pass ?_ | ((conv => lhs; cbv); done))) | (refine AllO.cons (One.skipB ?_) ?_ <;> (first | refine AllO.pass ?_ | ((conv => lhs; cbv); done))) | ((with_reducible refine AllO.call Zc (refAt_c hA _ _) ?_ ?_) <;> (first | refine AllO.pass ?_ | exact rfl | exact Zd)) | ((with_reducible refine AllO.call Zc (refLay_c hA K hK) ?_ ?_) <;> (first | refine AllO.pass ?_ | exact rfl | exact Zd)) | ((with_reducible refine AllO.call Zc (refInts_c hA _ _) ?_ ?_) <;> (first | refine AllO.pass ?_ | exact rfl | exact Zd)) | refine AllO.consX ZX rfl rfl ?_) | refine Thn.exit ?_ | refine Blk.here ?_ | refine Blk.other (by decide) ?_ | refine ⟨.inl rfl, _, RetOk.ev tabOk Zc, ?_⟩ | fail)
  · refine rPV_then (by conv => lhs; cbv) ?_
    ((try simp only [zn]) <;> (try simp (disch := omega) only [zz hA, zb, zy, reduceCtorEq, Bool.false_eq_true, Int.reduceLT, Int.reduceLE, Int.reduceNeg]) <;> (try simp only [zw]))
    rw [decide_eq_false fun h => nodup_false (K := K) (i := k) (by omega) hc h.1]
  · refine ⟨k + 1, ?_, ?_, rfl, rfl, ?_, Zk⟩ <;> (try omega)
    repeat' (first | exact subE.nil | refine subE.cons rfl ?_ | refine subE.int rfl ?_ ?_ | refine subE.bool rfl ?_ ?_ | refine subE.str rfl ?_ ?_ | refine subE.sl rfl ?_ ?_)
    · refine ⟨by omega, fun i hi => ?_⟩
      rcases Nat.lt_or_ge i k with h | h
      · exact hat i h
      · obtain rfl : i = k := by omega
        exact hc
    · exact Zd
  · refine rPV_then (by conv => lhs; cbv) ?_
    ((try simp only [zn]) <;> (try simp (disch := omega) only [zz hA, zb, zy, reduceCtorEq, Bool.false_eq_true, Int.reduceLT, Int.reduceLE, Int.reduceNeg]) <;> (try simp only [zw]))
    have hn : K.Nodup := (nodup_at K).2 fun i hi => hat i (by omega)
    simp [hn]
end Go.Proofs.Ytkkjlmcnfoncdaa.Aw

namespace Go.Proofs.Ytkkjlmcnfoncdaa.Aw
open Go Go.RowKit
set_option maxRecDepth 10000
attribute [local irreducible] AWp AOL QS One AOLg QSg NX QX TRg TX AllO Fin3
variable {A : Ar} (hA : A = real)
include hA
end Go.Proofs.Ytkkjlmcnfoncdaa.Aw

namespace Go.Proofs.Ytkkjlmcnfoncdaa.Aw
open Go Go.RowKit
abbrev tabPV (A : Ar) (K : List (List Int)) : PV := keyedPV A K (layM K)
theorem few_bounds {K : List (List Int)} {S : List Int} (h : fewM K S = true) : S.length ≤ 2000 ∧ K.length ≤ 2000 ∧ ∀ x ∈ K, x.length ≤ 2000 := by
  have h1 : totM K S K.length ≤ 2000 := by simpa [fewM] using h
  have h2 : ∀ l : List (List Int), l.length ≤ (l.map fun x => 1 + x.length).sum ∧ ∀ x ∈ l, x.length ≤ (l.map fun x => 1 + x.length).sum := by
    intro l
    induction l with
    | nil => simp
    | cons y r ih =>
      simp only [List.map_cons, List.sum_cons, List.length_cons, List.mem_cons]
      refine ⟨by omega, ?_⟩
      rintro x (rfl | hx)
      · omega
      · have := ih.2 x hx; omega
  unfold totM at h1
  rw [List.take_length] at h1
  obtain ⟨h3, h4⟩ := h2 K
  exact ⟨by omega, by omega, fun x hx => by have := h4 x hx; omega⟩
end Go.Proofs.Ytkkjlmcnfoncdaa.Aw

namespace Go.Proofs.Ytkkjlmcnfoncdaa.Aw
open Go Go.RowKit
def FitsK (K : List (List Int)) (S : List Int) : Prop := S.length ≤ 2000000000000000000 ∧ K.length ≤ 2000000000000000000 ∧ ∀ x ∈ K, x.length ≤ 2000000000000000000
theorem FitsK.nil {K : List (List Int)} {S : List Int} (h : FitsK K S) : FitsK K [] := ⟨by simp, h.2.1, h.2.2⟩
def shKeyed : List Sh := [.sl 24 (.sl 8 (.int .i64)), .sl 8 (.int .i64)]
theorem decInts2 {rows : List (List IC)} (h : ∀ r ∈ rows, Dec (.int .i64) r) : ∃ l : List Int, rows = hid real (List.map encI l) := by
  obtain ⟨l, rfl, _⟩ := decInts h
  exact ⟨l, rfl⟩
theorem decKeys {rows : List (List IC)} (h : ∀ r ∈ rows, Dec (.sl 8 (.int .i64)) r) : ∃ K : List (List Int), rows = hid real (List.map (encK real) K) ∧ ∀ x ∈ K, x.length ≤ 2000000000000000000 := by
  induction rows with
  | nil => exact ⟨[], rfl, by simp⟩
  | cons r rs ih =>
    obtain ⟨K, hK, hb⟩ := ih fun x hx => h x (List.mem_cons_of_mem _ hx)
    obtain ⟨q, rfl, hq, hl⟩ := h r List.mem_cons_self
    obtain ⟨l, rfl⟩ := decInts2 hq
    refine ⟨l :: K, by rw [hK]; rfl, fun x hx => ?_⟩
    rcases List.mem_cons.1 hx with rfl | hx
    · have : (List.map encI x).length * 8 ≤ 140737488351232 := hl
      rw [List.length_map] at this
      omega
    · exact hb x hx
theorem decKeyed {ics : List IC} (h : Decs shKeyed ics) : ∃ (K : List (List Int)) (S : List Int), ics = [.sl 1 false (hid real (List.map (encK real) K)), .sl 1 false (hid real (List.map encI S))] ∧ FitsK K S := by
  obtain ⟨a1, b1, rfl, ⟨r1, rfl, h1, l1⟩, a2, b2, rfl, ⟨r2, rfl, h2, l2⟩, rfl⟩ := h
  obtain ⟨K, rfl, hK⟩ := decKeys h1
  obtain ⟨S, rfl⟩ := decInts2 h2
  have e1 : (List.map (encK real) K).length * 24 ≤ 140737488351232 := l1
  have e2 : (List.map encI S).length * 8 ≤ 140737488351232 := l2
  rw [List.length_map] at e1 e2
  exact ⟨K, S, rfl, by omega, by omega, hK⟩
end Go.Proofs.Ytkkjlmcnfoncdaa.Aw

namespace Go.Proofs.Ytkkjlmcnfoncdaa.Aw
open Go Go.RowKit
set_option maxRecDepth 10000
attribute [local irreducible] AWp AOL QS One AOLg QSg NX QX TRg TX AllO Fin3
abbrev tmP (A : Ar) (k s p : Int) (l : List Int) : PV := .agg [.lit (.int .i64 k), .lit (.int .i64 s), .lit (.int .i64 p), .sl 1 false (hid A (List.map encI l))]
def keyT (k s p : Int) (l : List Int) : List Int := k :: s :: p :: l
variable {A : Ar} (hA : A = real)
include hA
theorem of_c1 (k s p : Int) (l : List Int) (hl : l.length ≤ 1000000) : PureCalls Try.prog 101 [intsP A (keyT k s p l)] (.tup [tmP A k s p l, BP true]) := by
  have hlk : (keyT k s p l).length = l.length + 3 := rfl
  refine PureCalls.of Try.func101 rfl (by kernel_rfl) rfl ?_
  try first | refine AOLg.of [] ?_ | refine QSg.of [] ?_
  repeat' (first | (refine AWp.pass ?_; first | refine AWp.seq ?_ | refine AWp.block ?_ | refine AWp.skip ?_ | refine AWp.regG [] Zc ?_ | refine AWp.cond_t rfl ?_ | refine AWp.cond_f rfl ?_ | (refine AWp.cond rfl ?_ ?_ <;> intro hc <;> (try rw [hc]) <;> ((try simp only [zn] at hc) <;> (try simp (disch := omega) only [zz hA, zb, zy, reduceCtorEq, Bool.false_eq_true, Int.reduceLT, Int.reduceLE, Int.reduceNeg] at hc) <;> (try simp only [zw] at hc)) <;> (try (exfalso; omega))) | refine AWp.exit ?_ | refine AWp.ret ⟨.inr rfl, _, RetOk.ev tabOk Zc, ?_⟩ | refine AWp.drawVG [] rfl (by decide +kernel) Zc ?_) | (refine AOLg.pass ?_; refine AOLg.nx hA tabOk Zc ?_; first | refine NX.done ?_ | refine NX.gt ?_ | refine NX.gf ?_ | (refine NX.gs ?_ ?_ <;> intro hc <;> rw [hc] <;> ((try simp only [zn] at hc) <;> (try simp (disch := omega) only [zz hA, zb, zy, reduceCtorEq, Bool.false_eq_true, Int.reduceLT, Int.reduceLE, Int.reduceNeg] at hc) <;> (try simp only [zw] at hc)) <;> (try (exfalso; omega))) | (refine NX.kC ?_; first | ((with_reducible refine NX.call (clone_c hA _ ?_) ?_) <;> (first | refine AOLg.pass ?_ | exact Zd)) | ((first | refine NX.call (clone_c hA _ ?_) ?_) <;> (first | refine AOLg.pass ?_ | exact Zd)) | fail) | (refine NX.kO ?_; (first | refine NX.callO (clone_c hA _ ?_) (by simp [allEq]) rfl ?_) <;> (first | refine AOLg.pass ?_ | exact Zd)) | refine NX.k 1 (NX.one Z1 ?_) | refine NX.k 2 (NX.one Z2 ?_) | refine NX.k 10 (NX.one Z10 ?_) | refine NX.k 14 (NX.one Z14 ?_) | refine NX.k 15 (NX.one Z15 ?_) | refine NX.raw ?_) | (refine TRg.pass ?_; refine TRg.nx hA tabOk Zc ?_; first | refine TX.done ?_ | refine TX.gt ?_ | refine TX.gf ?_ | (refine TX.gs ?_ ?_ <;> intro hc <;> rw [hc] <;> ((try simp only [zn] at hc) <;> (try simp (disch := omega) only [zz hA, zb, zy, reduceCtorEq, Bool.false_eq_true, Int.reduceLT, Int.reduceLE, Int.reduceNeg] at hc) <;> (try simp only [zw] at hc)) <;> (try (exfalso; omega))) | (refine TX.kC ?_; first | ((with_reducible refine TX.call (clone_c hA _ ?_) ?_) <;> (first | refine TRg.pass ?_ | exact Zd)) | ((first | refine TX.call (clone_c hA _ ?_) ?_) <;> (first | refine TRg.pass ?_ | exact Zd)) | fail) | (refine TX.kO ?_; (first | refine TX.callO (clone_c hA _ ?_) (by simp [allEq]) rfl ?_) <;> (first | refine TRg.pass ?_ | exact Zd)) | refine TX.k 1 (TX.one Z1 ?_) | refine TX.k 2 (TX.one Z2 ?_) | refine TX.k 10 (TX.one Z10 ?_) | refine TX.k 14 (TX.one Z14 ?_) | refine TX.k 15 (TX.one Z15 ?_) | refine TX.raw ?_) | refine Fin3.of Zc (by repeat' (first | exact True.intro | exact rfl | refine And.intro ?_ ?_)) ?_ ?_ | (refine AllO.pass ?_; first | exact AllO.nil | (refine AllO.cons (One.ev hA tabOk ?_) ?_ <;> (first | refine AllO.pass ?_ | ((conv => lhs; cbv); done))) | (refine AllO.cons (One.skipB ?_) ?_ <;> (first | refine AllO.pass ?_ | ((conv => lhs; cbv); done))) | ((with_reducible refine AllO.call Zc (clone_c hA _ ?_) ?_ ?_) <;> (first | refine AllO.pass ?_ | exact rfl | exact Zd)) | refine AllO.consX ZX rfl rfl ?_) | refine Thn.exit ?_ | refine Blk.here ?_ | refine Blk.other (by decide) ?_ | refine ⟨.inl rfl, _, RetOk.ev tabOk Zc, ?_⟩ | fail)
  refine rPV_then (by conv => lhs; cbv) ?_
  simp [hA, real, hid, keyT, encI]
theorem refOf_c1 (K : List (List Int)) (S : List Int) (id : Nat) (k s p : Int) (l : List Int) (hi : id < K.length) (hk : K.getD id default = keyT k s p l) (hl : l.length ≤ 1000000) : ∀ z : Int, z = id → PureCalls Try.prog 42 [keyedPV A K S, IP z] (.tup [tmP A k s p l, BP true]) := by
  intro z hz
  have hzn : z.toNat = id := by omega
  have hlk : (K.getD z.toNat default).length = l.length + 3 := by rw [hzn, hk]; rfl
  refine PureCalls.of Try.func42 rfl (by kernel_rfl) rfl ?_
  try first | refine AOLg.of [] ?_ | refine QSg.of [] ?_
  repeat' (first | (refine AWp.pass ?_; first | refine AWp.seq ?_ | refine AWp.block ?_ | refine AWp.skip ?_ | refine AWp.regG [] Zc ?_ | refine AWp.cond_t rfl ?_ | refine AWp.cond_f rfl ?_ | (refine AWp.cond rfl ?_ ?_ <;> intro hc <;> (try rw [hc]) <;> ((try simp only [zn] at hc) <;> (try simp (disch := omega) only [zz hA, zb, zy, reduceCtorEq, Bool.false_eq_true, Int.reduceLT, Int.reduceLE, Int.reduceNeg] at hc) <;> (try simp only [zw] at hc)) <;> (try (exfalso; omega))) | refine AWp.exit ?_ | refine AWp.ret ⟨.inr rfl, _, RetOk.ev tabOk Zc, ?_⟩ | refine AWp.drawVG [] rfl (by decide +kernel) Zc ?_) | (refine AOLg.pass ?_; refine AOLg.nx hA tabOk Zc ?_; first | refine NX.done ?_ | refine NX.gt ?_ | refine NX.gf ?_ | (refine NX.gs ?_ ?_ <;> intro hc <;> rw [hc] <;> ((try simp only [zn] at hc) <;> (try simp (disch := omega) only [zz hA, zb, zy, reduceCtorEq, Bool.false_eq_true, Int.reduceLT, Int.reduceLE, Int.reduceNeg] at hc) <;> (try simp only [zw] at hc)) <;> (try (exfalso; omega))) | refine NX.k 1 (NX.one Z1 ?_) | refine NX.k 2 (NX.one Z2 ?_) | refine NX.k 10 (NX.one Z10 ?_) | refine NX.k 14 (NX.one Z14 ?_) | refine NX.k 15 (NX.one Z15 ?_) | refine NX.k 18 (NX.one Z18 ?_) | refine NX.raw ?_) | (refine TRg.pass ?_; refine TRg.nx hA tabOk Zc ?_; first | refine TX.done ?_ | refine TX.gt ?_ | refine TX.gf ?_ | (refine TX.gs ?_ ?_ <;> intro hc <;> rw [hc] <;> ((try simp only [zn] at hc) <;> (try simp (disch := omega) only [zz hA, zb, zy, reduceCtorEq, Bool.false_eq_true, Int.reduceLT, Int.reduceLE, Int.reduceNeg] at hc) <;> (try simp only [zw] at hc)) <;> (try (exfalso; omega))) | refine TX.k 1 (TX.one Z1 ?_) | refine TX.k 2 (TX.one Z2 ?_) | refine TX.k 10 (TX.one Z10 ?_) | refine TX.k 14 (TX.one Z14 ?_) | refine TX.k 15 (TX.one Z15 ?_) | refine TX.k 18 (TX.one Z18 ?_) | refine TX.raw ?_) | refine Fin3.of Zc (by repeat' (first | exact True.intro | exact rfl | refine And.intro ?_ ?_)) ?_ ?_ | (refine AllO.pass ?_; first | exact AllO.nil | (refine AllO.cons (One.ev hA tabOk ?_) ?_ <;> (first | refine AllO.pass ?_ | ((conv => lhs; cbv); done))) | (refine AllO.cons (One.skipB ?_) ?_ <;> (first | refine AllO.pass ?_ | ((conv => lhs; cbv); done))) | refine AllO.consX ZX rfl rfl ?_) | refine Thn.exit ?_ | refine Blk.here ?_ | refine Blk.other (by decide) ?_ | refine ⟨.inl rfl, _, RetOk.ev tabOk Zc, ?_⟩ | fail)
  all_goals first
    | (exfalso; omega)
    | (refine rPV_then (by conv => lhs; cbv) ?_
       simp only [tmP, hid_eq hA, hzn, hk]
       rfl)
theorem refOf_c0 (K : List (List Int)) (S : List Int) (z : Int) (hz : z < 0 ∨ (K.length : Int) ≤ z) : PureCalls Try.prog 42 [keyedPV A K S, IP z] (.tup [.agg [.lit (.int .i64 0), .lit (.int .i64 0), .lit (.int .i64 0), .sl 0 true []], BP false]) := by
  refine PureCalls.of Try.func42 rfl (by kernel_rfl) rfl ?_
  try first | refine AOLg.of [] ?_ | refine QSg.of [] ?_
  repeat' (first | (refine AWp.pass ?_; first | refine AWp.seq ?_ | refine AWp.block ?_ | refine AWp.skip ?_ | refine AWp.regG [] Zc ?_ | refine AWp.cond_t rfl ?_ | refine AWp.cond_f rfl ?_ | (refine AWp.cond rfl ?_ ?_ <;> intro hc <;> (try rw [hc]) <;> ((try simp only [zn] at hc) <;> (try simp (disch := omega) only [zz hA, zb, zy, reduceCtorEq, Bool.false_eq_true, Int.reduceLT, Int.reduceLE, Int.reduceNeg] at hc) <;> (try simp only [zw] at hc)) <;> (try (exfalso; omega))) | refine AWp.exit ?_ | refine AWp.ret ⟨.inr rfl, _, RetOk.ev tabOk Zc, ?_⟩ | refine AWp.drawVG [] rfl (by decide +kernel) Zc ?_) | (refine AOLg.pass ?_; refine AOLg.nx hA tabOk Zc ?_; first | refine NX.done ?_ | refine NX.gt ?_ | refine NX.gf ?_ | (refine NX.gs ?_ ?_ <;> intro hc <;> rw [hc] <;> ((try simp only [zn] at hc) <;> (try simp (disch := omega) only [zz hA, zb, zy, reduceCtorEq, Bool.false_eq_true, Int.reduceLT, Int.reduceLE, Int.reduceNeg] at hc) <;> (try simp only [zw] at hc)) <;> (try (exfalso; omega))) | refine NX.k 1 (NX.one Z1 ?_) | refine NX.k 2 (NX.one Z2 ?_) | refine NX.k 10 (NX.one Z10 ?_) | refine NX.k 14 (NX.one Z14 ?_) | refine NX.k 15 (NX.one Z15 ?_) | refine NX.k 18 (NX.one Z18 ?_) | refine NX.raw ?_) | (refine TRg.pass ?_; refine TRg.nx hA tabOk Zc ?_; first | refine TX.done ?_ | refine TX.gt ?_ | refine TX.gf ?_ | (refine TX.gs ?_ ?_ <;> intro hc <;> rw [hc] <;> ((try simp only [zn] at hc) <;> (try simp (disch := omega) only [zz hA, zb, zy, reduceCtorEq, Bool.false_eq_true, Int.reduceLT, Int.reduceLE, Int.reduceNeg] at hc) <;> (try simp only [zw] at hc)) <;> (try (exfalso; omega))) | refine TX.k 1 (TX.one Z1 ?_) | refine TX.k 2 (TX.one Z2 ?_) | refine TX.k 10 (TX.one Z10 ?_) | refine TX.k 14 (TX.one Z14 ?_) | refine TX.k 15 (TX.one Z15 ?_) | refine TX.k 18 (TX.one Z18 ?_) | refine TX.raw ?_) | refine Fin3.of Zc (by repeat' (first | exact True.intro | exact rfl | refine And.intro ?_ ?_)) ?_ ?_ | (refine AllO.pass ?_; first | exact AllO.nil | (refine AllO.cons (One.ev hA tabOk ?_) ?_ <;> (first | refine AllO.pass ?_ | ((conv => lhs; cbv); done))) | (refine AllO.cons (One.skipB ?_) ?_ <;> (first | refine AllO.pass ?_ | ((conv => lhs; cbv); done))) | refine AllO.consX ZX rfl rfl ?_) | refine Thn.exit ?_ | refine Blk.here ?_ | refine Blk.other (by decide) ?_ | refine ⟨.inl rfl, _, RetOk.ev tabOk Zc, ?_⟩ | fail)
  all_goals first
    | (exfalso; omega)
    | (refine rPV_then (by conv => lhs; cbv) ?_
       rfl)
theorem tOf_c1 (K : List (List Int)) (S : List Int) (id : Nat) (k s p : Int) (l : List Int) (hi : id < K.length) (hk : K.getD id default = keyT k s p l) (hl : l.length ≤ 1000000) : ∀ z : Int, z = id → PureCalls Try.prog 79 [keyedPV A K S, IP z] (.tup [tmP A k s p l, BP true]) := by
  intro z hz
  have hzn : z.toNat = id := by omega
  have ho : ∀ q : List Int, q = K.getD z.toNat default → PureCalls Try.prog 101 [intsP A q] (.tup [tmP A k s p l, BP true]) := by rintro _ rfl; rw [hzn, hk]; exact of_c1 hA k s p l hl
  refine PureCalls.of Try.func79 rfl (by kernel_rfl) rfl ?_
  try first | refine AOLg.of [] ?_ | refine QSg.of [] ?_
  repeat' (first | (refine AWp.pass ?_; first | refine AWp.seq ?_ | refine AWp.block ?_ | refine AWp.skip ?_ | refine AWp.regG [] Zc ?_ | refine AWp.cond_t rfl ?_ | refine AWp.cond_f rfl ?_ | (refine AWp.cond rfl ?_ ?_ <;> intro hc <;> (try rw [hc]) <;> ((try simp only [zn] at hc) <;> (try simp (disch := omega) only [zz hA, zb, zy, reduceCtorEq, Bool.false_eq_true, Int.reduceLT, Int.reduceLE, Int.reduceNeg] at hc) <;> (try simp only [zw] at hc)) <;> (try (exfalso; omega))) | refine AWp.exit ?_ | refine AWp.ret ⟨.inr rfl, _, RetOk.ev tabOk Zc, ?_⟩) | (refine AOLg.pass ?_; refine AOLg.nx hA tabOk Zc ?_; first | refine NX.done ?_ | refine NX.gt ?_ | refine NX.gf ?_ | (refine NX.gs ?_ ?_ <;> intro hc <;> rw [hc] <;> ((try simp only [zn] at hc) <;> (try simp (disch := omega) only [zz hA, zb, zy, reduceCtorEq, Bool.false_eq_true, Int.reduceLT, Int.reduceLE, Int.reduceNeg] at hc) <;> (try simp only [zw] at hc)) <;> (try (exfalso; omega))) | (refine NX.kC ?_; first | ((with_reducible refine NX.call (ho _ ?_) ?_) <;> (first | refine AOLg.pass ?_ | exact Zd)) | ((first | refine NX.call (ho _ ?_) ?_) <;> (first | refine AOLg.pass ?_ | exact Zd)) | fail) | (refine NX.kO ?_; (first | refine NX.callO (ho _ ?_) (by simp [allEq]) rfl ?_) <;> (first | refine AOLg.pass ?_ | exact Zd)) | refine NX.k 1 (NX.one Z1 ?_) | refine NX.k 10 (NX.one Z10 ?_) | refine NX.k 14 (NX.one Z14 ?_) | refine NX.k 15 (NX.one Z15 ?_) | refine NX.k 18 (NX.one Z18 ?_) | refine NX.raw ?_) | refine Thn.exit ?_ | refine Blk.here ?_ | refine Blk.other (by decide) ?_ | refine ⟨.inl rfl, _, RetOk.ev tabOk Zc, ?_⟩ | fail)
  all_goals first
    | (exfalso; omega)
    | (refine rPV_then (by conv => lhs; cbv) ?_
       rfl)
theorem tOf_c0 (K : List (List Int)) (S : List Int) (z : Int) (hz : z < 0 ∨ (K.length : Int) ≤ z) : PureCalls Try.prog 79 [keyedPV A K S, IP z] (.tup [.agg [.lit (.int .i64 0), .lit (.int .i64 0), .lit (.int .i64 0), .sl 0 true []], BP false]) := by
  refine PureCalls.of Try.func79 rfl (by kernel_rfl) rfl ?_
  try first | refine AOLg.of [] ?_ | refine QSg.of [] ?_
  repeat' (first | (refine AWp.pass ?_; first | refine AWp.seq ?_ | refine AWp.block ?_ | refine AWp.skip ?_ | refine AWp.regG [] Zc ?_ | refine AWp.cond_t rfl ?_ | refine AWp.cond_f rfl ?_ | (refine AWp.cond rfl ?_ ?_ <;> intro hc <;> (try rw [hc]) <;> ((try simp only [zn] at hc) <;> (try simp (disch := omega) only [zz hA, zb, zy, reduceCtorEq, Bool.false_eq_true, Int.reduceLT, Int.reduceLE, Int.reduceNeg] at hc) <;> (try simp only [zw] at hc)) <;> (try (exfalso; omega))) | refine AWp.exit ?_ | refine AWp.ret ⟨.inr rfl, _, RetOk.ev tabOk Zc, ?_⟩) | (refine AOLg.pass ?_; refine AOLg.nx hA tabOk Zc ?_; first | refine NX.done ?_ | refine NX.gt ?_ | refine NX.gf ?_ | (refine NX.gs ?_ ?_ <;> intro hc <;> rw [hc] <;> ((try simp only [zn] at hc) <;> (try simp (disch := omega) only [zz hA, zb, zy, reduceCtorEq, Bool.false_eq_true, Int.reduceLT, Int.reduceLE, Int.reduceNeg] at hc) <;> (try simp only [zw] at hc)) <;> (try (exfalso; omega))) | refine NX.k 1 (NX.one Z1 ?_) | refine NX.k 10 (NX.one Z10 ?_) | refine NX.k 14 (NX.one Z14 ?_) | refine NX.k 15 (NX.one Z15 ?_) | refine NX.k 18 (NX.one Z18 ?_) | refine NX.raw ?_) | refine Thn.exit ?_ | refine Blk.here ?_ | refine Blk.other (by decide) ?_ | refine ⟨.inl rfl, _, RetOk.ev tabOk Zc, ?_⟩ | fail)
  all_goals first
    | (exfalso; omega)
    | (refine rPV_then (by conv => lhs; cbv) ?_
       rfl)
end Go.Proofs.Ytkkjlmcnfoncdaa.Aw

namespace Go.Proofs.Ytkkjlmcnfoncdaa.Aw
open Go Go.RowKit
set_option maxRecDepth 10000
attribute [local irreducible] AWp AOL QS One AOLg QSg NX QX TRg TX AllO Fin3
def aritG (l : List Sg) (s : Int) : Int := if 0 ≤ s ∧ s < l.length then ((sgA (l.getD s.toNat default)).size : Int) else -1
def oddM (many z : Int) : Bool := decide (z < 0) || decide (many ≤ z)
def oddI (many : Int) (a : List Int) : Int := idxB a.length fun i => oddM many (a.getD i default)
def shapeP (ar k s p n : Int) : Prop := ((k = 0 ∨ k = 1) ∧ s = 0 ∧ p = 0 ∧ n = 0) ∨ (k = 2 ∧ 0 ≤ s ∧ p = 0 ∧ n = 0) ∨ (k = 3 ∧ 0 ≤ ar ∧ p = 0 ∧ n = ar) ∨ ((k = 4 ∨ k = 5) ∧ s = 0 ∧ p = 0 ∧ n = 2) ∨ (k = 6 ∧ 0 ≤ p ∧ p < ar ∧ n = 1)
def mayP (l : List Sg) (many k s p : Int) (a : List Int) : Prop := shapeP (aritG l s) k s p a.length ∧ oddI many a < 0
noncomputable def mayM (l : List Sg) (many k s p : Int) (a : List Int) : Bool := @decide (mayP l many k s p a) (Classical.propDecidable _)
theorem mayM_iff (l : List Sg) (many k s p : Int) (a : List Int) : (mayM l many k s p a = true) = mayP l many k s p a := by unfold mayM; simp
variable {A : Ar} (hA : A = real)
include hA
end Go.Proofs.Ytkkjlmcnfoncdaa.Aw

namespace Go.Proofs.Ytkkjlmcnfoncdaa.Aw
open Go Go.RowKit
set_option maxRecDepth 10000
attribute [local irreducible] AWp AOL QS One AOLg QSg NX QX TRg TX AllO Fin3
variable {A : Ar} (hA : A = real)
include hA
set_option maxHeartbeats 4000000 in
theorem refMay_c (l : List Sg) (many k s p : Int) (a : List Int) (ha : a.length ≤ 1000000) (hl : l.length ≤ 1000000) (hsz : ∀ x ∈ l, (sgN x).size ≤ 1000000000000000 ∧ (sgA x).size ≤ 1000000000000000) :
    PureCalls Try.prog 78 [slP A 2 (encG A) l, IP many, tmP A k s p a] (BP (hid A (mayM l many k s p a))) := by
  have hA' : (0 ≤ s ∧ s < l.length ∧ aritG l s = ((sgA (l.getD s.toNat default)).size : Int)) ∨ ((s < 0 ∨ (l.length : Int) ≤ s) ∧ aritG l s = -1) := by
    unfold aritG; split <;> omega
  refine PureCalls.of Try.func78 rfl (by kernel_rfl) rfl ?_
  try first | refine AOLg.of [] ?_ | refine QSg.of [] ?_
  repeat' (first | (refine AWp.pass ?_; first | refine AWp.seq ?_ | refine AWp.block ?_ | refine AWp.skip ?_ | refine AWp.regG [] Zc ?_ | refine AWp.cond_t rfl ?_ | refine AWp.cond_f rfl ?_ | (refine AWp.cond rfl ?_ ?_ <;> intro hc <;> (try rw [hc]) <;> ((try simp only [zn] at hc) <;> (try simp (disch := omega) only [zz hA, zb, zy, reduceCtorEq, Bool.false_eq_true, Int.reduceLT, Int.reduceLE, Int.reduceNeg] at hc) <;> (try simp only [zw] at hc)) <;> (try (exfalso; omega))) | refine AWp.exit ?_ | refine AWp.ret ⟨.inr rfl, _, RetOk.ev tabOk Zc, ?_⟩ | refine AWp.drawVG [] rfl (by decide +kernel) Zc ?_) | (refine AOLg.pass ?_; refine AOLg.nx hA tabOk Zc ?_; first | refine NX.done ?_ | refine NX.gt ?_ | refine NX.gf ?_ | (refine NX.gs ?_ ?_ <;> intro hc <;> rw [hc] <;> ((try simp only [zn] at hc) <;> (try simp (disch := omega) only [zz hA, zb, zy, reduceCtorEq, Bool.false_eq_true, Int.reduceLT, Int.reduceLE, Int.reduceNeg] at hc) <;> (try simp only [zw] at hc)) <;> (try (exfalso; omega))) | refine NX.k 1 (NX.one Z1 ?_) | refine NX.k 7 (NX.one Z7 ?_) | refine NX.k 8 (NX.one Z8 ?_) | refine NX.k 10 (NX.one Z10 ?_) | refine NX.k 14 (NX.one Z14 ?_) | refine NX.k 18 (NX.one Z18 ?_) | refine NX.raw ?_) | (refine TRg.pass ?_; refine TRg.nx hA tabOk Zc ?_; first | refine TX.done ?_ | refine TX.gt ?_ | refine TX.gf ?_ | (refine TX.gs ?_ ?_ <;> intro hc <;> rw [hc] <;> ((try simp only [zn] at hc) <;> (try simp (disch := omega) only [zz hA, zb, zy, reduceCtorEq, Bool.false_eq_true, Int.reduceLT, Int.reduceLE, Int.reduceNeg] at hc) <;> (try simp only [zw] at hc)) <;> (try (exfalso; omega))) | refine TX.k 1 (TX.one Z1 ?_) | refine TX.k 7 (TX.one Z7 ?_) | refine TX.k 8 (TX.one Z8 ?_) | refine TX.k 10 (TX.one Z10 ?_) | refine TX.k 14 (TX.one Z14 ?_) | refine TX.k 18 (TX.one Z18 ?_) | refine TX.raw ?_) | refine Fin3.of Zc (by repeat' (first | exact True.intro | exact rfl | refine And.intro ?_ ?_)) ?_ ?_ | (refine AllO.pass ?_; first | exact AllO.nil | (refine AllO.cons (One.ev hA tabOk ?_) ?_ <;> (first | refine AllO.pass ?_ | ((conv => lhs; cbv); done))) | (refine AllO.cons (One.skipB ?_) ?_ <;> (first | refine AllO.pass ?_ | ((conv => lhs; cbv); done))) | refine AllO.consX ZX rfl rfl ?_) | refine Thn.exit ?_ | refine Blk.here ?_ | refine Blk.other (by decide) ?_ | refine ⟨.inl rfl, _, RetOk.ev tabOk Zc, ?_⟩ | fail)
  refine AWp.loopU (fun q : Nat => [(7, .ic (.lit (.int .i64 (hid A (cN q)))))]) (fun _ => [.var true 82 [.ic (.lit (.int .i64 k)), .ic (.lit (.int .i64 s)), .ic (.lit (.int .i64 p)), .ic (.sl 1 false (hid A (List.map encI a)))]]) (fun q => a.length - q) (fun q => q ≤ a.length ∧ ∀ j, j < q → oddM many (a.getD j default) = false) 0 (by conv => lhs; cbv) ⟨Nat.zero_le _, by simp⟩ (by (repeat' (first | exact subE.nil | refine subE.cons rfl ?_ | refine subE.int rfl ?_ ?_ | refine subE.bool rfl ?_ ?_ | refine subE.str rfl ?_ ?_ | refine subE.sl rfl ?_ ?_)) <;> simp [hA, real, hid, cN]) rfl ?_
  rintro q ⟨hq, hok⟩
  by_cases hlt : q < a.length
  · have hno : oddM many (a.getD q default) = true → mayM l many k s p a = false := fun h => by
      have h1 : oddI many a = q := idxB_at hlt h hok
      cases hm : mayM l many k s p a with
      | false => rfl
      | true =>
        rw [mayM_iff] at hm
        have := hm.2
        omega
    try first | refine AOLg.of [] ?_ | refine QSg.of [] ?_
    repeat' (first | (refine AWp.pass ?_; first | refine AWp.seq ?_ | refine AWp.block ?_ | refine AWp.skip ?_ | refine AWp.regG [] Zc ?_ | refine AWp.cond_t rfl ?_ | refine AWp.cond_f rfl ?_ | (refine AWp.cond rfl ?_ ?_ <;> intro hc <;> (try rw [hc]) <;> ((try simp only [zn] at hc) <;> (try simp (disch := omega) only [zz hA, zb, zy, reduceCtorEq, Bool.false_eq_true, Int.reduceLT, Int.reduceLE, Int.reduceNeg] at hc) <;> (try simp only [zw] at hc)) <;> (try (exfalso; omega))) | refine AWp.exit ?_ | refine AWp.ret ⟨.inr rfl, _, RetOk.ev tabOk Zc, ?_⟩ | refine AWp.drawVG [] rfl (by decide +kernel) Zc ?_) | (refine AOLg.pass ?_; refine AOLg.nx hA tabOk Zc ?_; first | refine NX.done ?_ | refine NX.gt ?_ | refine NX.gf ?_ | (refine NX.gs ?_ ?_ <;> intro hc <;> rw [hc] <;> ((try simp only [zn] at hc) <;> (try simp (disch := omega) only [zz hA, zb, zy, reduceCtorEq, Bool.false_eq_true, Int.reduceLT, Int.reduceLE, Int.reduceNeg] at hc) <;> (try simp only [zw] at hc)) <;> (try (exfalso; omega))) | refine NX.k 1 (NX.one Z1 ?_) | refine NX.k 7 (NX.one Z7 ?_) | refine NX.k 8 (NX.one Z8 ?_) | refine NX.k 10 (NX.one Z10 ?_) | refine NX.k 14 (NX.one Z14 ?_) | refine NX.k 18 (NX.one Z18 ?_) | refine NX.raw ?_) | (refine TRg.pass ?_; refine TRg.nx hA tabOk Zc ?_; first | refine TX.done ?_ | refine TX.gt ?_ | refine TX.gf ?_ | (refine TX.gs ?_ ?_ <;> intro hc <;> rw [hc] <;> ((try simp only [zn] at hc) <;> (try simp (disch := omega) only [zz hA, zb, zy, reduceCtorEq, Bool.false_eq_true, Int.reduceLT, Int.reduceLE, Int.reduceNeg] at hc) <;> (try simp only [zw] at hc)) <;> (try (exfalso; omega))) | refine TX.k 1 (TX.one Z1 ?_) | refine TX.k 7 (TX.one Z7 ?_) | refine TX.k 8 (TX.one Z8 ?_) | refine TX.k 10 (TX.one Z10 ?_) | refine TX.k 14 (TX.one Z14 ?_) | refine TX.k 18 (TX.one Z18 ?_) | refine TX.raw ?_) | refine Fin3.of Zc (by repeat' (first | exact True.intro | exact rfl | refine And.intro ?_ ?_)) ?_ ?_ | (refine AllO.pass ?_; first | exact AllO.nil | (refine AllO.cons (One.ev hA tabOk ?_) ?_ <;> (first | refine AllO.pass ?_ | ((conv => lhs; cbv); done))) | (refine AllO.cons (One.skipB ?_) ?_ <;> (first | refine AllO.pass ?_ | ((conv => lhs; cbv); done))) | refine AllO.consX ZX rfl rfl ?_) | refine Thn.exit ?_ | refine Blk.here ?_ | refine Blk.other (by decide) ?_ | refine ⟨.inl rfl, _, RetOk.ev tabOk Zc, ?_⟩ | fail)
    all_goals first
      | (refine rPV_then (by conv => lhs; cbv) ?_
         rw [hno (by grind [oddM])]
         simp [hid_eq hA]; done)
      | skip
    all_goals
      refine ⟨q + 1, ?_, ?_, rfl, rfl, ?_, Zk⟩ <;> (try omega)
      repeat' (first | exact subE.nil | refine subE.cons rfl ?_ | refine subE.int rfl ?_ ?_ | refine subE.bool rfl ?_ ?_ | refine subE.str rfl ?_ ?_ | refine subE.sl rfl ?_ ?_)
    all_goals first
      | exact Zd
      | (refine ⟨by omega, fun j hj => ?_⟩
         rcases Nat.lt_or_ge j q with h | h
         · exact hok j h
         · obtain rfl : j = q := by omega
           grind [oddM])
  · have hI : oddI many a = -1 := idxB_none fun i hi => hok i (by omega)
    try first | refine AOLg.of [] ?_ | refine QSg.of [] ?_
    repeat' (first | (refine AWp.pass ?_; first | refine AWp.seq ?_ | refine AWp.block ?_ | refine AWp.skip ?_ | refine AWp.regG [] Zc ?_ | refine AWp.cond_t rfl ?_ | refine AWp.cond_f rfl ?_ | (refine AWp.cond rfl ?_ ?_ <;> intro hc <;> (try rw [hc]) <;> ((try simp only [zn] at hc) <;> (try simp (disch := omega) only [zz hA, zb, zy, reduceCtorEq, Bool.false_eq_true, Int.reduceLT, Int.reduceLE, Int.reduceNeg] at hc) <;> (try simp only [zw] at hc)) <;> (try (exfalso; omega))) | refine AWp.exit ?_ | refine AWp.ret ⟨.inr rfl, _, RetOk.ev tabOk Zc, ?_⟩ | refine AWp.drawVG [] rfl (by decide +kernel) Zc ?_) | (refine AOLg.pass ?_; refine AOLg.nx hA tabOk Zc ?_; first | refine NX.done ?_ | refine NX.gt ?_ | refine NX.gf ?_ | (refine NX.gs ?_ ?_ <;> intro hc <;> rw [hc] <;> ((try simp only [zn] at hc) <;> (try simp (disch := omega) only [zz hA, zb, zy, reduceCtorEq, Bool.false_eq_true, Int.reduceLT, Int.reduceLE, Int.reduceNeg] at hc) <;> (try simp only [zw] at hc)) <;> (try (exfalso; omega))) | refine NX.k 1 (NX.one Z1 ?_) | refine NX.k 7 (NX.one Z7 ?_) | refine NX.k 8 (NX.one Z8 ?_) | refine NX.k 10 (NX.one Z10 ?_) | refine NX.k 14 (NX.one Z14 ?_) | refine NX.k 18 (NX.one Z18 ?_) | refine NX.raw ?_) | (refine TRg.pass ?_; refine TRg.nx hA tabOk Zc ?_; first | refine TX.done ?_ | refine TX.gt ?_ | refine TX.gf ?_ | (refine TX.gs ?_ ?_ <;> intro hc <;> rw [hc] <;> ((try simp only [zn] at hc) <;> (try simp (disch := omega) only [zz hA, zb, zy, reduceCtorEq, Bool.false_eq_true, Int.reduceLT, Int.reduceLE, Int.reduceNeg] at hc) <;> (try simp only [zw] at hc)) <;> (try (exfalso; omega))) | refine TX.k 1 (TX.one Z1 ?_) | refine TX.k 7 (TX.one Z7 ?_) | refine TX.k 8 (TX.one Z8 ?_) | refine TX.k 10 (TX.one Z10 ?_) | refine TX.k 14 (TX.one Z14 ?_) | refine TX.k 18 (TX.one Z18 ?_) | refine TX.raw ?_) | refine Fin3.of Zc (by repeat' (first | exact True.intro | exact rfl | refine And.intro ?_ ?_)) ?_ ?_ | (refine AllO.pass ?_; first | exact AllO.nil | (refine AllO.cons (One.ev hA tabOk ?_) ?_ <;> (first | refine AllO.pass ?_ | ((conv => lhs; cbv); done))) | (refine AllO.cons (One.skipB ?_) ?_ <;> (first | refine AllO.pass ?_ | ((conv => lhs; cbv); done))) | refine AllO.consX ZX rfl rfl ?_) | refine Thn.exit ?_ | refine Blk.here ?_ | refine Blk.other (by decide) ?_ | refine ⟨.inl rfl, _, RetOk.ev tabOk Zc, ?_⟩ | fail)
    all_goals (refine rPV_then (by conv => lhs; cbv) ?_; refine congrArg (fun b => PV.c (IC.lit (Value.bool b))) ?_; rw [Bool.eq_iff_iff]; (try simp only [zn]); (try simp (disch := omega) only [zz hA, zb, zy, reduceCtorEq, Bool.false_eq_true, Int.reduceLT, Int.reduceLE, Int.reduceNeg, mayM_iff, mayP, shapeP, hI, Bool.and_eq_true, Bool.or_eq_true, Bool.not_eq_true, decide_eq_true_eq, decide_eq_false_iff_not, true_iff, iff_true, false_iff, iff_false, and_true, true_and, or_true, true_or, and_false, false_and, or_false, false_or, not_true_eq_false, not_false_eq_true]); first | done | omega)
end Go.Proofs.Ytkkjlmcnfoncdaa.Aw

namespace Go.Proofs.Ytkkjlmcnfoncdaa.Aw
open Go Go.RowKit
set_option maxRecDepth 10000
attribute [local irreducible] AWp AOL QS One AOLg QSg NX QX TRg TX AllO Fin3
noncomputable def putTe (l : List Sg) (K : List (List Int)) (k s p : Int) (a : List Int) (lim : Int) : Int := if mayM l K.length k s p a = true then (if keyT k s p a ∉ K ∧ lim ≤ K.length then 7 else 0) else 1
noncomputable def putTK (l : List Sg) (K : List (List Int)) (k s p : Int) (a : List Int) (lim : Int) : List (List Int) := if putTe l K k s p a lim = 0 then putK K (keyT k s p a) else K
noncomputable def putTi (l : List Sg) (K : List (List Int)) (k s p : Int) (a : List Int) (lim : Int) : Int := if putTe l K k s p a lim = 0 then (K.idxOf (keyT k s p a) : Nat) else 0
def FitG (l : List Sg) : Prop := ∀ x ∈ l, (sgN x).size ≤ 1000000000000000 ∧ (sgA x).size ≤ 1000000000000000
variable {A : Ar} (hA : A = real)
include hA
end Go.Proofs.Ytkkjlmcnfoncdaa.Aw

namespace Go.Proofs.Ytkkjlmcnfoncdaa.Aw
open Go Go.RowKit
set_option maxRecDepth 10000
attribute [local irreducible] AWp AOL QS One AOLg QSg NX QX TRg TX AllO Fin3
noncomputable def keyOk (l : List Sg) (id : Nat) (q : List Int) : Bool := (decide (3 ≤ q.length) && mayM l id (q.getD 0 default) (q.getD 1 default) (q.getD 2 default) (q.drop 3)) && (decide (2 ≤ id) || decide (q.getD 0 default = id))
noncomputable def rightT (l : List Sg) (K : List (List Int)) (S : List Int) : Bool := (decide (K.Nodup ∧ S = layM K) && decide (2 ≤ K.length)) && allB K.length fun i => keyOk l i (K.getD i default)
theorem key_eta {q : List Int} (h : 3 ≤ q.length) : q = keyT (q.getD 0 default) (q.getD 1 default) (q.getD 2 default) (q.drop 3) := by
  match q, h with
  | a :: b :: c :: r, _ => rfl
theorem key_ex {q : List Int} (h : 3 ≤ q.length) : ∃ k s p a, q = keyT k s p a := ⟨_, _, _, _, key_eta h⟩
theorem keyOk_T (l : List Sg) (id : Nat) (k s p : Int) (a : List Int) : keyOk l id (keyT k s p a) = (mayM l id k s p a && (decide (2 ≤ id) || decide (k = id))) := by
  unfold keyOk
  rw [decide_eq_true (p := 3 ≤ (keyT k s p a).length) (by simp [keyT])]
  rfl
variable {A : Ar} (hA : A = real)
include hA
theorem refOf_c2 (K : List (List Int)) (S : List Int) (id : Nat) (hi : id < K.length) (hk : (K.getD id default).length < 3) : ∀ z : Int, z = id → PureCalls Try.prog 42 [keyedPV A K S, IP z] (.tup [.agg [.lit (.int .i64 0), .lit (.int .i64 0), .lit (.int .i64 0), .sl 0 true []], BP false]) := by
  intro z hz
  have hzn : z.toNat = id := by omega
  rw [← hzn] at hk
  refine PureCalls.of Try.func42 rfl (by kernel_rfl) rfl ?_
  try first | refine AOLg.of [] ?_ | refine QSg.of [] ?_
  repeat' (first | (refine AWp.pass ?_; first | refine AWp.seq ?_ | refine AWp.block ?_ | refine AWp.skip ?_ | refine AWp.regG [] Zc ?_ | refine AWp.cond_t rfl ?_ | refine AWp.cond_f rfl ?_ | (refine AWp.cond rfl ?_ ?_ <;> intro hc <;> (try rw [hc]) <;> ((try simp only [zn] at hc) <;> (try simp (disch := omega) only [zz hA, zb, zy, reduceCtorEq, Bool.false_eq_true, Int.reduceLT, Int.reduceLE, Int.reduceNeg] at hc) <;> (try simp only [zw] at hc)) <;> (try (exfalso; omega))) | refine AWp.exit ?_ | refine AWp.ret ⟨.inr rfl, _, RetOk.ev tabOk Zc, ?_⟩ | refine AWp.drawVG [] rfl (by decide +kernel) Zc ?_) | (refine AOLg.pass ?_; refine AOLg.nx hA tabOk Zc ?_; first | refine NX.done ?_ | refine NX.gt ?_ | refine NX.gf ?_ | (refine NX.gs ?_ ?_ <;> intro hc <;> rw [hc] <;> ((try simp only [zn] at hc) <;> (try simp (disch := omega) only [zz hA, zb, zy, reduceCtorEq, Bool.false_eq_true, Int.reduceLT, Int.reduceLE, Int.reduceNeg] at hc) <;> (try simp only [zw] at hc)) <;> (try (exfalso; omega))) | refine NX.k 1 (NX.one Z1 ?_) | refine NX.k 2 (NX.one Z2 ?_) | refine NX.k 10 (NX.one Z10 ?_) | refine NX.k 14 (NX.one Z14 ?_) | refine NX.k 15 (NX.one Z15 ?_) | refine NX.k 18 (NX.one Z18 ?_) | refine NX.raw ?_) | (refine TRg.pass ?_; refine TRg.nx hA tabOk Zc ?_; first | refine TX.done ?_ | refine TX.gt ?_ | refine TX.gf ?_ | (refine TX.gs ?_ ?_ <;> intro hc <;> rw [hc] <;> ((try simp only [zn] at hc) <;> (try simp (disch := omega) only [zz hA, zb, zy, reduceCtorEq, Bool.false_eq_true, Int.reduceLT, Int.reduceLE, Int.reduceNeg] at hc) <;> (try simp only [zw] at hc)) <;> (try (exfalso; omega))) | refine TX.k 1 (TX.one Z1 ?_) | refine TX.k 2 (TX.one Z2 ?_) | refine TX.k 10 (TX.one Z10 ?_) | refine TX.k 14 (TX.one Z14 ?_) | refine TX.k 15 (TX.one Z15 ?_) | refine TX.k 18 (TX.one Z18 ?_) | refine TX.raw ?_) | refine Fin3.of Zc (by repeat' (first | exact True.intro | exact rfl | refine And.intro ?_ ?_)) ?_ ?_ | (refine AllO.pass ?_; first | exact AllO.nil | (refine AllO.cons (One.ev hA tabOk ?_) ?_ <;> (first | refine AllO.pass ?_ | ((conv => lhs; cbv); done))) | (refine AllO.cons (One.skipB ?_) ?_ <;> (first | refine AllO.pass ?_ | ((conv => lhs; cbv); done))) | refine AllO.consX ZX rfl rfl ?_) | refine Thn.exit ?_ | refine Blk.here ?_ | refine Blk.other (by decide) ?_ | refine ⟨.inl rfl, _, RetOk.ev tabOk Zc, ?_⟩ | fail)
  all_goals first
    | (exfalso; omega)
    | (refine rPV_then (by conv => lhs; cbv) ?_
       rfl)
set_option maxHeartbeats 4000000 in
theorem refTRight_c (l : List Sg) (K : List (List Int)) (S : List Int) (hl : l.length ≤ 1000000) (hsz : FitG l) (hK : K.length ≤ 900000) (hk : ∀ x ∈ K, x.length ≤ 1000000) :
    PureCalls Try.prog 36 [slP A 2 (encG A) l, keyedPV A K S] (BP (hid A (rightT l K S))) := by
  have hr := refRight_c hA K S (by omega)
  by_cases h1 : K.Nodup ∧ S = layM K
  · rw [decide_eq_true h1, hid_eq hA (α := Bool)] at hr
    by_cases h2 : 2 ≤ K.length
    · have hrt : rightT l K S = allB K.length fun i => keyOk l i (K.getD i default) := by unfold rightT; rw [decide_eq_true h1, decide_eq_true h2]; rfl
      refine PureCalls.of Try.func36 rfl (by kernel_rfl) rfl ?_
      try first | refine AOLg.of [] ?_ | refine QSg.of [] ?_
      repeat' (first | (refine AWp.pass ?_; first | refine AWp.seq ?_ | refine AWp.block ?_ | refine AWp.skip ?_ | refine AWp.regG [] Zc ?_ | refine AWp.cond_t rfl ?_ | refine AWp.cond_f rfl ?_ | (refine AWp.cond rfl ?_ ?_ <;> intro hc <;> (try rw [hc]) <;> ((try simp only [zn] at hc) <;> (try simp (disch := omega) only [zz hA, zb, zy, reduceCtorEq, Bool.false_eq_true, Int.reduceLT, Int.reduceLE, Int.reduceNeg] at hc) <;> (try simp only [zw] at hc)) <;> (try (exfalso; omega))) | refine AWp.exit ?_ | refine AWp.ret ⟨.inr rfl, _, RetOk.ev tabOk Zc, ?_⟩) | (refine AOLg.pass ?_; refine AOLg.nx hA tabOk Zc ?_; first | refine NX.done ?_ | refine NX.gt ?_ | refine NX.gf ?_ | (refine NX.gs ?_ ?_ <;> intro hc <;> rw [hc] <;> ((try simp only [zn] at hc) <;> (try simp (disch := omega) only [zz hA, zb, zy, reduceCtorEq, Bool.false_eq_true, Int.reduceLT, Int.reduceLE, Int.reduceNeg] at hc) <;> (try simp only [zw] at hc)) <;> (try (exfalso; omega))) | (refine NX.kC ?_; first | (with_reducible refine NX.call (hr) ?_) | ((first | refine NX.call (hr) ?_)) | fail) | (refine NX.kO ?_; (first | refine NX.callO (hr) (by simp [allEq]) rfl ?_)) | refine NX.k 7 (NX.one Z7 ?_) | refine NX.k 9 (NX.one Z9 ?_) | refine NX.k 10 (NX.one Z10 ?_) | refine NX.k 14 (NX.one Z14 ?_) | refine NX.k 15 (NX.one Z15 ?_) | refine NX.k 18 (NX.one Z18 ?_) | refine NX.raw ?_) | refine Thn.exit ?_ | refine Blk.here ?_ | refine Blk.other (by decide) ?_ | refine ⟨.inl rfl, _, RetOk.ev tabOk Zc, ?_⟩ | fail)
      refine AWp.loopT 1 (fun i : Nat => [(6, .ic (.lit (.int .i64 (hid A (cN i)))))]) (fun _ => [.var true 26 [.ic (.sl 1 false (hid A (List.map (encK A) K))), .ic (.sl 1 false (hid A (List.map encI S)))]])
        (fun i => K.length - i) (fun i => i ≤ K.length ∧ ∀ j, j < i → keyOk l j (K.getD j default) = true) 0 (by conv => lhs; cbv) ⟨Nat.zero_le _, by simp⟩ (by (repeat' (first | exact subE.nil | refine subE.cons rfl ?_ | refine subE.int rfl ?_ ?_ | refine subE.bool rfl ?_ ?_ | refine subE.str rfl ?_ ?_ | refine subE.sl rfl ?_ ?_)) <;> simp [hA, real, hid, cN]) rfl (fun _ => rfl) (fun _ => rfl) ?_
      rintro i ⟨hi0, hok⟩
      simp only [] at hi0 ⊢
      by_cases hi : i < K.length
      · have hno : keyOk l i (K.getD i default) = false → rightT l K S = false := fun h => by rw [hrt, allB_f hi h]
        have hmem : K.getD i default ∈ K := by rw [List.getD_eq_getElem?_getD, List.getElem?_eq_getElem hi]; exact List.getElem_mem _
        have hkl := hk _ hmem
        by_cases h3 : 3 ≤ (K.getD i default).length
        · obtain ⟨k, s, p, a, hq⟩ := key_ex h3
          have hal : a.length + 3 = (K.getD i default).length := by rw [hq]; rfl
          have hof := refOf_c1 hA K S i k s p a hi hq (by omega)
          have hmay : ∀ z : Int, z = i → PureCalls Try.prog 78 [slP A 2 (encG A) l, IP z, tmP A k s p a] (BP (hid A (mayM l i k s p a))) := by
            rintro z rfl
            exact refMay_c hA l i k s p a (by omega) hl hsz
          have hkk := keyOk_T l i k s p a
          rw [← hq] at hkk
          rw [hkk] at hno
          try first | refine AOLg.of [] ?_ | refine QSg.of [] ?_
          repeat' (first | (refine AWp.pass ?_; first | refine AWp.seq ?_ | refine AWp.block ?_ | refine AWp.skip ?_ | refine AWp.regG [] Zc ?_ | refine AWp.cond_t rfl ?_ | refine AWp.cond_f rfl ?_ | (refine AWp.cond rfl ?_ ?_ <;> intro hc <;> (try rw [hc]) <;> ((try simp only [zn] at hc) <;> (try simp (disch := omega) only [zz hA, zb, zy, reduceCtorEq, Bool.false_eq_true, Int.reduceLT, Int.reduceLE, Int.reduceNeg] at hc) <;> (try simp only [zw] at hc)) <;> (try (exfalso; omega))) | refine AWp.exit ?_ | refine AWp.ret ⟨.inr rfl, _, RetOk.ev tabOk Zc, ?_⟩) | (refine AOLg.pass ?_; refine AOLg.nx hA tabOk Zc ?_; first | refine NX.done ?_ | refine NX.gt ?_ | refine NX.gf ?_ | (refine NX.gs ?_ ?_ <;> intro hc <;> rw [hc] <;> ((try simp only [zn] at hc) <;> (try simp (disch := omega) only [zz hA, zb, zy, reduceCtorEq, Bool.false_eq_true, Int.reduceLT, Int.reduceLE, Int.reduceNeg] at hc) <;> (try simp only [zw] at hc)) <;> (try (exfalso; omega))) | (refine NX.kC ?_; first | ((with_reducible refine NX.call (hof _ ?_) ?_) <;> (first | refine AOLg.pass ?_ | exact Zd)) | ((with_reducible refine NX.call (hmay _ ?_) ?_) <;> (first | refine AOLg.pass ?_ | exact Zd)) | ((first | refine NX.call (hof _ ?_) ?_ | refine NX.call (hmay _ ?_) ?_) <;> (first | refine AOLg.pass ?_ | exact Zd)) | fail) | (refine NX.kO ?_; (first | refine NX.callO (hof _ ?_) (by simp [allEq]) rfl ?_ | refine NX.callO (hmay _ ?_) (by simp [allEq]) rfl ?_) <;> (first | refine AOLg.pass ?_ | exact Zd)) | refine NX.k 7 (NX.one Z7 ?_) | refine NX.k 9 (NX.one Z9 ?_) | refine NX.k 10 (NX.one Z10 ?_) | refine NX.k 14 (NX.one Z14 ?_) | refine NX.k 15 (NX.one Z15 ?_) | refine NX.k 18 (NX.one Z18 ?_) | refine NX.raw ?_) | refine Thn.exit ?_ | refine Blk.here ?_ | refine Blk.other (by decide) ?_ | refine ⟨.inl rfl, _, RetOk.ev tabOk Zc, ?_⟩ | fail)
          all_goals first
            | (refine rPV_then (by conv => lhs; cbv) ?_
               rw [hno (by clear hno hrt hof hmay hr; simp_all <;> omega)]
               simp [hid_eq hA]; done)
            | skip
          all_goals
            refine ⟨i + 1, ⟨by omega, stepB hok (by rw [hkk]; clear hno hrt hof hmay hr; simp_all <;> omega)⟩, by omega, rfl, rfl, (by repeat' (first | exact trimOk.nil | refine trimOk.same ?_ | refine trimOk.turn rfl ?_)), rfl, rfl, ?_, Zk⟩
            exact .int rfl (by exact Zd) .nil
        · have hof := refOf_c2 hA K S i hi (by omega)
          have hnn : rightT l K S = false := hno (by unfold keyOk; rw [decide_eq_false h3]; rfl)
          try first | refine AOLg.of [] ?_ | refine QSg.of [] ?_
          repeat' (first | (refine AWp.pass ?_; first | refine AWp.seq ?_ | refine AWp.block ?_ | refine AWp.skip ?_ | refine AWp.regG [] Zc ?_ | refine AWp.cond_t rfl ?_ | refine AWp.cond_f rfl ?_ | (refine AWp.cond rfl ?_ ?_ <;> intro hc <;> (try rw [hc]) <;> ((try simp only [zn] at hc) <;> (try simp (disch := omega) only [zz hA, zb, zy, reduceCtorEq, Bool.false_eq_true, Int.reduceLT, Int.reduceLE, Int.reduceNeg] at hc) <;> (try simp only [zw] at hc)) <;> (try (exfalso; omega))) | refine AWp.exit ?_ | refine AWp.ret ⟨.inr rfl, _, RetOk.ev tabOk Zc, ?_⟩) | (refine AOLg.pass ?_; refine AOLg.nx hA tabOk Zc ?_; first | refine NX.done ?_ | refine NX.gt ?_ | refine NX.gf ?_ | (refine NX.gs ?_ ?_ <;> intro hc <;> rw [hc] <;> ((try simp only [zn] at hc) <;> (try simp (disch := omega) only [zz hA, zb, zy, reduceCtorEq, Bool.false_eq_true, Int.reduceLT, Int.reduceLE, Int.reduceNeg] at hc) <;> (try simp only [zw] at hc)) <;> (try (exfalso; omega))) | (refine NX.kC ?_; first | ((with_reducible refine NX.call (hof _ ?_) ?_) <;> (first | refine AOLg.pass ?_ | exact Zd)) | ((first | refine NX.call (hof _ ?_) ?_) <;> (first | refine AOLg.pass ?_ | exact Zd)) | fail) | (refine NX.kO ?_; (first | refine NX.callO (hof _ ?_) (by simp [allEq]) rfl ?_) <;> (first | refine AOLg.pass ?_ | exact Zd)) | refine NX.k 7 (NX.one Z7 ?_) | refine NX.k 9 (NX.one Z9 ?_) | refine NX.k 10 (NX.one Z10 ?_) | refine NX.k 14 (NX.one Z14 ?_) | refine NX.k 15 (NX.one Z15 ?_) | refine NX.k 18 (NX.one Z18 ?_) | refine NX.raw ?_) | refine Thn.exit ?_ | refine Blk.here ?_ | refine Blk.other (by decide) ?_ | refine ⟨.inl rfl, _, RetOk.ev tabOk Zc, ?_⟩ | fail)
          refine rPV_then (by conv => lhs; cbv) ?_
          rw [hnn, hid_eq hA]
      · have hyes : rightT l K S = true := by rw [hrt]; exact allB_t fun j hj => hok j (by omega)
        try first | refine AOLg.of [] ?_ | refine QSg.of [] ?_
        repeat' (first | (refine AWp.pass ?_; first | refine AWp.seq ?_ | refine AWp.block ?_ | refine AWp.skip ?_ | refine AWp.regG [] Zc ?_ | refine AWp.cond_t rfl ?_ | refine AWp.cond_f rfl ?_ | (refine AWp.cond rfl ?_ ?_ <;> intro hc <;> (try rw [hc]) <;> ((try simp only [zn] at hc) <;> (try simp (disch := omega) only [zz hA, zb, zy, reduceCtorEq, Bool.false_eq_true, Int.reduceLT, Int.reduceLE, Int.reduceNeg] at hc) <;> (try simp only [zw] at hc)) <;> (try (exfalso; omega))) | refine AWp.exit ?_ | refine AWp.ret ⟨.inr rfl, _, RetOk.ev tabOk Zc, ?_⟩) | (refine AOLg.pass ?_; refine AOLg.nx hA tabOk Zc ?_; first | refine NX.done ?_ | refine NX.gt ?_ | refine NX.gf ?_ | (refine NX.gs ?_ ?_ <;> intro hc <;> rw [hc] <;> ((try simp only [zn] at hc) <;> (try simp (disch := omega) only [zz hA, zb, zy, reduceCtorEq, Bool.false_eq_true, Int.reduceLT, Int.reduceLE, Int.reduceNeg] at hc) <;> (try simp only [zw] at hc)) <;> (try (exfalso; omega))) | refine NX.k 7 (NX.one Z7 ?_) | refine NX.k 9 (NX.one Z9 ?_) | refine NX.k 10 (NX.one Z10 ?_) | refine NX.k 14 (NX.one Z14 ?_) | refine NX.k 15 (NX.one Z15 ?_) | refine NX.k 18 (NX.one Z18 ?_) | refine NX.raw ?_) | refine Thn.exit ?_ | refine Blk.here ?_ | refine Blk.other (by decide) ?_ | refine ⟨.inl rfl, _, RetOk.ev tabOk Zc, ?_⟩ | fail)
        refine rPV_then (by conv => lhs; cbv) ?_
        rw [hyes, hid_eq hA]
    · have hrt : rightT l K S = false := by unfold rightT; rw [decide_eq_false h2]; simp
      refine PureCalls.of Try.func36 rfl (by kernel_rfl) rfl ?_
      try first | refine AOLg.of [] ?_ | refine QSg.of [] ?_
      repeat' (first | (refine AWp.pass ?_; first | refine AWp.seq ?_ | refine AWp.block ?_ | refine AWp.skip ?_ | refine AWp.regG [] Zc ?_ | refine AWp.cond_t rfl ?_ | refine AWp.cond_f rfl ?_ | (refine AWp.cond rfl ?_ ?_ <;> intro hc <;> (try rw [hc]) <;> ((try simp only [zn] at hc) <;> (try simp (disch := omega) only [zz hA, zb, zy, reduceCtorEq, Bool.false_eq_true, Int.reduceLT, Int.reduceLE, Int.reduceNeg] at hc) <;> (try simp only [zw] at hc)) <;> (try (exfalso; omega))) | refine AWp.exit ?_ | refine AWp.ret ⟨.inr rfl, _, RetOk.ev tabOk Zc, ?_⟩) | (refine AOLg.pass ?_; refine AOLg.nx hA tabOk Zc ?_; first | refine NX.done ?_ | refine NX.gt ?_ | refine NX.gf ?_ | (refine NX.gs ?_ ?_ <;> intro hc <;> rw [hc] <;> ((try simp only [zn] at hc) <;> (try simp (disch := omega) only [zz hA, zb, zy, reduceCtorEq, Bool.false_eq_true, Int.reduceLT, Int.reduceLE, Int.reduceNeg] at hc) <;> (try simp only [zw] at hc)) <;> (try (exfalso; omega))) | (refine NX.kC ?_; first | (with_reducible refine NX.call (hr) ?_) | ((first | refine NX.call (hr) ?_)) | fail) | (refine NX.kO ?_; (first | refine NX.callO (hr) (by simp [allEq]) rfl ?_)) | refine NX.k 7 (NX.one Z7 ?_) | refine NX.k 9 (NX.one Z9 ?_) | refine NX.k 10 (NX.one Z10 ?_) | refine NX.k 14 (NX.one Z14 ?_) | refine NX.k 15 (NX.one Z15 ?_) | refine NX.k 18 (NX.one Z18 ?_) | refine NX.raw ?_) | refine Thn.exit ?_ | refine Blk.here ?_ | refine Blk.other (by decide) ?_ | refine ⟨.inl rfl, _, RetOk.ev tabOk Zc, ?_⟩ | fail)
      refine rPV_then (by conv => lhs; cbv) ?_
      rw [hrt, hid_eq hA]
  · rw [decide_eq_false h1, hid_eq hA (α := Bool)] at hr
    have hrt : rightT l K S = false := by unfold rightT; rw [decide_eq_false h1]; rfl
    refine PureCalls.of Try.func36 rfl (by kernel_rfl) rfl ?_
    try first | refine AOLg.of [] ?_ | refine QSg.of [] ?_
    repeat' (first | (refine AWp.pass ?_; first | refine AWp.seq ?_ | refine AWp.block ?_ | refine AWp.skip ?_ | refine AWp.regG [] Zc ?_ | refine AWp.cond_t rfl ?_ | refine AWp.cond_f rfl ?_ | (refine AWp.cond rfl ?_ ?_ <;> intro hc <;> (try rw [hc]) <;> ((try simp only [zn] at hc) <;> (try simp (disch := omega) only [zz hA, zb, zy, reduceCtorEq, Bool.false_eq_true, Int.reduceLT, Int.reduceLE, Int.reduceNeg] at hc) <;> (try simp only [zw] at hc)) <;> (try (exfalso; omega))) | refine AWp.exit ?_ | refine AWp.ret ⟨.inr rfl, _, RetOk.ev tabOk Zc, ?_⟩) | (refine AOLg.pass ?_; refine AOLg.nx hA tabOk Zc ?_; first | refine NX.done ?_ | refine NX.gt ?_ | refine NX.gf ?_ | (refine NX.gs ?_ ?_ <;> intro hc <;> rw [hc] <;> ((try simp only [zn] at hc) <;> (try simp (disch := omega) only [zz hA, zb, zy, reduceCtorEq, Bool.false_eq_true, Int.reduceLT, Int.reduceLE, Int.reduceNeg] at hc) <;> (try simp only [zw] at hc)) <;> (try (exfalso; omega))) | (refine NX.kC ?_; first | (with_reducible refine NX.call (hr) ?_) | ((first | refine NX.call (hr) ?_)) | fail) | (refine NX.kO ?_; (first | refine NX.callO (hr) (by simp [allEq]) rfl ?_)) | refine NX.k 7 (NX.one Z7 ?_) | refine NX.k 9 (NX.one Z9 ?_) | refine NX.k 10 (NX.one Z10 ?_) | refine NX.k 14 (NX.one Z14 ?_) | refine NX.k 15 (NX.one Z15 ?_) | refine NX.k 18 (NX.one Z18 ?_) | refine NX.raw ?_) | refine Thn.exit ?_ | refine Blk.here ?_ | refine Blk.other (by decide) ?_ | refine ⟨.inl rfl, _, RetOk.ev tabOk Zc, ?_⟩ | fail)
    refine rPV_then (by conv => lhs; cbv) ?_
    rw [hrt, hid_eq hA]
end Go.Proofs.Ytkkjlmcnfoncdaa.Aw

namespace Go.Proofs.Ytkkjlmcnfoncdaa.Aw
open Go Go.RowKit
set_option maxRecDepth 10000
abbrev ints (l : List Int) : List (List IC) := l.map fun z => [I z]
abbrev nts (l : List (Int × Int)) : List (List IC) := l.map fun n => [I n.1, I n.2]
abbrev cellsPV (V N M : List (List IC)) : PV := .agg [.sl 1 false V, .sl 2 false N, .sl 1 false M]
def undo1 (n : Int × Int) (v : List Int) : Option (List Int) := if n.1 = -1 ∧ 0 < v.length then some v.dropLast else if 0 ≤ n.1 ∧ n.1 < v.length then some (v.set n.1.toNat n.2) else none
def undoAll : List (Int × Int) → List Int → Option (List Int)
  | [], v => some v
  | n :: r, v => (undoAll r v).bind (undo1 n)
theorem ints_get {V : List Int} {i : Nat} (h : i < V.length) : (ints V)[i]? = some [I V[i]] := by simp [ints, h]
def undoneR : Option (List Int) → PV
  | some v => .tup [.c (.sl 1 false (ints v)), .c (Bo true)]
  | none => .tup [.c (.sl 0 true []), .c (Bo false)]
theorem undoAll_none {D : List (Int × Int)} {V : List Int} (k : Nat) (h : undoAll (D.drop k) V = none) : undoAll D V = none := by
  have happ : ∀ (l1 l2 : List (Int × Int)) (v : List Int), undoAll (l1 ++ l2) v = (undoAll l2 v).bind (undoAll l1) := by
    intro l1
    induction l1 with
    | nil => intro l2 v; simp [undoAll]
    | cons n r ih => intro l2 v; simp only [List.cons_append, undoAll, ih]; cases undoAll l2 v <;> simp
  have := happ (D.take k) (D.drop k) V
  rw [List.take_append_drop, h] at this
  exact this
variable {A : Ar} (hA : A = real)
include hA
end Go.Proofs.Ytkkjlmcnfoncdaa.Aw

namespace Go.Proofs.Ytkkjlmcnfoncdaa.Aw
open Go Go.RowKit
set_option maxRecDepth 10000
variable {A : Ar} (hA : A = real)
include hA
end Go.Proofs.Ytkkjlmcnfoncdaa.Aw

namespace Go.Proofs.Ytkkjlmcnfoncdaa.Aw
open Go Go.RowKit
set_option maxRecDepth 10000
variable {A : Ar} (hA : A = real)
include hA
end Go.Proofs.Ytkkjlmcnfoncdaa.Aw

namespace Go.Proofs.Ytkkjlmcnfoncdaa.Aw
open Go Go.RowKit
set_option maxRecDepth 10000
variable {A : Ar} (hA : A = real)
include hA
end Go.Proofs.Ytkkjlmcnfoncdaa.Aw

namespace Go.Proofs.Ytkkjlmcnfoncdaa.Aw
open Go Go.RowKit
set_option maxRecDepth 10000
variable {A : Ar} (hA : A = real)
include hA
end Go.Proofs.Ytkkjlmcnfoncdaa.Aw

namespace Go.Proofs.Ytkkjlmcnfoncdaa.Aw
open Go Go.RowKit
set_option maxRecDepth 10000
theorem take_succ_eq {α : Type} {a b : List α} {k : Nat} {x y : α} (h : a.take k = b.take k) (ha : a[k]? = some x) (hb : b[k]? = some y) (e : x = y) : a.take (k + 1) = b.take (k + 1) := by
  rw [List.take_add_one, List.take_add_one, h, ha, hb, e]
theorem ints_get? (V : List Int) (i : Nat) (z : Int) (h : V[i]? = some z) : (ints V)[i]? = some [I z] := by simp [ints, h]
theorem nts_get? (V : List (Int × Int)) (i : Nat) (a b : Int) (h : V[i]? = some (a, b)) : (nts V)[i]? = some [I a, I b] := by simp [nts, h]
variable {A : Ar} (hA : A = real)
include hA
theorem refInts (a b : List Int) (ha : a.length ≤ 1000000) (hb : b.length ≤ 1000000) : PureCalls Try.prog 17 [.c (.sl 1 false (ints a)), .c (.sl 1 false (ints b))] (.c (Bo (decide (a = b)))) := by
  refine PureCalls.of Try.func17 rfl (by kernel_rfl) rfl ?_
  have hal : (ints a).length = a.length := by simp
  have hbl : (ints b).length = b.length := by simp
  have hag := ints_get? a
  have hbg := ints_get? b
  generalize ints a = X at hal hag ⊢
  generalize ints b = Y at hbl hbg ⊢
  refine AWp.seq (AWp.region (AOL.to hA tabOk (by conv => lhs; cbv) (AOL.nil ?_)))
  refine AWp.seq (AWp.seq (AWp.region (AOL.to hA tabOk (by conv => lhs; cbv) (AOL.nil ?_))))
  by_cases hl : a.length = b.length
  · rw [show A .no (A .eq (A .len X) (A .len Y)) = false by rw [rno hA, req hA, rlen hA, rlen hA, hal, hbl, hl]; simp]
    refine AWp.cond_f rfl (AWp.skip ?_)
    refine AWp.seq (AWp.seq (AWp.region (AOL.to hA tabOk (by conv => lhs; cbv) (AOL.nil ?_))))
    refine AWp.block ?_
    refine AWp.loop (fun m s => ∃ k : Nat, m + k = a.length ∧ a.take k = b.take k ∧ Sub ⟨26, [(0, .ic (.sl 1 false X)), (1, .ic (.sl 1 false Y)), (5, .ic (I (k : Int)))], []⟩ s) a.length ⟨0, by omega, by simp, Sub.of rfl rfl (.cons rfl (.cons rfl (.cons rfl .nil)))⟩ ?_
    rintro m s ⟨k, hm, htk, hsub⟩
    refine AWp.sub hsub ?_
    generalize hz : (k : Int) = z
    refine AWp.seq (AWp.seq (AWp.region (AOL.to hA tabOk (by conv => lhs; cbv) (AOL.nil ?_))))
    rcases Nat.lt_or_ge k a.length with hk | hk
    · rw [show A .lt z (A .len X) = true by rw [rlt hA, rlen hA, hal]; exact decide_eq_true (by omega)]
      refine AWp.cond_t rfl (AWp.skip ?_)
      have h1 : a[k]? = some a[k] := List.getElem?_eq_getElem hk
      have h2 : b[k]? = some (b[k]'(by omega)) := List.getElem?_eq_getElem (by omega)
      generalize a[k] = u at h1
      generalize b[k]'(by omega) = v at h2
      have hzk : z.toNat = k := by omega
      refine AWp.seq (AWp.block (AWp.seq (AWp.drawQ 9 rfl (by kernel_rfl) ?_)))
      refine QS.to hA tabOk (by conv => lhs; cbv) ?_
      refine QS.one rfl (One.elem tabOk rfl rfl rfl rfl (by omega) (by rw [hzk]; exact hag k u h1)) ?_
      refine QS.to hA tabOk (by conv => lhs; cbv) ?_
      refine QS.one rfl (One.elem tabOk rfl rfl rfl rfl (by omega) (by rw [hzk]; exact hbg k v h2)) ?_
      refine QS.to hA tabOk (by conv => lhs; cbv) ?_
      refine AOL.to hA tabOk (by conv => lhs; cbv) (AOL.nil ?_)
      by_cases huv : u = v
      · rw [show A .no (A .eq u v) = false by rw [rno hA, req hA, huv]; simp]
        refine AWp.cond_f rfl (AWp.skip ?_)
        refine AWp.region (AOL.to hA tabOk (by conv => lhs; cbv) (AOL.nil ?_))
        rw [show A .add .i64 z 1 = ((k + 1 : Nat) : Int) by rw [radd hA, wok (by omega) (by omega)]; omega]
        exact ⟨m - 1, by omega, k + 1, by omega, take_succ_eq htk h1 h2 huv, Sub.of rfl rfl (.cons rfl (.cons rfl (.cons rfl .nil)))⟩
      · rw [show A .no (A .eq u v) = true by rw [rno hA, req hA]; simp [huv]]
        refine AWp.cond_t rfl ?_
        refine AWp.seq (AWp.region (AOL.to hA tabOk (by conv => lhs; cbv) (AOL.nil ?_)))
        have hne : decide (a = b) = false := decide_eq_false fun e => huv (by rw [e, h2] at h1; simpa using h1.symm)
        rw [hne]
        exact AWp.ret ⟨.inr rfl, _, RetOk.one rfl (Res1.tmp _), rfl⟩
    · rw [show A .lt z (A .len X) = false by rw [rlt hA, rlen hA, hal]; exact decide_eq_false (by omega)]
      refine AWp.cond_f rfl (AWp.exit (Thn.exit (Thn.exit (Blk.here ?_))))
      have heq : decide (a = b) = true := decide_eq_true (by rwa [List.take_of_length_le hk, List.take_of_length_le (by omega)] at htk)
      rw [heq]
      refine AWp.seq (AWp.region (AOL.to hA tabOk (by conv => lhs; cbv) (AOL.nil ?_)))
      exact AWp.ret ⟨.inr rfl, _, RetOk.one rfl (Res1.tmp _), rfl⟩
  · rw [show A .no (A .eq (A .len X) (A .len Y)) = true by rw [rno hA, req hA, rlen hA, rlen hA, hal, hbl]; simp; omega]
    refine AWp.cond_t rfl ?_
    refine AWp.seq (AWp.region (AOL.to hA tabOk (by conv => lhs; cbv) (AOL.nil ?_)))
    have hne : decide (a = b) = false := decide_eq_false fun e => hl (by rw [e])
    rw [hne]
    exact AWp.ret ⟨.inr rfl, _, RetOk.one rfl (Res1.tmp _), rfl⟩
end Go.Proofs.Ytkkjlmcnfoncdaa.Aw

namespace Go.Proofs.Ytkkjlmcnfoncdaa.Aw
open Go Go.RowKit
set_option maxRecDepth 10000
structure Cl where
  V : List Int
  N : List (Int × Int)
  M : List Int
  deriving DecidableEq
abbrev Cl.pv (c : Cl) : PV := cellsPV (ints c.V) (nts c.N) (ints c.M)
structure Cl.small (c : Cl) : Prop where
  v : c.V.length ≤ 100000
  n : c.N.length ≤ 100000
  m : c.M.length ≤ 100000
variable {A : Ar} (hA : A = real)
include hA
end Go.Proofs.Ytkkjlmcnfoncdaa.Aw

namespace Go.Proofs.Ytkkjlmcnfoncdaa.Aw
open Go Go.RowKit
set_option maxRecDepth 10000
variable {A : Ar} (hA : A = real)
include hA
theorem refCells (V : List Int) (N : List (Int × Int)) (M : List (List IC)) (many : Nat) (hf : many ≤ N.length) (hV : V.length ≤ 1000000) (hN : N.length ≤ 1000000) :
    PureCalls Try.prog 118 [cellsPV (ints V) (nts N) M, .c (I many)] (undoneR (undoAll (N.drop many) V)) := by
  refine PureCalls.of Try.func118 rfl (by kernel_rfl) rfl ?_
  have hng := nts_get? N
  generalize hVr : ints V = Vr
  generalize hNr : nts N = Nr at hng ⊢
  generalize hmn : (many : Int) = mn
  have hVl : Vr.length = V.length := by rw [← hVr]; simp
  have hNl : Nr.length = N.length := by rw [← hNr]; simp
  refine AWp.seq (AWp.region (AOL.to hA tabOk (by conv => lhs; cbv) (AOL.nil ?_)))
  refine AWp.seq (AWp.region (AOL.to hA tabOk (by conv => lhs; cbv) ?_))
  refine One.build0 tabOk rfl rfl _ _ ?_
  refine AOL.to hA tabOk (by conv => lhs; cbv) ?_
  refine One.appendOwn tabOk rfl rfl rfl rfl rfl rfl ?_ ?_ _ _ ?_
  · show (0 + Vr.length) * 8 ≤ _; omega
  · show 0 + Vr.length ≤ _; simp only [maxLen]; omega
  refine AOL.to hA tabOk (by conv => lhs; cbv) (AOL.nil ?_)
  refine AWp.seq (AWp.seq (AWp.region (AOL.to hA tabOk (by conv => lhs; cbv) (AOL.nil ?_))))
  have hs : A .sub .i64 (A .len Nr) 1 = (N.length : Int) - 1 := by rw [rsub hA, rlen hA, hNl, wok (by omega) (by omega)]
  rw [hs]
  refine AWp.block ?_
  refine AWp.loop (fun m s => ∃ (k ver : Nat) (Vk : List Int), m + many = k ∧ k ≤ N.length ∧ undoAll (N.drop k) V = some Vk ∧ Vk.length ≤ V.length ∧ Sub ⟨57, [(1, .ic (I mn)), (2, .ptr 0 0), (6, .own 1 ver), (7, .ic (I ((k : Int) - 1)))],
    [.var true 29 [.ic (.sl 1 false Vr), .ic (.sl 2 false Nr), .ic (.sl 1 false M)], .row true ver 3 1 (ints Vk)]⟩ s) (N.length - many)
    ⟨N.length, 1, V, by omega, Nat.le_refl _, by simp [undoAll], Nat.le_refl _, Sub.of rfl (by rw [hVr]) (.cons rfl (.cons rfl (.cons rfl (.cons rfl .nil))))⟩ ?_
  rintro m s ⟨k, ver, Vk, hm, hk, hu, hle, hsub⟩
  refine AWp.sub hsub (AWp.trim 2 (Nat.le_refl _) ?_)
  have hIl : (ints Vk).length = Vk.length := by simp
  have hIg := ints_get? Vk
  generalize hI : ints Vk = Ik at hIl hIg
  generalize hz : (k : Int) - 1 = z
  refine AWp.seq (AWp.seq (AWp.region (AOL.to hA tabOk (by conv => lhs; cbv) (AOL.nil ?_))))
  cases m with
  | zero =>
    rw [show A .le mn z = false by rw [rle hA]; exact decide_eq_false (by omega)]
    refine AWp.cond_f rfl (AWp.exit (Thn.exit ?_))
    refine ⟨[(6, .own 1 ver)], Trim.of rfl (.same (.same .nil)) rfl (.cons rfl .nil), Thn.exit (Blk.here ?_)⟩
    have hkm : k = many := by omega
    rw [hkm] at hu
    rw [hu]
    simp only [undoneR]
    rw [hI]
    refine AWp.seq (AWp.region (AOL.to hA tabOk (by conv => lhs; cbv) (AOL.nil ?_)))
    exact AWp.ret ⟨.inr rfl, _, RetOk.two rfl (Res1.tmp _) (Res1.tmp _), rPV_own2 rfl rfl⟩
  | succ m =>
    rw [show A .le mn z = true by rw [rle hA]; exact decide_eq_true (by omega)]
    refine AWp.cond_t rfl (AWp.skip ?_)
    obtain ⟨k, rfl⟩ : ∃ k', k = k' + 1 := ⟨k - 1, by omega⟩
    have hn : N[k]? = some N[k] := List.getElem?_eq_getElem (by omega)
    have hd : N.drop k = N[k] :: N.drop (k + 1) := List.drop_eq_getElem_cons (by omega)
    generalize N[k] = n at hn hd
    obtain ⟨a, b⟩ := n
    have hstep : undoAll (N.drop k) V = undo1 (a, b) Vk := by rw [hd]; simp [undoAll, hu]
    have hzk : z.toNat = k := by omega
    have hdec : A .sub .i64 z 1 = (k : Int) - 1 := by rw [rsub hA, wok (by omega) (by omega)]; omega
    refine AWp.seq (AWp.block (AWp.seq (AWp.region (AOL.to hA tabOk (by conv => lhs; cbv) ?_))))
    refine One.elem tabOk rfl rfl rfl rfl (by omega) (by rw [hzk]; exact hng k a b hn) _ _ ?_
    refine AOL.to hA tabOk (by conv => lhs; cbv) (AOL.nil ?_)
    by_cases h1 : a = -1 ∧ 0 < Vk.length
    · have hun : undo1 (a, b) Vk = some Vk.dropLast := by simp [undo1, h1.1, h1.2]
      refine AWp.seq (AWp.region (AOL.upto hA tabOk 4 (by conv => lhs; cbv) ?_))
      rw [show A .eq a (-1) = true by rw [req hA]; exact decide_eq_true h1.1]
      refine AOL.to hA tabOk (by conv => lhs; cbv) ?_
      refine One.lenOwn tabOk rfl rfl rfl rfl (rlen hA Ik).symm _ _ ?_
      refine AOL.to hA tabOk (by conv => lhs; cbv) (AOL.nil ?_)
      rw [show A .lt 0 (A .len Ik) = true by rw [rlt hA, rlen hA]; exact decide_eq_true (by omega)]
      refine AWp.cond_t rfl (AWp.region (AOL.to hA tabOk (by conv => lhs; cbv) ?_))
      refine One.lenOwn tabOk rfl rfl rfl rfl (rlen hA Ik).symm _ _ ?_
      refine AOL.to hA tabOk (by conv => lhs; cbv) ?_
      have hs : A .sub .i64 (A .len Ik) 1 = ((Vk.length - 1 : Nat) : Int) := by rw [rsub hA, rlen hA, wok (by omega) (by omega)]; omega
      refine One.takeOwn tabOk rfl rfl rfl rfl rfl (by rw [hs]; omega) (by rw [hs]; omega) _ _ ?_
      rw [hs]
      have hd2 : Ik.take (((Vk.length - 1 : Nat) : Int)).toNat = ints Vk.dropLast := by rw [← hI, Int.toNat_natCast, List.dropLast_eq_take]; simp [ints, List.map_take]
      rw [hd2]
      generalize hI2 : ints Vk.dropLast = Ik2
      generalize ver + 1 = ver'
      refine AOL.to hA tabOk (by conv => lhs; cbv) (AOL.nil ?_)
      refine AWp.region (AOL.to hA tabOk (by conv => lhs; cbv) (AOL.nil ?_))
      rw [hdec]
      refine ⟨[(1, .ic (I mn)), (2, .ptr 0 0), (6, .own 1 ver'), (7, .ic (I ((k : Int) - 1)))], Trim.of rfl (.same (.turn rfl .nil)) rfl (.cons rfl (.cons rfl (.cons rfl (.cons rfl .nil)))), ?_⟩
      exact ⟨m, by omega, k, ver', Vk.dropLast, by omega, by omega, by rw [hstep, hun], by simp; omega, Sub.of rfl (by rw [hI2]; rfl) (.cons rfl (.cons rfl (.cons rfl (.cons rfl .nil))))⟩
    · by_cases h2 : 0 ≤ a ∧ a < Vk.length
      · have hun : undo1 (a, b) Vk = some (Vk.set a.toNat b) := by simp only [undo1]; rw [if_neg h1, if_pos h2]
        have hlt : a.toNat < Vk.length := by omega
        have hu2 : Ik[a.toNat]? = some [I (Vk[a.toNat]'hlt)] := hIg _ _ (List.getElem?_eq_getElem hlt)
        refine AWp.seq (AWp.region (AOL.upto hA tabOk 4 (by conv => lhs; cbv) ?_))
        rw [show A .eq a (-1) = false by rw [req hA]; exact decide_eq_false (by omega)]
        refine AOL.to hA tabOk (by conv => lhs; cbv) (AOL.nil ?_)
        refine AWp.cond_f rfl ?_
        refine AWp.seq (AWp.region (AOL.upto hA tabOk 4 (by conv => lhs; cbv) ?_))
        rw [show A .le 0 a = true by rw [rle hA]; exact decide_eq_true (by omega)]
        refine AOL.to hA tabOk (by conv => lhs; cbv) ?_
        refine One.lenOwn tabOk rfl rfl rfl rfl (rlen hA Ik).symm _ _ ?_
        refine AOL.to hA tabOk (by conv => lhs; cbv) (AOL.nil ?_)
        rw [show A .lt a (A .len Ik) = true by rw [rlt hA, rlen hA]; exact decide_eq_true (by omega)]
        refine AWp.cond_t rfl (AWp.region (AOL.to hA tabOk (by conv => lhs; cbv) ?_))
        refine One.elemOwn tabOk rfl rfl rfl rfl rfl (by omega) (by omega) _ _ ?_
        refine One.storeRat tabOk rfl rfl rfl rfl hu2 rfl rfl rfl (Nat.le_refl 1) _ _ ?_
        generalize hV' : Ik.set a.toNat _ = Ik2
        have hd2 : ints (Vk.set a.toNat b) = Ik2 := by rw [← hV', ← hI]; simp [ints, List.map_set]
        refine AOL.to hA tabOk (by conv => lhs; cbv) (AOL.nil ?_)
        refine AWp.region (AOL.to hA tabOk (by conv => lhs; cbv) (AOL.nil ?_))
        rw [hdec]
        refine ⟨[(1, .ic (I mn)), (2, .ptr 0 0), (6, .own 1 ver), (7, .ic (I ((k : Int) - 1)))], Trim.of rfl (.same (.turn rfl .nil)) rfl (.cons rfl (.cons rfl (.cons rfl (.cons rfl .nil)))), ?_⟩
        exact ⟨m, by omega, k, ver, Vk.set a.toNat b, by omega, by omega, by rw [hstep, hun], by simpa using hle, Sub.of rfl (by rw [hd2]; rfl) (.cons rfl (.cons rfl (.cons rfl (.cons rfl .nil))))⟩
      · have hun : undo1 (a, b) Vk = none := by simp only [undo1]; rw [if_neg h1, if_neg h2]
        have hnone : undoAll (N.drop many) V = none := by
          refine undoAll_none (k - many) ?_
          rw [List.drop_drop, show many + (k - many) = k by omega, hstep, hun]
        rw [hnone]
        refine AWp.seq (AWp.region (AOL.upto hA tabOk 4 (by conv => lhs; cbv) ?_))
        by_cases h3 : a = -1
        · rw [show A .eq a (-1) = true by rw [req hA]; exact decide_eq_true h3]
          refine AOL.to hA tabOk (by conv => lhs; cbv) ?_
          refine One.lenOwn tabOk rfl rfl rfl rfl (rlen hA Ik).symm _ _ ?_
          refine AOL.to hA tabOk (by conv => lhs; cbv) (AOL.nil ?_)
          rw [show A .lt 0 (A .len Ik) = false by rw [rlt hA, rlen hA]; exact decide_eq_false (by omega)]
          refine AWp.cond_f rfl ?_
          refine AWp.seq (AWp.region (AOL.upto hA tabOk 4 (by conv => lhs; cbv) ?_))
          rw [show A .le 0 a = false by rw [rle hA]; exact decide_eq_false (by omega)]
          refine AOL.to hA tabOk (by conv => lhs; cbv) (AOL.nil ?_)
          refine AWp.cond_f rfl ?_
          refine AWp.seq (AWp.region (AOL.to hA tabOk (by conv => lhs; cbv) (AOL.nil ?_)))
          refine AWp.ret ⟨[(4, .ic (.sl 0 true [])), (5, .ic (Bo false))], Trim.of rfl (.same (.same .nil)) rfl (.cons rfl (.cons rfl .nil)), ?_⟩
          exact ⟨.inr rfl, _, RetOk.two rfl (Res1.tmp _) (Res1.tmp _), rfl⟩
        · rw [show A .eq a (-1) = false by rw [req hA]; exact decide_eq_false h3]
          refine AOL.to hA tabOk (by conv => lhs; cbv) (AOL.nil ?_)
          refine AWp.cond_f rfl ?_
          refine AWp.seq (AWp.region (AOL.upto hA tabOk 4 (by conv => lhs; cbv) ?_))
          by_cases h4 : 0 ≤ a
          · rw [show A .le 0 a = true by rw [rle hA]; exact decide_eq_true h4]
            refine AOL.to hA tabOk (by conv => lhs; cbv) ?_
            refine One.lenOwn tabOk rfl rfl rfl rfl (rlen hA Ik).symm _ _ ?_
            refine AOL.to hA tabOk (by conv => lhs; cbv) (AOL.nil ?_)
            rw [show A .lt a (A .len Ik) = false by rw [rlt hA, rlen hA]; exact decide_eq_false (by omega)]
            refine AWp.cond_f rfl ?_
            refine AWp.seq (AWp.region (AOL.to hA tabOk (by conv => lhs; cbv) (AOL.nil ?_)))
            refine AWp.ret ⟨[(4, .ic (.sl 0 true [])), (5, .ic (Bo false))], Trim.of rfl (.same (.same .nil)) rfl (.cons rfl (.cons rfl .nil)), ?_⟩
            exact ⟨.inr rfl, _, RetOk.two rfl (Res1.tmp _) (Res1.tmp _), rfl⟩
          · rw [show A .le 0 a = false by rw [rle hA]; exact decide_eq_false h4]
            refine AOL.to hA tabOk (by conv => lhs; cbv) (AOL.nil ?_)
            refine AWp.cond_f rfl ?_
            refine AWp.seq (AWp.region (AOL.to hA tabOk (by conv => lhs; cbv) (AOL.nil ?_)))
            refine AWp.ret ⟨[(4, .ic (.sl 0 true [])), (5, .ic (Bo false))], Trim.of rfl (.same (.same .nil)) rfl (.cons rfl (.cons rfl .nil)), ?_⟩
            exact ⟨.inr rfl, _, RetOk.two rfl (Res1.tmp _) (Res1.tmp _), rfl⟩
end Go.Proofs.Ytkkjlmcnfoncdaa.Aw

namespace Go.Proofs.Ytkkjlmcnfoncdaa.Aw
open Go Go.RowKit
set_option maxRecDepth 10000
def mOk (n : Int) : Int → List Int → Bool
  | _, [] => true
  | p, m :: r => decide (p ≤ m) && decide (m ≤ n) && mOk n m r
def Cl.right (c : Cl) : Bool := mOk c.N.length 0 c.M && (undoAll c.N c.V).isSome
theorem undoneR_tup (o : Option (List Int)) : ∃ x, undoneR o = .tup [.c x, .c (Bo o.isSome)] := by cases o <;> exact ⟨_, rfl⟩
variable {A : Ar} (hA : A = real)
include hA
theorem refRight (c : Cl) (hc : c.small) : PureCalls Try.prog 91 [c.pv] (.c (Bo c.right)) := by
  obtain ⟨V, N, M⟩ := c
  obtain ⟨hv, hn, hm⟩ := hc
  simp only at hv hn hm
  simp only [Cl.right, Cl.pv]
  refine PureCalls.of Try.func91 rfl (by kernel_rfl) rfl ?_
  have hcl := refCells hA V N (ints M) 0 (Nat.zero_le _) (by omega) (by omega)
  rw [List.drop_zero] at hcl
  have hMg := ints_get? M
  have hMl : (ints M).length = M.length := by simp
  have hNl : (nts N).length = N.length := by simp
  generalize ints V = Vr at hcl ⊢
  generalize nts N = Nr at hNl hcl ⊢
  generalize ints M = Mr at hMl hMg hcl ⊢
  refine AWp.seq (AWp.region (AOL.to hA tabOk (by conv => lhs; cbv) (AOL.nil ?_)))
  refine AWp.seq (AWp.seq (AWp.region (AOL.to hA tabOk (by conv => lhs; cbv) (AOL.nil ?_))))
  refine AWp.block ?_
  refine AWp.loop (fun q s => ∃ (k : Nat) (p : Int), q + k = M.length ∧ 0 ≤ p ∧ (∀ j, k = j + 1 → M[j]? = some p) ∧ (k = 0 → p = 0) ∧ mOk N.length 0 M = mOk N.length p (M.drop k) ∧ Sub ⟨54, [(1, .ptr 0 0), (3, .ic (I (k : Int)))],
    [.var true 29 [.ic (.sl 1 false Vr), .ic (.sl 2 false Nr), .ic (.sl 1 false Mr)]]⟩ s) M.length
    ⟨0, 0, by omega, by omega, by simp, by simp, by simp, Sub.of rfl rfl (.cons rfl (.cons rfl .nil))⟩ ?_
  rintro q s ⟨k, p, hk, hp0, hpk, hpz, hmk, hsub⟩
  refine AWp.sub hsub ?_
  generalize hz : (k : Int) = z
  refine AWp.seq (AWp.seq (AWp.region (AOL.to hA tabOk (by conv => lhs; cbv) (AOL.nil ?_))))
  rcases Nat.lt_or_ge k M.length with hkl | hkl
  · rw [show A .lt z (A .len Mr) = true by rw [rlt hA, rlen hA]; exact decide_eq_true (by omega)]
    refine AWp.cond_t rfl (AWp.skip ?_)
    have hmm : M[k]? = some M[k] := List.getElem?_eq_getElem hkl
    have hdm : M.drop k = M[k] :: M.drop (k + 1) := List.drop_eq_getElem_cons hkl
    generalize M[k] = m at hmm hdm
    have hzk : z.toNat = k := by omega
    have hel := hMg k m hmm
    have hadd : A .add .i64 z 1 = ((k + 1 : Nat) : Int) := by rw [radd hA, wok (by omega) (by omega)]; omega
    rw [hdm] at hmk
    simp only [mOk] at hmk
    refine AWp.seq (AWp.block (AWp.seq (AWp.drawQ 35 rfl (by kernel_rfl) ?_)))
    refine QS.to hA tabOk (by conv => lhs; cbv) ?_
    refine QS.one rfl (One.elem tabOk rfl rfl rfl rfl (by omega) (by rw [hzk]; exact hel)) ?_
    refine QS.upto hA tabOk 3 (by conv => lhs; cbv) ?_
    by_cases h1 : m < 0
    · rw [show A .lt m 0 = true by rw [rlt hA]; exact decide_eq_true h1]
      refine QS.to hA tabOk (by conv => lhs; cbv) ?_
      refine AOL.to hA tabOk (by conv => lhs; cbv) (AOL.nil ?_)
      refine AWp.cond_t rfl ?_
      refine AWp.seq (AWp.region (AOL.to hA tabOk (by conv => lhs; cbv) (AOL.nil ?_)))
      rw [hmk, show decide (p ≤ m) = false from decide_eq_false (by omega)]
      exact AWp.ret ⟨.inr rfl, _, RetOk.one rfl (Res1.tmp _), rfl⟩
    · rw [show A .lt m 0 = false by rw [rlt hA]; exact decide_eq_false h1]
      refine QS.to hA tabOk (by conv => lhs; cbv) ?_
      refine QS.one rfl (One.elem tabOk rfl rfl rfl rfl (by omega) (by rw [hzk]; exact hel)) ?_
      refine QS.upto hA tabOk 7 (by conv => lhs; cbv) ?_
      by_cases h2 : (N.length : Int) < m
      · rw [show A .lt (A .len Nr) m = true by rw [rlt hA, rlen hA, hNl]; exact decide_eq_true h2]
        refine QS.to hA tabOk (by conv => lhs; cbv) ?_
        refine AOL.to hA tabOk (by conv => lhs; cbv) (AOL.nil ?_)
        refine AWp.cond_t rfl ?_
        refine AWp.seq (AWp.region (AOL.to hA tabOk (by conv => lhs; cbv) (AOL.nil ?_)))
        rw [hmk, show decide (m ≤ (N.length : Int)) = false from decide_eq_false (by omega)]
        simp only [Bool.and_false, Bool.false_and]
        exact AWp.ret ⟨.inr rfl, _, RetOk.one rfl (Res1.tmp _), rfl⟩
      · rw [show A .lt (A .len Nr) m = false by rw [rlt hA, rlen hA, hNl]; exact decide_eq_false h2]
        rw [show decide (m ≤ (N.length : Int)) = true from decide_eq_true (by omega)] at hmk
        refine QS.upto hA tabOk 3 (by conv => lhs; cbv) ?_
        cases k with
        | zero =>
          rw [show A .lt 0 z = false by rw [rlt hA]; exact decide_eq_false (by omega)]
          refine QS.to hA tabOk (by conv => lhs; cbv) ?_
          refine AOL.to hA tabOk (by conv => lhs; cbv) (AOL.nil ?_)
          refine AWp.cond_f rfl (AWp.skip ?_)
          refine AWp.region (AOL.to hA tabOk (by conv => lhs; cbv) (AOL.nil ?_))
          rw [hadd]
          have hp : p = 0 := hpz rfl
          rw [show decide (p ≤ m) = true from decide_eq_true (by omega)] at hmk
          simp only [Bool.true_and] at hmk
          exact ⟨q - 1, by omega, 1, m, by omega, by omega, fun j hj => (show 0 = j by omega) ▸ hmm, by omega, hmk, Sub.of rfl rfl (.cons rfl (.cons rfl .nil))⟩
        | succ k =>
          rw [show A .lt 0 z = true by rw [rlt hA]; exact decide_eq_true (by omega)]
          have hpe := hMg k p (hpk k rfl)
          refine QS.to hA tabOk (by conv => lhs; cbv) ?_
          refine QS.one rfl (One.elem tabOk rfl rfl rfl rfl (by omega) (by rw [hzk]; exact hel)) ?_
          refine QS.to hA tabOk (by conv => lhs; cbv) ?_
          have hsz : A .sub .i64 z 1 = (k : Int) := by rw [rsub hA, wok (by omega) (by omega)]; omega
          refine QS.one rfl (One.elem tabOk rfl rfl rfl rfl (by rw [hsz]; omega) (by rw [hsz, Int.toNat_natCast]; exact hpe)) ?_
          refine QS.upto hA tabOk 2 (by conv => lhs; cbv) ?_
          by_cases h3 : m < p
          · rw [show A .lt m p = true by rw [rlt hA]; exact decide_eq_true h3]
            refine QS.to hA tabOk (by conv => lhs; cbv) ?_
            refine AOL.to hA tabOk (by conv => lhs; cbv) (AOL.nil ?_)
            refine AWp.cond_t rfl ?_
            refine AWp.seq (AWp.region (AOL.to hA tabOk (by conv => lhs; cbv) (AOL.nil ?_)))
            rw [hmk, show decide (p ≤ m) = false from decide_eq_false (by omega)]
            exact AWp.ret ⟨.inr rfl, _, RetOk.one rfl (Res1.tmp _), rfl⟩
          · rw [show A .lt m p = false by rw [rlt hA]; exact decide_eq_false h3]
            refine QS.to hA tabOk (by conv => lhs; cbv) ?_
            refine AOL.to hA tabOk (by conv => lhs; cbv) (AOL.nil ?_)
            refine AWp.cond_f rfl (AWp.skip ?_)
            refine AWp.region (AOL.to hA tabOk (by conv => lhs; cbv) (AOL.nil ?_))
            rw [hadd]
            rw [show decide (p ≤ m) = true from decide_eq_true (by omega)] at hmk
            simp only [Bool.true_and] at hmk
            exact ⟨q - 1, by omega, k + 1 + 1, m, by omega, by omega, fun j hj => (show k + 1 = j by omega) ▸ hmm, by omega, hmk, Sub.of rfl rfl (.cons rfl (.cons rfl .nil))⟩
  · rw [show A .lt z (A .len Mr) = false by rw [rlt hA, rlen hA]; exact decide_eq_false (by omega)]
    refine AWp.cond_f rfl (AWp.exit (Thn.exit (Thn.exit (Blk.here ?_))))
    rw [List.drop_of_length_le hkl] at hmk
    rw [hmk]
    simp only [mOk, Bool.true_and]
    obtain ⟨x, hx⟩ := undoneR_tup (undoAll N V)
    rw [hx] at hcl
    generalize (undoAll N V).isSome = r at hcl ⊢
    refine AWp.seq (AWp.region (AOL.to hA tabOk (by conv => lhs; cbv) ?_))
    refine One.call false rfl rfl rfl hcl rfl _ _ ?_
    refine AOL.to hA tabOk (by conv => lhs; cbv) (AOL.nil ?_)
    refine AWp.seq (AWp.region (AOL.to hA tabOk (by conv => lhs; cbv) (AOL.nil ?_)))
    exact AWp.ret ⟨.inr rfl, _, RetOk.one rfl (Res1.tmp _), rfl⟩
end Go.Proofs.Ytkkjlmcnfoncdaa.Aw

namespace Go.Proofs.Ytkkjlmcnfoncdaa.Aw
open Go Go.RowKit
set_option maxRecDepth 10000
variable {A : Ar} (hA : A = real)
include hA
end Go.Proofs.Ytkkjlmcnfoncdaa.Aw

namespace Go.Proofs.Ytkkjlmcnfoncdaa.Aw
open Go Go.RowKit
set_option maxRecDepth 10000
variable {A : Ar} (hA : A = real)
include hA
end Go.Proofs.Ytkkjlmcnfoncdaa.Aw

namespace Go.Proofs.Ytkkjlmcnfoncdaa.Aw
open Go Go.RowKit
set_option maxRecDepth 10000
variable {A : Ar} (hA : A = real)
include hA
end Go.Proofs.Ytkkjlmcnfoncdaa.Aw

namespace Go.Proofs.Ytkkjlmcnfoncdaa.Aw
open Go Go.RowKit
set_option maxRecDepth 10000
structure Cl.fits (c : Cl) : Prop where
  v : c.V.length ≤ 140737488351232
  n : c.N.length ≤ 140737488351232
  m : c.M.length ≤ 140737488351232
def Cl.marked (c : Cl) : Cl := ⟨c.V, c.N, c.M ++ [(c.N.length : Int)]⟩
variable {A : Ar} (hA : A = real)
include hA
end Go.Proofs.Ytkkjlmcnfoncdaa.Aw

namespace Go.Proofs.Ytkkjlmcnfoncdaa.Aw
open Go Go.RowKit
set_option maxRecDepth 10000
def Cl.grown (c : Cl) (v : Int) : Cl := ⟨c.V ++ [v], c.N ++ [(-1, 0)], c.M⟩
variable {A : Ar} (hA : A = real)
include hA
end Go.Proofs.Ytkkjlmcnfoncdaa.Aw

namespace Go.Proofs.Ytkkjlmcnfoncdaa.Aw
open Go Go.RowKit
def shCells : List Sh := [.sl 8 (.int .i64), .sl 16 (.st [.int .i64, .int .i64]), .sl 8 (.int .i64)]
theorem decCells {ics : List IC} (h : Decs shCells ics) : ∃ c : Cl, ics = [.sl 1 false (ints c.V), .sl 2 false (nts c.N), .sl 1 false (ints c.M)] ∧ c.fits := by
  obtain ⟨a1, b1, rfl, ⟨r1, rfl, h1, l1⟩, a2, b2, rfl, ⟨r2, rfl, h2, l2⟩, a3, b3, rfl, ⟨r3, rfl, h3, l3⟩, rfl⟩ := h
  obtain ⟨V, rfl, _⟩ := decInts h1
  obtain ⟨N, rfl, _⟩ := decPairs h2
  obtain ⟨M, rfl, _⟩ := decInts h3
  refine ⟨⟨V, N, M⟩, rfl, ⟨?_, ?_, ?_⟩⟩
  · simp only [List.length_map] at l1; show V.length ≤ _; omega
  · simp only [List.length_map] at l2; show N.length ≤ _; omega
  · simp only [List.length_map] at l3; show M.length ≤ _; omega
end Go.Proofs.Ytkkjlmcnfoncdaa.Aw

namespace Go.Proofs.Ytkkjlmcnfoncdaa.Aw
open Go Go.RowKit
set_option maxRecDepth 10000
attribute [local irreducible] AWp AOL QS One AOLg QSg NX QX TRg TX AllO Fin3
def rankM (ranks : List Int) (z : Int) : Int := if z < 0 ∨ ranks.length ≤ z then 0 else ranks.getD z.toNat default
def lessM (ranks : List Int) (a b : Int) : Bool := decide (rankM ranks a < rankM ranks b) || (decide (rankM ranks a = rankM ranks b) && decide (a < b))
def encN (n : Int × Int) : List IC := [.lit (.int .i64 n.1), .lit (.int .i64 n.2)]
abbrev clP (A : Ar) (V : List Int) (N : List (Int × Int)) (M : List Int) : PV := .agg [.sl 1 false (hid A (List.map encI V)), .sl 2 false (hid A (List.map encN N)), .sl 1 false (hid A (List.map encI M))]
theorem clP_eq {A : Ar} (hA : A = real) (c : Cl) : clP A c.V c.N c.M = c.pv := by
  simp only [clP, hid_eq hA]; rfl
variable {A : Ar} (hA : A = real)
include hA
end Go.Proofs.Ytkkjlmcnfoncdaa.Aw

namespace Go.Proofs.Ytkkjlmcnfoncdaa.Aw
open Go Go.RowKit
def iterF (V : List Int) : Nat → Int → Int
  | 0, n => n
  | k + 1, n => iterF V k (V.getD n.toNat default)
def findU (V : List Int) (n : Int) : Int := iterF V V.length n
structure RightU (V ranks : List Int) : Prop where
  ok : ∀ n : Nat, n < V.length → V.getD n default = n ∨ (0 ≤ V.getD n default ∧ V.getD n default < V.length ∧ lessM ranks (V.getD n default) n = true)
theorem less_iff (ranks : List Int) (a b : Int) : lessM ranks a b = true ↔ rankM ranks a < rankM ranks b ∨ rankM ranks a = rankM ranks b ∧ a < b := by simp [lessM]
theorem less_irr (ranks : List Int) (a : Int) : lessM ranks a a = false := by simp [lessM]
theorem less_trans {ranks : List Int} {a b c : Int} (h : lessM ranks a b = true) (k : lessM ranks b c = true) : lessM ranks a c = true := by
  rw [less_iff] at *; omega
def muU (V ranks : List Int) (n : Int) : Nat := (List.range V.length).countP fun m => lessM ranks ((m : Nat) : Int) n
theorem countP_lt {α : Type} {p q : α → Bool} : ∀ {l : List α} {x : α}, (∀ y ∈ l, p y = true → q y = true) → x ∈ l → q x = true → p x = false → l.countP p < l.countP q
  | [], x, h, hx, hq, hp => by simp at hx
  | y :: r, x, h, hx, hq, hp => by
    have hmono : r.countP p ≤ r.countP q := List.countP_mono_left fun z hz => h z (List.mem_cons_of_mem _ hz)
    rcases List.mem_cons.1 hx with rfl | hx
    · rw [List.countP_cons, List.countP_cons, hq, hp]
      simp; omega
    · have ih := countP_lt (l := r) (fun z hz => h z (List.mem_cons_of_mem _ hz)) hx hq hp
      rw [List.countP_cons, List.countP_cons]
      have := h y List.mem_cons_self
      cases hpy : p y <;> cases hqy : q y <;> simp_all <;> omega
theorem muU_lt {V ranks : List Int} {p n : Int} (h0 : 0 ≤ p) (h1 : p < V.length) (h : lessM ranks p n = true) : muU V ranks p < muU V ranks n := by
  refine countP_lt (x := p.toNat) (fun y _ hy => less_trans hy h) (List.mem_range.2 (by omega)) ?_ ?_
  · rw [show ((p.toNat : Nat) : Int) = p by omega]; exact h
  · rw [show ((p.toNat : Nat) : Int) = p by omega]; exact less_irr _ _
theorem muU_bound {V ranks : List Int} {n : Nat} (h : n < V.length) : muU V ranks n < V.length := by
  have := countP_lt (p := fun m : Nat => lessM ranks ((m : Nat) : Int) n) (q := fun _ => true) (l := List.range V.length) (x := n) (fun _ _ _ => rfl) (List.mem_range.2 h) rfl (less_irr _ _)
  simpa [muU] using this
theorem iterF_add (V : List Int) (a b : Nat) (n : Int) : iterF V (a + b) n = iterF V b (iterF V a n) := by
  induction a generalizing n with
  | zero => simp [iterF]
  | succ a ih => rw [Nat.succ_add]; exact ih _
theorem iterF_succ (V : List Int) (k : Nat) (n : Int) : iterF V (k + 1) n = V.getD (iterF V k n).toNat default := by
  rw [iterF_add]; rfl
theorem iterF_root {V : List Int} {n : Int} (h : V.getD n.toNat default = n) (k : Nat) : iterF V k n = n := by
  induction k with
  | zero => rfl
  | succ k ih => rw [iterF, h, ih]
variable {V ranks : List Int} (hR : RightU V ranks)
include hR
theorem step_range {n : Int} (h0 : 0 ≤ n) (h1 : n < V.length) : 0 ≤ V.getD n.toNat default ∧ V.getD n.toNat default < V.length := by
  rcases hR.ok n.toNat (by omega) with h | ⟨a, b, _⟩
  · rw [h]; omega
  · exact ⟨a, b⟩
theorem iter_range {n : Int} (h0 : 0 ≤ n) (h1 : n < V.length) (k : Nat) : 0 ≤ iterF V k n ∧ iterF V k n < V.length := by
  induction k with
  | zero => exact ⟨h0, h1⟩
  | succ k ih => rw [iterF_succ]; exact step_range hR ih.1 ih.2
theorem reach {n : Int} (h0 : 0 ≤ n) (h1 : n < V.length) (m : Nat) (hm : muU V ranks n ≤ m) : V.getD (iterF V m n).toNat default = iterF V m n := by
  induction m generalizing n with
  | zero =>
    rcases hR.ok n.toNat (by omega) with h | ⟨a, b, c⟩
    · show V.getD n.toNat default = n
      rw [h]; omega
    · rw [show ((n.toNat : Nat) : Int) = n by omega] at c
      have := muU_lt a b c
      omega
  | succ m ih =>
    rcases hR.ok n.toNat (by omega) with h | ⟨a, b, c⟩
    · have h' : V.getD n.toNat default = n := by rw [h]; omega
      rw [iterF_root h', h']
    · rw [show ((n.toNat : Nat) : Int) = n by omega] at c
      have := muU_lt a b c
      exact ih a b (by omega)
theorem find_fix {n : Int} (h0 : 0 ≤ n) (h1 : n < V.length) : V.getD (findU V n).toNat default = findU V n := by
  refine reach hR h0 h1 _ ?_
  have := muU_bound (ranks := ranks) (V := V) (n := n.toNat) (by omega)
  rw [show ((n.toNat : Nat) : Int) = n by omega] at this
  omega
theorem find_range {n : Int} (h0 : 0 ≤ n) (h1 : n < V.length) : 0 ≤ findU V n ∧ findU V n < V.length := iter_range hR h0 h1 _
theorem find_step {n : Int} (h0 : 0 ≤ n) (h1 : n < V.length) : findU V (V.getD n.toNat default) = findU V n := by
  show iterF V (V.length + 1) n = _
  rw [iterF_succ]
  exact find_fix hR h0 h1
omit hR in
theorem find_root {n : Int} (h : V.getD n.toNat default = n) : findU V n = n := iterF_root h _
end Go.Proofs.Ytkkjlmcnfoncdaa.Aw

namespace Go.Proofs.Ytkkjlmcnfoncdaa.Aw
open Go Go.RowKit
set_option maxRecDepth 10000
attribute [local irreducible] AWp AOL QS One AOLg QSg NX QX TRg TX AllO Fin3
variable {A : Ar} (hA : A = real)
include hA
theorem ufind_c (V : List Int) (N : List (Int × Int)) (M ranks : List Int) (hR : RightU V ranks) (z : Int) (h0 : 0 ≤ z) (h1 : z < V.length) : PureCalls Try.prog 41 [clP A V N M, IP z] (IP (hid A (findU V z))) := by
  refine PureCalls.of Try.func41 rfl (by kernel_rfl) rfl ?_
  try first | refine AOLg.of [] ?_ | refine QSg.of [] ?_
  repeat' (first | (refine AWp.pass ?_; first | refine AWp.seq ?_ | refine AWp.block ?_ | refine AWp.skip ?_ | refine AWp.regG [] Zc ?_ | refine AWp.cond_t rfl ?_ | refine AWp.cond_f rfl ?_ | (refine AWp.cond rfl ?_ ?_ <;> intro hc <;> (try rw [hc]) <;> ((try simp only [zn] at hc) <;> (try simp (disch := omega) only [zz hA, zb, zy, reduceCtorEq, Bool.false_eq_true, Int.reduceLT, Int.reduceLE, Int.reduceNeg] at hc) <;> (try simp only [zw] at hc)) <;> (try (exfalso; omega))) | refine AWp.exit ?_ | refine AWp.ret ⟨.inr rfl, _, RetOk.ev tabOk Zc, ?_⟩) | (refine AOLg.pass ?_; refine AOLg.nx hA tabOk Zc ?_; first | refine NX.done ?_ | refine NX.gt ?_ | refine NX.gf ?_ | (refine NX.gs ?_ ?_ <;> intro hc <;> rw [hc] <;> ((try simp only [zn] at hc) <;> (try simp (disch := omega) only [zz hA, zb, zy, reduceCtorEq, Bool.false_eq_true, Int.reduceLT, Int.reduceLE, Int.reduceNeg] at hc) <;> (try simp only [zw] at hc)) <;> (try (exfalso; omega))) | refine NX.k 1 (NX.one Z1 ?_) | refine NX.k 9 (NX.one Z9 ?_) | refine NX.k 14 (NX.one Z14 ?_) | refine NX.k 18 (NX.one Z18 ?_) | refine NX.raw ?_) | refine Thn.exit ?_ | refine Blk.here ?_ | refine Blk.other (by decide) ?_ | refine ⟨.inl rfl, _, RetOk.ev tabOk Zc, ?_⟩ | fail)
  refine AWp.loopU (fun x : Nat => [(1, .ic (.lit (.int .i64 (hid A (cN x)))))]) (fun _ => [.var true 29 [.ic (.sl 1 false (hid A (List.map encI V))), .ic (.sl 2 false (hid A (List.map encN N))), .ic (.sl 1 false (hid A (List.map encI M)))]]) (fun x => muU V ranks x) (fun x => x < V.length ∧ findU V x = findU V z) z.toNat (by conv => lhs; cbv) ⟨by omega, by rw [show ((z.toNat : Nat) : Int) = z by omega]⟩ (.int rfl (by simp only [hA, real, hid, cN]; omega) .nil) rfl ?_
  rintro x ⟨hx, hf⟩
  have hs := step_range hR (n := (x : Int)) (by omega) (by omega)
  rw [Int.toNat_natCast] at hs
  try first | refine AOLg.of [] ?_ | refine QSg.of [] ?_
  repeat' (first | (refine AWp.pass ?_; first | refine AWp.seq ?_ | refine AWp.block ?_ | refine AWp.skip ?_ | refine AWp.regG [] Zc ?_ | refine AWp.cond_t rfl ?_ | refine AWp.cond_f rfl ?_ | (refine AWp.cond rfl ?_ ?_ <;> intro hc <;> (try rw [hc]) <;> ((try simp only [zn] at hc) <;> (try simp (disch := omega) only [zz hA, zb, zy, reduceCtorEq, Bool.false_eq_true, Int.reduceLT, Int.reduceLE, Int.reduceNeg] at hc) <;> (try simp only [zw] at hc)) <;> (try (exfalso; omega))) | refine AWp.exit ?_ | refine AWp.ret ⟨.inr rfl, _, RetOk.ev tabOk Zc, ?_⟩) | (refine AOLg.pass ?_; refine AOLg.nx hA tabOk Zc ?_; first | refine NX.done ?_ | refine NX.gt ?_ | refine NX.gf ?_ | (refine NX.gs ?_ ?_ <;> intro hc <;> rw [hc] <;> ((try simp only [zn] at hc) <;> (try simp (disch := omega) only [zz hA, zb, zy, reduceCtorEq, Bool.false_eq_true, Int.reduceLT, Int.reduceLE, Int.reduceNeg] at hc) <;> (try simp only [zw] at hc)) <;> (try (exfalso; omega))) | refine NX.k 1 (NX.one Z1 ?_) | refine NX.k 9 (NX.one Z9 ?_) | refine NX.k 14 (NX.one Z14 ?_) | refine NX.k 18 (NX.one Z18 ?_) | refine NX.raw ?_) | refine Thn.exit ?_ | refine Blk.here ?_ | refine Blk.other (by decide) ?_ | refine ⟨.inl rfl, _, RetOk.ev tabOk Zc, ?_⟩ | fail)
  · have hst := find_step hR (n := (x : Int)) (by omega) (by omega)
    rw [Int.toNat_natCast] at hst
    have hlt : muU V ranks ((V.getD x default).toNat : Nat) < muU V ranks x := by
      rw [show (((V.getD x default).toNat : Nat) : Int) = V.getD x default by omega]
      rcases hR.ok x hx with h | ⟨a, b, c⟩
      · exact absurd h hc
      · exact muU_lt a b c
    refine ⟨(V.getD x default).toNat, ?_, ?_, rfl, rfl, ?_, Zk⟩ <;> (try omega)
    repeat' (first | exact subE.nil | refine subE.cons rfl ?_ | refine subE.int rfl ?_ ?_ | refine subE.bool rfl ?_ ?_ | refine subE.str rfl ?_ ?_ | refine subE.sl rfl ?_ ?_)
    · refine ⟨by omega, ?_⟩
      rw [show (((V.getD x default).toNat : Nat) : Int) = V.getD x default by omega, hst, hf]
    · exact Zd
  · refine rPV_then (by conv => lhs; cbv) ?_
    rw [← hf, find_root (by rw [Int.toNat_natCast]; exact hc)]
    ((try simp only [zn]) <;> (try simp (disch := omega) only [zz hA, zb, zy, reduceCtorEq, Bool.false_eq_true, Int.reduceLT, Int.reduceLE, Int.reduceNeg]) <;> (try simp only [zw]))
def joinP (V ranks : List Int) (a b : Int) : Int × Int := if lessM ranks (findU V b) (findU V a) then (findU V b, findU V a) else (findU V a, findU V b)
def joinV (V ranks : List Int) (a b : Int) : List Int := if findU V a = findU V b then V else V.set (joinP V ranks a b).2.toNat (joinP V ranks a b).1
def joinN (V ranks : List Int) (N : List (Int × Int)) (a b : Int) : List (Int × Int) := if findU V a = findU V b then N else N ++ [((joinP V ranks a b).2, (joinP V ranks a b).2)]
end Go.Proofs.Ytkkjlmcnfoncdaa.Aw

namespace Go.Proofs.Ytkkjlmcnfoncdaa.Aw
open Go Go.RowKit
set_option maxRecDepth 10000
attribute [local irreducible] AWp AOL QS One AOLg QSg NX QX TRg TX AllO Fin3
def thoseM (n : Nat) (pr : Int → Bool) : List Int := ((List.range n).map fun (k : Nat) => (k : Int)).filter pr
variable {A : Ar} (hA : A = real)
include hA
end Go.Proofs.Ytkkjlmcnfoncdaa.Aw

namespace Go.Proofs.Ytkkjlmcnfoncdaa.Aw
open Go Go.RowKit
set_option maxRecDepth 10000
attribute [local irreducible] AWp AOL QS One AOLg QSg NX QX TRg TX AllO Fin3
def okU (V ranks : List Int) (n : Nat) : Bool := decide (V.getD n default = n) || (decide (0 ≤ V.getD n default) && decide (V.getD n default < V.length) && lessM ranks (V.getD n default) n)
def rightB (V ranks : List Int) : Bool := (List.range V.length).all (okU V ranks)
theorem rightB_iff (V ranks : List Int) : rightB V ranks = true ↔ RightU V ranks := by
  unfold rightB
  rw [List.all_eq_true]
  constructor
  · intro h
    refine ⟨fun n hn => ?_⟩
    have := h n (List.mem_range.2 hn)
    simpa [okU, and_assoc] using this
  · intro h n hn
    have := h.ok n (List.mem_range.1 hn)
    simpa [okU, and_assoc] using this
theorem rightB_false {V ranks : List Int} {n : Nat} (hn : n < V.length) (h : okU V ranks n = false) : rightB V ranks = false := by
  cases hb : rightB V ranks with
  | false => rfl
  | true =>
    unfold rightB at hb
    rw [List.all_eq_true] at hb
    rw [hb n (List.mem_range.2 hn)] at h
    cases h
theorem rightB_all {V ranks : List Int} (h : ∀ n, n < V.length → okU V ranks n = true) : rightB V ranks = true := by
  unfold rightB
  rw [List.all_eq_true]
  exact fun n hn => h n (List.mem_range.1 hn)
variable {A : Ar} (hA : A = real)
include hA
theorem refLess_c (ranks : List Int) (a b : Int) (hr : ranks.length ≤ 1000000) : PureCalls Try.prog 52 [intsP A ranks, IP a, IP b] (BP (hid A (lessM ranks a b))) := by
  have e1 : ∀ z : Int, ¬ z < 0 → ¬ (ranks.length : Int) ≤ z → rankM ranks z = ranks.getD z.toNat default := fun z h1 h2 => by rw [rankM, if_neg (by omega)]
  have e2 : ∀ z : Int, z < 0 ∨ (ranks.length : Int) ≤ z → rankM ranks z = 0 := fun z h => by rw [rankM, if_pos h]
  have e3 : (∀ z : Int, (z < 0 ∨ (ranks.length : Int) ≤ z) ∨ (0 ≤ z ∧ z < ranks.length)) := fun z => by omega
  refine PureCalls.of Try.func52 rfl (by kernel_rfl) rfl ?_
  try first | refine AOLg.of [] ?_ | refine QSg.of [] ?_
  repeat' (first | (refine AWp.pass ?_; first | refine AWp.seq ?_ | refine AWp.block ?_ | refine AWp.skip ?_ | refine AWp.regG [] Zc ?_ | refine AWp.cond_t rfl ?_ | refine AWp.cond_f rfl ?_ | (refine AWp.cond rfl ?_ ?_ <;> intro hc <;> (try rw [hc]) <;> ((try simp only [zn] at hc) <;> (try simp (disch := omega) only [zz hA, zb, zy, reduceCtorEq, Bool.false_eq_true, Int.reduceLT, Int.reduceLE, Int.reduceNeg] at hc) <;> (try simp only [zw] at hc)) <;> (try (exfalso; omega))) | refine AWp.exit ?_ | refine AWp.ret ⟨.inr rfl, _, RetOk.ev tabOk Zc, ?_⟩) | (refine AOLg.pass ?_; refine AOLg.nx hA tabOk Zc ?_; first | refine NX.done ?_ | refine NX.gt ?_ | refine NX.gf ?_ | (refine NX.gs ?_ ?_ <;> intro hc <;> rw [hc] <;> ((try simp only [zn] at hc) <;> (try simp (disch := omega) only [zz hA, zb, zy, reduceCtorEq, Bool.false_eq_true, Int.reduceLT, Int.reduceLE, Int.reduceNeg] at hc) <;> (try simp only [zw] at hc)) <;> (try (exfalso; omega))) | refine NX.k 1 (NX.one Z1 ?_) | refine NX.k 9 (NX.one Z9 ?_) | refine NX.k 10 (NX.one Z10 ?_) | refine NX.k 14 (NX.one Z14 ?_) | refine NX.raw ?_) | refine Thn.exit ?_ | refine Blk.here ?_ | refine Blk.other (by decide) ?_ | refine ⟨.inl rfl, _, RetOk.ev tabOk Zc, ?_⟩ | fail)
  all_goals
    refine rPV_then (by conv => lhs; cbv) ?_
    ((try simp only [zn]) <;> (try simp (disch := omega) only [zz hA, zb, zy, reduceCtorEq, Bool.false_eq_true, Int.reduceLT, Int.reduceLE, Int.reduceNeg, lessM]) <;> (try simp only [zw]))
    rcases e3 a with ha | ha <;> rcases e3 b with hb | hb
    all_goals first
      | (exfalso; omega)
      | skip
    all_goals first
      | rw [e2 a ha, e2 b hb]
      | rw [e2 a ha, e1 b (by omega) (by omega)]
      | rw [e1 a (by omega) (by omega), e2 b hb]
      | rw [e1 a (by omega) (by omega), e1 b (by omega) (by omega)]
    all_goals clear e1 e2 e3
    all_goals refine congrArg (fun b => PV.c (IC.lit (Value.bool b))) ?_
    all_goals rw [Bool.eq_iff_iff]
    all_goals simp only [hid_eq hA, Bool.or_eq_true, Bool.and_eq_true, decide_eq_true_eq]
    all_goals first | omega | (simp; done) | (simp; omega)
theorem refURight_c (c : Cl) (hc : c.small) (ranks : List Int) (hr : ranks.length ≤ 1000000) : PureCalls Try.prog 60 [clP A c.V c.N c.M, intsP A ranks] (BP (hid A (rightB c.V ranks && c.right))) := by
  have hrr : PureCalls Try.prog 91 [clP A c.V c.N c.M] (BP (hid A c.right)) := by rw [clP_eq hA c, hid_eq hA]; exact refRight hA c hc
  have hv := hc.v
  refine PureCalls.of Try.func60 rfl (by kernel_rfl) rfl ?_
  try first | refine AOLg.of [] ?_ | refine QSg.of [] ?_
  repeat' (first | (refine AWp.pass ?_; first | refine AWp.seq ?_ | refine AWp.block ?_ | refine AWp.skip ?_ | refine AWp.regG [] Zc ?_ | refine AWp.cond_t rfl ?_ | refine AWp.cond_f rfl ?_ | (refine AWp.cond rfl ?_ ?_ <;> intro hc <;> (try rw [hc]) <;> ((try simp only [zn] at hc) <;> (try simp (disch := omega) only [zz hA, zb, zy, reduceCtorEq, Bool.false_eq_true, Int.reduceLT, Int.reduceLE, Int.reduceNeg] at hc) <;> (try simp only [zw] at hc)) <;> (try (exfalso; omega))) | refine AWp.exit ?_ | refine AWp.ret ⟨.inr rfl, _, RetOk.ev tabOk Zc, ?_⟩) | (refine AOLg.pass ?_; refine AOLg.nx hA tabOk Zc ?_; first | refine NX.done ?_ | refine NX.gt ?_ | refine NX.gf ?_ | (refine NX.gs ?_ ?_ <;> intro hc <;> rw [hc] <;> ((try simp only [zn] at hc) <;> (try simp (disch := omega) only [zz hA, zb, zy, reduceCtorEq, Bool.false_eq_true, Int.reduceLT, Int.reduceLE, Int.reduceNeg] at hc) <;> (try simp only [zw] at hc)) <;> (try (exfalso; omega))) | refine NX.k 1 (NX.one Z1 ?_) | refine NX.k 7 (NX.one Z7 ?_) | refine NX.k 8 (NX.one Z8 ?_) | refine NX.k 10 (NX.one Z10 ?_) | refine NX.k 14 (NX.one Z14 ?_) | refine NX.k 18 (NX.one Z18 ?_) | refine NX.raw ?_) | refine Thn.exit ?_ | refine Blk.here ?_ | refine Blk.other (by decide) ?_ | refine ⟨.inl rfl, _, RetOk.ev tabOk Zc, ?_⟩ | fail)
  refine AWp.loopU (fun k : Nat => [(5, .ic (.lit (.int .i64 (hid A (cN k)))))]) (fun _ => [.var true 29 [.ic (.sl 1 false (hid A (List.map encI c.V))), .ic (.sl 2 false (hid A (List.map encN c.N))), .ic (.sl 1 false (hid A (List.map encI c.M)))]]) (fun k => c.V.length - k) (fun k => k ≤ c.V.length ∧ ∀ n, n < k → okU c.V ranks n = true) 0 (by conv => lhs; cbv) ⟨Nat.zero_le _, by simp⟩ (by (repeat' (first | exact subE.nil | refine subE.cons rfl ?_ | refine subE.int rfl ?_ ?_ | refine subE.bool rfl ?_ ?_ | refine subE.str rfl ?_ ?_ | refine subE.sl rfl ?_ ?_)) <;> simp [hA, real, hid, cN]) rfl ?_
  rintro k ⟨hk, hok⟩
  try first | refine AOLg.of [] ?_ | refine QSg.of [] ?_
  repeat' (first | (refine AWp.pass ?_; first | refine AWp.seq ?_ | refine AWp.block ?_ | refine AWp.skip ?_ | refine AWp.regG [] Zc ?_ | refine AWp.cond_t rfl ?_ | refine AWp.cond_f rfl ?_ | (refine AWp.cond rfl ?_ ?_ <;> intro hc <;> (try rw [hc]) <;> ((try simp only [zn] at hc) <;> (try simp (disch := omega) only [zz hA, zb, zy, reduceCtorEq, Bool.false_eq_true, Int.reduceLT, Int.reduceLE, Int.reduceNeg] at hc) <;> (try simp only [zw] at hc)) <;> (try (exfalso; omega))) | refine AWp.exit ?_ | refine AWp.ret ⟨.inr rfl, _, RetOk.ev tabOk Zc, ?_⟩) | (refine AOLg.pass ?_; refine AOLg.nx hA tabOk Zc ?_; first | refine NX.done ?_ | refine NX.gt ?_ | refine NX.gf ?_ | (refine NX.gs ?_ ?_ <;> intro hc <;> rw [hc] <;> ((try simp only [zn] at hc) <;> (try simp (disch := omega) only [zz hA, zb, zy, reduceCtorEq, Bool.false_eq_true, Int.reduceLT, Int.reduceLE, Int.reduceNeg] at hc) <;> (try simp only [zw] at hc)) <;> (try (exfalso; omega))) | (refine NX.kC ?_; first | (with_reducible refine NX.call (refLess_c hA ranks _ _ hr) ?_) | (with_reducible refine NX.call (hrr) ?_) | ((first | refine NX.call (refLess_c hA ranks _ _ hr) ?_ | refine NX.call (hrr) ?_)) | fail) | (refine NX.kO ?_; (first | refine NX.callO (refLess_c hA ranks _ _ hr) (by simp [allEq]) rfl ?_ | refine NX.callO (hrr) (by simp [allEq]) rfl ?_)) | refine NX.k 1 (NX.one Z1 ?_) | refine NX.k 7 (NX.one Z7 ?_) | refine NX.k 8 (NX.one Z8 ?_) | refine NX.k 10 (NX.one Z10 ?_) | refine NX.k 14 (NX.one Z14 ?_) | refine NX.k 18 (NX.one Z18 ?_) | refine NX.raw ?_) | refine Thn.exit ?_ | refine Blk.here ?_ | refine Blk.other (by decide) ?_ | refine ⟨.inl rfl, _, RetOk.ev tabOk Zc, ?_⟩ | fail)
  · refine ⟨k + 1, ?_, ?_, rfl, rfl, ?_, Zk⟩ <;> (try omega)
    repeat' (first | exact subE.nil | refine subE.cons rfl ?_ | refine subE.int rfl ?_ ?_ | refine subE.bool rfl ?_ ?_ | refine subE.str rfl ?_ ?_ | refine subE.sl rfl ?_ ?_)
    · refine ⟨by omega, fun n hn => ?_⟩
      rcases Nat.lt_or_ge n k with h | h
      · exact hok n h
      · obtain rfl : n = k := by omega
        simp [okU]
        left
        assumption
    · exact Zd
  · rw [rightB_false (n := k) (by omega) (by rw [okU, decide_eq_false (by assumption), decide_eq_false (by omega)]; rfl)]
    refine rPV_then (by conv => lhs; cbv) ?_
    simp [hA, real, hid]
  · rw [rightB_false (n := k) (by omega) (by rw [okU, decide_eq_false (by assumption), decide_eq_false (p := c.V.getD k default < c.V.length) (by omega)]; simp)]
    refine rPV_then (by conv => lhs; cbv) ?_
    simp [hA, real, hid]
  · rename_i h1 h2 h3 h4
    rw [rightB_false (n := k) (by omega) (by rw [okU, decide_eq_false h2, hc]; simp)]
    refine rPV_then (by conv => lhs; cbv) ?_
    simp [hA, real, hid]
  · rename_i h1 h2 h3 h4
    refine ⟨k + 1, ?_, ?_, rfl, rfl, ?_, Zk⟩ <;> (try omega)
    repeat' (first | exact subE.nil | refine subE.cons rfl ?_ | refine subE.int rfl ?_ ?_ | refine subE.bool rfl ?_ ?_ | refine subE.str rfl ?_ ?_ | refine subE.sl rfl ?_ ?_)
    · refine ⟨by omega, fun n hn => ?_⟩
      rcases Nat.lt_or_ge n k with h | h
      · exact hok n h
      · obtain rfl : n = k := by omega
        rw [okU, decide_eq_true (p := 0 ≤ c.V.getD n default) (by omega), decide_eq_true (p := c.V.getD n default < c.V.length) (by omega)]
        simp
        exact .inr (by assumption)
    · exact Zd
  · rw [rightB_all fun n hn => hok n (by omega)]
    refine rPV_then (by conv => lhs; cbv) ?_
    simp [hA, real, hid]
end Go.Proofs.Ytkkjlmcnfoncdaa.Aw

namespace Go.Proofs.Ytkkjlmcnfoncdaa.Aw
open Go Go.RowKit
set_option maxRecDepth 10000
attribute [local irreducible] AWp AOL QS One AOLg QSg NX QX TRg TX AllO Fin3
variable {A : Ar} (hA : A = real)
include hA
end Go.Proofs.Ytkkjlmcnfoncdaa.Aw

namespace Go.Proofs.Ytkkjlmcnfoncdaa.Aw
open Go Go.RowKit
section
variable {V ranks : List Int} (hR : RightU V ranks) {p r : Int} (p0 : 0 ≤ p) (p1 : p < V.length) (r0 : 0 ≤ r) (r1 : r < V.length) (hp : V.getD p.toNat default = p) (hr : V.getD r.toNat default = r) (hl : lessM ranks p r = true)
include hR p0 p1 r0 r1 hl
include hp hr
end
section
variable {V ranks : List Int} (hR : RightU V ranks) {a b : Int} (a0 : 0 ≤ a) (a1 : a < V.length) (b0 : 0 ≤ b) (b1 : b < V.length)
include hR a0 a1 b0 b1
end
end Go.Proofs.Ytkkjlmcnfoncdaa.Aw

namespace Go.Proofs.Ytkkjlmcnfoncdaa.Aw
open Go Go.RowKit
set_option maxRecDepth 10000
attribute [local irreducible] AWp AOL QS One AOLg QSg NX QX TRg TX AllO Fin3
variable {A : Ar} (hA : A = real)
include hA
theorem uInts_c (a b : List Int) (ha : a.length ≤ 1000000) (hb : b.length ≤ 1000000) : PureCalls Try.prog 17 [intsP A a, intsP A b] (BP (hid A (decide (a = b)))) := by
  have := refInts hA a b ha hb
  simp only [intsP, slP, hid_eq hA]
  exact this
end Go.Proofs.Ytkkjlmcnfoncdaa.Aw

namespace Go.Proofs.Ytkkjlmcnfoncdaa.Aw
open Go Go.RowKit
set_option maxRecDepth 10000
def keyV (v : Int) : List Int := [2, v, 0]
def atV (K : List (List Int)) (v : Int) : Int := atM K (keyV v)
def numM (K : List (List Int)) (n : Nat) (id : Int) : Int :=
  if (0 ≤ id ∧ id < K.length) ∧ (K.getD id.toNat default).getD 0 default = 2 ∧ (K.getD id.toNat default).getD 1 default < n then (K.getD id.toNat default).getD 1 default else -1
def repM (K : List (List Int)) (V : List Int) (id : Int) : Int := if numM K V.length id < 0 then id else atV K (findU V (numM K V.length id))
structure OkK (K : List (List Int)) : Prop where
  nodup : K.Nodup
  long : ∀ i : Nat, i < K.length → 3 ≤ (K.getD i default).length
  sym : ∀ i : Nat, i < K.length → (K.getD i default).getD 0 default = 2 → 0 ≤ (K.getD i default).getD 1 default
theorem okK {l : List Sg} {K : List (List Int)} {S : List Int} (h : rightT l K S = true) : OkK K ∧ S = layM K ∧ 2 ≤ K.length := by
  unfold rightT at h
  simp only [Bool.and_eq_true, decide_eq_true_eq] at h
  obtain ⟨⟨⟨h1, h2⟩, h3⟩, h4⟩ := h
  have hk : ∀ i : Nat, i < K.length → keyOk l i (K.getD i default) = true := fun i hi => allB_get h4 hi
  refine ⟨⟨h1, fun i hi => ?_, fun i hi h2 => ?_⟩, h2, h3⟩
  · have := hk i hi
    unfold keyOk at this
    simp only [Bool.and_eq_true, decide_eq_true_eq] at this
    exact this.1.1
  · have := hk i hi
    unfold keyOk at this
    simp only [Bool.and_eq_true, decide_eq_true_eq, mayM_iff] at this
    have := this.1.2.1
    unfold shapeP at this
    omega
theorem num_cases (K : List (List Int)) (n : Nat) (id : Int) (hK : OkK K) : numM K n id = -1 ∨ (0 ≤ numM K n id ∧ numM K n id < n) := by
  unfold numM
  split
  · rename_i h
    have := hK.sym id.toNat (by omega) h.2.1
    exact .inr ⟨this, h.2.2⟩
  · exact .inl rfl
def allV (K : List (List Int)) (n : Nat) : Bool := allB n fun v => decide (0 ≤ atV K (v : Int))
section
variable {K : List (List Int)} {V R : List Int} (hK : OkK K) (hR : RightU V R) (hA : allV K V.length = true)
include hK hR hA
end
end Go.Proofs.Ytkkjlmcnfoncdaa.Aw
