/- The abstract walk, part 2: the types' table, and what one operation does that calls no function. -/
import Derived.Test.YtpphdaphbkepfaaAw1
import Derived.Deep.MidRow
import Derived.Maps.AppendAt
import Derived.Laws.CopyOwn
set_option linter.unusedVariables false
set_option linter.unusedSimpArgs false
namespace Go.Proofs.Ytpphdaphbkepfaa.Aw
open Go Go.RowKit

inductive TK where
  | bool | int (k : IntKind) | string | struct (fs : List (Nat × Nat × Bool)) | array (n e : Nat) | slice (e : Nat) | pointer (e : Nat) | map (k e : Nat) | other
  deriving Inhabited

structure TI where
  there : Bool
  k : TK
  size : Nat
  bytes : Nat
  zero : Option (List Value)
  deriving Inhabited

def aggB (P : Program) (t : TypeId) : Bool := match P.underlying t with | some (.struct _) | some (.array _ _) => true | _ => false
def tk (P : Program) : Option TypeDesc → TK
  | some .bool => .bool
  | some (.int k) => .int k
  | some .string => .string
  | some (.struct fs) => .struct (fs.toList.map fun f => (f.offset, P.cellsOf f.type, aggB P f.type))
  | some (.array n e) => .array n e
  | some (.slice e) => .slice e
  | some (.pointer e) => .pointer e
  | some (.map k e) => .map k e
  | _ => .other
def there0 (P : Program) (t : TypeId) : Bool := (P.info? t).isSome && (P.underlying t).isSome
def tyi (P : Program) (t : TypeId) : TI := ⟨there0 P t && (match P.underlying t with | some (.struct fs) => fs.toList.all (fun f => there0 P f.type) | some (.array _ e) => there0 P e | some (.slice e) => there0 P e | _ => true), tk P (P.underlying t), P.cellsOf t, P.bytesOf t, ((P.info? t).bind (·.zero)).map (·.cells.toList)⟩
def TabOk (P : Program) (tab : List TI) : Prop := ∀ t i, tab[t]? = some i → i = tyi P t
theorem tabOk_of {P : Program} {tab : List TI} {n : Nat} (h : (List.range n).map (tyi P) = tab) : TabOk P tab := by
  intro t i hi
  rw [← h] at hi
  simp only [List.getElem?_map] at hi
  cases hr : (List.range n)[t]? with
  | none => simp [hr] at hi
  | some u =>
    rw [hr] at hi
    have : u = t := by
      have := List.getElem?_eq_some_iff.1 hr
      obtain ⟨h1, h2⟩ := this
      simpa using h2.symm
    subst this
    simpa using hi.symm
def TI.agg (i : TI) : Bool := match i.k with | .struct _ | .array _ _ => true | _ => false

theorem agg_tyi (P : Program) (t : TypeId) : (tyi P t).agg = aggB P t := by
  unfold tyi TI.agg aggB tk
  cases P.underlying t with
  | none => rfl
  | some d => cases d <;> rfl

section run
variable {P : Program} {t : TypeId}
theorem there_0 (h : (tyi P t).there = true) : there0 P t = true := by
  simp only [tyi, Bool.and_eq_true] at h
  exact h.1
theorem there_field {fs : Array Field} {f : Nat} {fl : Field} (h : (tyi P t).there = true) (hu : P.underlying t = some (.struct fs)) (hf : fs[f]? = some fl) : there0 P fl.type = true := by
  simp only [tyi, hu, Bool.and_eq_true, List.all_eq_true] at h
  exact h.2 fl (by simpa using Array.mem_of_getElem? hf)
theorem there_elem {e : TypeId} (h : (tyi P t).there = true) (hu : P.underlying t = some (.slice e)) : there0 P e = true := by
  simp only [tyi, hu, Bool.and_eq_true] at h
  exact h.2
theorem there_elemA {n : Nat} {e : TypeId} (h : (tyi P t).there = true) (hu : P.underlying t = some (.array n e)) : there0 P e = true := by
  simp only [tyi, hu, Bool.and_eq_true] at h
  exact h.2
theorem info_there (h : there0 P t = true) : ∃ i, P.info? t = some i := by
  simp only [there0, Bool.and_eq_true, Option.isSome_iff_exists] at h
  exact h.1
theorem und_there (h : there0 P t = true) : ∃ d, P.underlying t = some d := by
  simp only [there0, Bool.and_eq_true, Option.isSome_iff_exists] at h
  exact h.2
theorem run_und (h : there0 P t = true) (w : World) : ∃ d, P.underlying t = some d ∧ (underlying t).run P w = .ok d w := by
  obtain ⟨d, hd⟩ := und_there h
  exact ⟨d, hd, run_underlying hd w⟩
theorem run_isAgg (h : there0 P t = true) (w : World) : (isAgg t).run P w = .ok (aggB P t) w := by
  obtain ⟨d, hd⟩ := und_there h
  unfold isAgg aggB
  rw [Sem.run_bind, run_underlying hd w, hd]
  cases d <;> rfl
theorem run_size (h : there0 P t = true) (w : World) : (sizeOf t).run P w = .ok (P.cellsOf t) w := by
  obtain ⟨i, hi⟩ := info_there h
  simp [sizeOf, typeInfo, hi, Program.cellsOf]
theorem run_zero {z : List Value} (h : (tyi P t).zero = some z) (w : World) : ∃ v, (zeroValue t).run P w = .ok v w ∧ v.cells.toList = z := by
  simp only [tyi, Option.map_eq_some_iff, Option.bind_eq_some_iff] at h
  obtain ⟨v, ⟨i, hi, hz⟩, rfl⟩ := h
  exact ⟨v, by simp [zeroValue, typeInfo, hi, hz], rfl⟩
theorem tk_struct {fs : List (Nat × Nat × Bool)} (h : (tyi P t).k = .struct fs) : ∃ a, P.underlying t = some (.struct a) ∧ fs = a.toList.map fun f => (f.offset, P.cellsOf f.type, aggB P f.type) := by
  unfold tyi at h
  simp only [] at h
  cases hu : P.underlying t with
  | none => simp [hu, tk] at h
  | some d =>
    rw [hu] at h
    cases d <;> simp [tk] at h
    exact ⟨_, rfl, h.symm⟩
theorem tk_slice {e : Nat} (h : (tyi P t).k = .slice e) : P.underlying t = some (.slice e) := by
  unfold tyi at h
  simp only [] at h
  cases hu : P.underlying t with
  | none => simp [hu, tk] at h
  | some d =>
    rw [hu] at h
    cases d <;> simp [tk] at h
    rw [h]
theorem tk_string (h : (tyi P t).k = .string) : P.underlying t = some .string := by
  unfold tyi at h
  simp only [] at h
  cases hu : P.underlying t with
  | none => simp [hu, tk] at h
  | some d => rw [hu] at h; cases d <;> simp [tk] at h; rfl
theorem tk_bool (h : (tyi P t).k = .bool) : P.underlying t = some .bool := by
  unfold tyi at h
  simp only [] at h
  cases hu : P.underlying t with
  | none => simp [hu, tk] at h
  | some d => rw [hu] at h; cases d <;> simp [tk] at h; rfl
theorem tk_int {k : IntKind} (h : (tyi P t).k = .int k) : P.underlying t = some (.int k) := by
  unfold tyi at h
  simp only [] at h
  cases hu : P.underlying t with
  | none => simp [hu, tk] at h
  | some d => rw [hu] at h; cases d <;> simp [tk] at h; rw [h]
theorem tk_array {n e : Nat} (h : (tyi P t).k = .array n e) : P.underlying t = some (.array n e) := by
  unfold tyi at h
  simp only [] at h
  cases hu : P.underlying t with
  | none => simp [hu, tk] at h
  | some d => rw [hu] at h; cases d <;> simp [tk] at h; rw [h.1, h.2]
end run

/-- What is known of a state after one operation that leaves a value. -/
def Does (P : Program) (s : St) (m : (Operand → Value) → Sem Next) (x : AV) (st' : List AObj) : Prop :=
  ∀ G g w a, Rel G s g w a → ∃ n v g' w', (m a.eval).run P w = .ok n w' ∧ (n = .value v ∨ n = .skip ∧ v = undef) ∧ Evo s.st g w st' g' w' ∧ SR G st' g' w' ∧ AR G st' g' w' x v

theorem Does.pure {P : Program} {s : St} {m : (Operand → Value) → Sem Next} {x : AV}
    (h : ∀ G g w a, Rel G s g w a → ∃ v, (m a.eval).run P w = .ok (.value v) w ∧ AR G s.st g w x v) : Does P s m x s.st := fun G g w a hr =>
  let ⟨v, h1, h2⟩ := h G g w a hr
  ⟨_, v, g, w, h1, .inl rfl, .refl _ _ _, hr.sr, h2⟩

section inv
variable {G : Nat → Prop} {s : List AObj} {g : Ghost} {w : World} {v : Value}
theorem AR.lit_inv {u : Value} (h : AR G s g w (.ic (.lit u)) v) : v = u := by
  cases h with
  | ic x v h => cases h with | lit v h => rfl
theorem AR.ic_inv {x : IC} (h : AR G s g w (.ic x) v) : IR w (Good G s g) x v := by
  cases h with
  | ic x v h => exact h
theorem AR.agg_inv {xs : List AV} (h : AR G s g w (.agg xs) v) : ∃ vs : Array Value, v = .agg vs ∧ vs.size = xs.length ∧ (∀ (k : Nat) (x : AV), xs[k]? = some x → AR G s g w x (vs.getD k undef)) ∧ ∀ u ∈ vs, u.oneCell' = true := by
  cases h with
  | agg xs vs h1 h2 h3 => exact ⟨vs, rfl, h1, h2, h3⟩
theorem AR.tup_inv {xs : List AV} (h : AR G s g w (.tup xs) v) : ∃ vs : Array Value, v = .tuple vs ∧ vs.size = xs.length ∧ (∀ (k : Nat) (x : AV), xs[k]? = some x → AR G s g w x (vs.getD k undef)) := by
  cases h with
  | tup xs vs h1 h2 => exact ⟨vs, rfl, h1, h2⟩
theorem AR.fn_inv {f : Fn} {a b : List AV} (h : AR G s g w (.fn f a b) v) : ∃ vf vc : Array Value, v = .func f vf vc ∧ vf.size = a.length ∧ vc.size = b.length ∧
    (∀ (k : Nat) (x : AV), a[k]? = some x → AR G s g w x (vf.getD k undef)) ∧ (∀ (k : Nat) (x : AV), b[k]? = some x → AR G s g w x (vc.getD k undef)) := by
  cases h with
  | fn f a b vf vc h1 h2 h3 h4 => exact ⟨vf, vc, rfl, h1, h2, h3, h4⟩
theorem AR.ptr_inv {i o : Nat} (h : AR G s g w (.ptr i o) v) {m : Bool} {t : TypeId} {cs : List AV} (hs : s[i]? = some (.var m t cs)) (hr : SR G s g w) :
    ∃ b vs, v = .pointer (some ⟨b, o, none⟩) ∧ g i = .pointer (some ⟨b, 0, none⟩) ∧ G b ∧ w.heap[b]? = some (.cells vs t (0, 0)) ∧ vs.size = cs.length ∧ (∀ u ∈ vs, u.oneCell' = true) ∧ ∀ (k : Nat) (x : AV), cs[k]? = some x → AR G s g w x (vs.getD k undef) := by
  cases h with
  | ptr i off v hi hv h1 =>
    obtain ⟨b, e1, e2⟩ := hv _ _ _ hs
    obtain ⟨b', vs, f1, f2, f3, f4, f5, f6⟩ := hr.obj i _ hs
    rw [e1] at f1
    obtain rfl : b = b' := by simpa using f1
    exact ⟨b, vs, e2, e1, f2, f3, f4, f5, f6⟩
theorem AR.at_inv {cs : List IC} (h : AR G s g w (.at cs) v) : ∃ (b o : Nat) (val : Nat → Value), v = .pointer (some ⟨b, o, none⟩) ∧ b < w.heap.size ∧ Good G s g b ∧ (∀ (k : Nat) (x : IC), cs[k]? = some x → w.cell? ⟨b, o + k, none⟩ = some (val k)) ∧
    ∀ (k : Nat) (x : IC), cs[k]? = some x → IR w (Good G s g) x (val k) := by
  cases h with
  | «at» cs b o val hb hok hcell hin => exact ⟨b, o, val, rfl, hb, hok, hcell, hin⟩
end inv

theorem getD_toList (vs : Array Value) (k : Nat) (u : Value) : vs.getD k u = vs.toList.getD k u := by
  simp [Array.getD_eq_getD_getElem?, List.getD_eq_getElem?_getD]

theorem does_move {P : Program} {s : St} (x : Operand) : Does P s (fun ρ => Pure.pure (.value (ρ x))) (s.ev x) s.st :=
  .pure fun G g w a hr => ⟨_, rfl, hr.ev x⟩

theorem does_pick {P : Program} {s : St} (c x y : Operand) (t : Bool) (hc : s.ev c = .ic (.lit (.bool t))) :
    Does P s (fun ρ => do pure (.value (if ← asBool (ρ c) then ρ x else ρ y))) (bif t then s.ev x else s.ev y) s.st :=
  .pure fun G g w a hr => by
    have h := hr.ev c
    rw [hc] at h
    have e := h.lit_inv
    refine ⟨bif t then a.eval x else a.eval y, ?_, by cases t <;> exact hr.ev _⟩
    cases t <;> simp [e, asBool]

/-- A new variable. -/
theorem SR.newVar {G : Nat → Prop} {s : St} {g : Ghost} {w : World} {a : Act} (hr : Rel G s g w a) (t : TypeId) (cs : List AV) (vs : Array Value) (h1 : vs.size = cs.length) (h3 : ∀ u ∈ vs, u.oneCell' = true)
    (h2 : ∀ (k : Nat) (x : AV), cs[k]? = some x → AR G s.st g w x (vs.getD k undef)) :
    ∃ g', Evo s.st g w (s.st ++ [.var true t cs]) g' (w.alloc (.cells vs t)) ∧ SR G (s.st ++ [.var true t cs]) g' (w.alloc (.cells vs t)) ∧
      AR G (s.st ++ [.var true t cs]) g' (w.alloc (.cells vs t)) (.ptr s.st.length 0) (.pointer (some ⟨w.heap.size, 0, none⟩)) := by
  have hv : ∀ b, gb (.pointer (some ⟨w.heap.size, 0, none⟩)) = some b → w.heap.size ≤ b := fun b hb => by simp [gb] at hb; omega
  have h5 : ∀ b, b < w.heap.size → (w.alloc (.cells vs t)).heap[b]? = w.heap[b]? := fun b hb => Below.heap_alloc _ _ _ hb
  have k : Evo s.st g w (s.st ++ [.var true t cs]) (gput g s.st.length (.pointer (some ⟨w.heap.size, 0, none⟩))) (w.alloc (.cells vs t)) :=
    .push _ _ rfl rfl rfl (by simp) h5 hv
  refine ⟨_, k, hr.sr.push _ _ k h5 hv ⟨w.heap.size, vs, gput_new _ _ _, hr.sr.new _ (Nat.le_refl _), heap_alloc_new _ _, h1, h3, fun j x hj => (h2 j x hj).evo k⟩, ?_⟩
  exact .ptr _ _ _ (by simp) (fun m t cs _ => ⟨w.heap.size, gput_new _ _ _, rfl⟩) rfl

def cellsOk : AV → Option (List AV)
  | .agg xs => some xs
  | .any => none
  | .tup _ => none
  | x => some [x]

theorem cells_of {G : Nat → Prop} {s : List AObj} {g : Ghost} {w : World} {x : AV} {v : Value} {cs : List AV} (h : AR G s g w x v) (hc : cellsOk x = some cs) :
    v.cells.size = cs.length ∧ (∀ u ∈ v.cells, u.oneCell' = true) ∧ ∀ (k : Nat) (y : AV), cs[k]? = some y → AR G s g w y (v.cells.getD k undef) := by
  have single : v.oneCell' = true → cs = [x] → v.cells.size = cs.length ∧ (∀ u ∈ v.cells, u.oneCell' = true) ∧ ∀ (k : Nat) (y : AV), cs[k]? = some y → AR G s g w y (v.cells.getD k undef) := by
    rintro h1 rfl
    have : v.cells = #[v] := by cases v <;> first | rfl | simp [Value.oneCell'] at h1
    rw [this]
    refine ⟨rfl, by simpa using h1, fun k y hk => ?_⟩
    have : k = 0 := by have := (List.getElem?_eq_some_iff.1 hk).1; simp at this; omega
    subst this
    obtain rfl : x = y := by simpa using hk
    exact h
  cases x with
  | any => simp [cellsOk] at hc
  | tup xs => simp [cellsOk] at hc
  | agg xs =>
    obtain ⟨vs, rfl, h1, h2, h3⟩ := h.agg_inv
    obtain rfl : xs = cs := by simpa [cellsOk] using hc
    exact ⟨h1, h3, h2⟩
  | ic y => exact single (h.one rfl) (by simpa [cellsOk] using hc.symm)
  | own i j => exact single (h.one rfl) (by simpa [cellsOk] using hc.symm)
  | ptr i j => exact single (h.one rfl) (by simpa [cellsOk] using hc.symm)
  | «at» cs => exact single (h.one rfl) (by simpa [cellsOk] using hc.symm)
  | rat i j k l => exact single (h.one rfl) (by simpa [cellsOk] using hc.symm)
  | fn f a b => exact single (h.one rfl) (by simpa [cellsOk] using hc.symm)
  | yl i => exact single (h.one rfl) (by simpa [cellsOk] using hc.symm)

theorem does_box {P : Program} {s : St} (t : TypeId) (x : Operand) (cs : List AV) (hc : cellsOk (s.ev x) = some cs) :
    Does P s (fun ρ => do pure (.value (← Instr.box t (ρ x)))) (.ptr s.st.length 0) (s.st ++ [.var true t cs]) := fun G g w a hr => by
  obtain ⟨h1, h3, h2⟩ := cells_of (hr.ev x) hc
  obtain ⟨g', k, hs, hx⟩ := SR.newVar hr t cs _ h1 h3 h2
  exact ⟨_, _, g', _, by simp [Instr.box, newVar, newRow], .inl rfl, k, hs, hx⟩

theorem does_alloc {P : Program} {s : St} (t : TypeId) (z : List Value) (hz : (tyi P t).zero = some z) (h1 : z.all (·.oneCell') = true) :
    Does P s (fun ρ => do pure (.value (← Instr.alloc t true (.tuple #[])))) (.ptr s.st.length 0) (s.st ++ [.var true t (z.map nilc)]) := fun G g w a hr => by
  obtain ⟨v, hv, rfl⟩ := run_zero hz w
  obtain ⟨g', k, hs, hx⟩ := SR.newVar hr t (v.cells.toList.map nilc) v.cells (by simp) (fun u hu => by rw [List.all_eq_true] at h1; exact h1 u (by simpa using hu)) (fun j x hj => by
    rw [List.getElem?_map] at hj
    simp only [Option.map_eq_some_iff] at hj
    obtain ⟨u, hu, rfl⟩ := hj
    rw [getD_toList, List.getD_eq_getElem?_getD, hu]
    exact .nilc u)
  exact ⟨_, _, g', _, by simp [Instr.alloc, newVar, newRow, hv], .inl rfl, k, hs, hx⟩

theorem AR.sub {G : Nat → Prop} {s : List AObj} {g : Ghost} {w : World} {xs : List AV} {vs : Array Value} (o n : Nat) (h1 : vs.size = xs.length) (h2 : ∀ (k : Nat) (x : AV), xs[k]? = some x → AR G s g w x (vs.getD k undef))
    (h3 : ∀ u ∈ vs, u.oneCell' = true) (hn : o + n ≤ xs.length) : AR G s g w (.agg ((xs.drop o).take n)) (.agg (vs.extract o (o + n))) := by
  refine .agg _ _ (by simp; omega) (fun k x hk => ?_) (fun u hu => ?_)
  · rw [List.getElem?_take] at hk
    split at hk
    · rename_i hlt
      rw [List.getElem?_drop] at hk
      have := h2 _ _ hk
      rw [getD_toList] at this ⊢
      rw [List.getD_eq_getElem?_getD] at this ⊢
      have e : (vs.extract o (o + n)).toList[k]? = vs.toList[o + k]? := by
        simp [Array.toList_extract, List.extract_eq_take_drop, List.getElem?_take, List.getElem?_drop, hlt]
      rw [e]
      exact this
    · simp at hk
  · obtain ⟨i, hi, e⟩ := Array.mem_iff_getElem.1 hu
    rw [Array.getElem_extract] at e
    rw [← e]
    exact h3 _ (Array.getElem_mem _)

theorem does_field {P : Program} {s : St} (t : TypeId) (x : Operand) (f : Nat) (fs : List (Nat × Nat × Bool)) (off n : Nat) (ag : Bool) (xs : List AV) (r : AV) (ht : (tyi P t).there = true) (hk : (tyi P t).k = .struct fs)
    (hf : fs[f]? = some (off, n, ag)) (hx : s.ev x = .agg xs) (hr : bif ag then Nat.ble (off + n) xs.length = true ∧ r = .agg ((xs.drop off).take n) else xs[off]? = some r) :
    Does P s (fun ρ => do pure (.value (← Instr.field t (ρ x) f))) r s.st :=
  .pure fun G g w a hrel => by
    obtain ⟨d, hd, hrun⟩ := run_und (there_0 ht) w
    obtain ⟨fa, hu, rfl⟩ := tk_struct hk
    obtain rfl : d = .struct fa := by rw [hd] at hu; simpa using hu
    have h := hrel.ev x
    rw [hx] at h
    obtain ⟨vs, e, h1, h2, h3⟩ := h.agg_inv
    rw [List.getElem?_map] at hf
    simp only [Option.map_eq_some_iff] at hf
    obtain ⟨fl, hfl, hfe⟩ := hf
    have hfl' : fa[f]? = some fl := by simpa using hfl
    simp only [Prod.mk.injEq] at hfe
    obtain ⟨rfl, rfl, rfl⟩ := hfe
    have hthere := there_field ht hu hfl'
    have hag := run_isAgg hthere w
    have hsz := run_size hthere w
    cases hb : aggB P fl.type with
    | true =>
      rw [hb] at hr hag
      simp only [cond_true] at hr
      obtain ⟨hle, rfl⟩ := hr
      have hle := Nat.le_of_ble_eq_true hle
      refine ⟨.agg (vs.extract fl.offset (fl.offset + P.cellsOf fl.type)), ?_, AR.sub _ _ h1 h2 h3 hle⟩
      simp [Instr.field, hrun, hfl', e, asAgg, part, hag, hsz]
    | false =>
      rw [hb] at hr hag
      simp only [cond_false] at hr
      have := h2 _ _ hr
      have hlt : fl.offset < vs.size := by have := (List.getElem?_eq_some_iff.1 hr).1; omega
      refine ⟨vs.getD fl.offset undef, ?_, this⟩
      simp [Instr.field, hrun, hfl', e, asAgg, part, hag, hlt]

theorem does_extract {P : Program} {s : St} (x : Operand) (i : Nat) (xs : List AV) (r : AV) (hx : s.ev x = .tup xs) (hr : xs[i]? = some r) : Does P s (fun ρ => do pure (.value (← Instr.extract (ρ x) i))) r s.st :=
  .pure fun G g w a hrel => by
    have h := hrel.ev x
    rw [hx] at h
    obtain ⟨vs, e, h1, h2⟩ := h.tup_inv
    have hlt : i < vs.size := by have := (List.getElem?_eq_some_iff.1 hr).1; omega
    refine ⟨vs.getD i undef, ?_, h2 _ _ hr⟩
    simp [Instr.extract, e, hlt]

end Go.Proofs.Ytpphdaphbkepfaa.Aw
