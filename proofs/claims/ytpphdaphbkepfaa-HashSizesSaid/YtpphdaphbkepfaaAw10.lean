/- The abstract walk, part 10: structs and literals put together; append, copy, store, load, cut of a row of the call's own. -/
import Derived.Test.YtpphdaphbkepfaaAw9
set_option linter.unusedVariables false
set_option linter.unusedSimpArgs false
namespace Go.Proofs.Ytpphdaphbkepfaa.Aw
open Go Go.RowKit

theorem run_mapM_list {P : Program} {α β : Type} (f : α → Sem β) (h : α → β) (w : World) : ∀ (as : List α), (∀ a ∈ as, (f a).run P w = .ok (h a) w) → (as.mapM f).run P w = .ok (as.map h) w
  | [], _ => by simp
  | x :: r, hf => by
    have ih := run_mapM_list f h w r fun a ha => hf a (List.mem_cons_of_mem _ ha)
    simp [List.mapM_cons, hf x List.mem_cons_self, ih]
theorem run_mapM {P : Program} {α β : Type} (f : α → Sem β) (h : α → β) (w : World) (as : Array α) (hf : ∀ a ∈ as, (f a).run P w = .ok (h a) w) : (as.mapM f).run P w = .ok (as.map h) w := by
  have e : as.mapM f = List.toArray <$> as.toList.mapM f := by
    rw [Array.mapM_eq_mapM_toList]
  rw [e, Sem.run_map, run_mapM_list f h w as.toList (fun a ha => hf a (by simpa using ha))]
  have e2 : (List.map h as.toList).toArray = Array.map h as := by
    apply Array.ext'
    simp
  rw [Result.andThen_ok, e2]

theorem parts_rel {G : Nat → Prop} {s : St} {g : Ghost} {w : World} {a : Act} (hr : Rel G s g w a) (parts : Array (Nat × Operand)) : ∀ (k : Nat) (p : Nat × AV) (v : Nat × Value), (parts.toList.map fun q => (q.1, s.ev q.2))[k]? = some p → (parts.map fun q => (q.1, a.eval q.2)).toList[k]? = some v → p.1 = v.1 ∧ AR G s.st g w p.2 v.2 := fun k p v hp hv => by
  rw [List.getElem?_map] at hp
  rw [Array.toList_map, List.getElem?_map] at hv
  simp only [Option.map_eq_some_iff] at hp hv
  obtain ⟨q, hq, rfl⟩ := hp
  obtain ⟨q', hq', rfl⟩ := hv
  rw [hq] at hq'
  obtain rfl := Option.some.inj hq'
  exact ⟨rfl, hr.ev _⟩

theorem zero_rel {G : Nat → Prop} {s : List AObj} {g : Ghost} {w : World} (cs : Array Value) : ∀ (k : Nat) (x : AV), (cs.toList.map nilc)[k]? = some x → AR G s g w x (cs.getD k undef) := fun k x hk => by
  rw [List.getElem?_map] at hk
  simp only [Option.map_eq_some_iff] at hk
  obtain ⟨u, hu, rfl⟩ := hk
  rw [getD_toList, List.getD_eq_getElem?_getD, hu]
  exact .nilc u

theorem does_build {P : Program} {s : St} (t : TypeId) (parts : Array (Nat × Operand)) (fs : List (Nat × Nat × Bool)) (z : List Value) (out : List AV) (ht : (tyi P t).there = true) (hk : (tyi P t).k = .struct fs) (hz : (tyi P t).zero = some z) (hz1 : z.all (·.oneCell') = true)
    (hf : fillA (fun i => (fs[i]?).map fun q => (q.1, q.2.1)) (z.map nilc) (parts.toList.map fun q => (q.1, s.ev q.2)) = some out) :
    Does P s (fun ρ => do pure (.value (← Instr.build t (parts.map fun (i, x) => (i, ρ x))))) (.agg out) s.st :=
  .pure fun G g w a hrel => by
    obtain ⟨zv, hzr, rfl⟩ := run_zero hz w
    obtain ⟨d, hd, hrun⟩ := run_und (there_0 ht) w
    obtain ⟨fa, hu, rfl⟩ := tk_struct hk
    obtain rfl : d = .struct fa := by rw [hd] at hu; simpa using hu
    have hpl : (fa.mapM fun f => (do pure (f.offset, ← sizeOf f.type) : Sem (Nat × Nat))).run P w = .ok (fa.map fun f => (f.offset, P.cellsOf f.type)) w :=
      run_mapM _ _ w fa fun f hf => by
        obtain ⟨i, hi, e⟩ := Array.mem_iff_getElem.1 hf
        have := run_size (P := P) (there_field ht hu (f := i) (fl := f) (by rw [Array.getElem?_eq_getElem hi, e])) w
        simp [this]
    have hplace : (fun (i : Nat) => (List.map (fun f => (f.offset, P.cellsOf f.type, aggB P f.type)) fa.toList)[i]?.map fun (q : Nat × Nat × Bool) => (q.1, q.2.1)) = fun (i : Nat) => (fa.map fun f => (f.offset, P.cellsOf f.type))[i]? := by
      funext i
      rw [List.getElem?_map, Array.getElem?_map]
      simp only [Array.getElem?_toList, Option.map_map]
      rfl
    rw [hplace] at hf
    obtain ⟨cs', r1, r2, r3, r4, r5⟩ := fill_rel (G := G) (s := s.st) (g := g) (w := w) _ ((parts.map fun q => (q.1, a.eval q.2)).toList) _ out zv.cells (by simp) (parts_rel hrel parts) (by simp) (fun u hu => by
      rw [List.all_eq_true] at hz1
      exact hz1 u (by simpa using hu)) (zero_rel zv.cells) hf
    refine ⟨.agg cs', ?_, .agg _ _ r2 r5 r4⟩
    have e : (parts.map fun (x : Nat × Operand) => match x with | (i, x) => (i, a.eval x)) = parts.map fun q => (q.1, a.eval q.2) := rfl
    simp only [Instr.build, e, Sem.run_bind, hzr, Result.andThen_ok, hrun, hpl, r1, Sem.run_pure]

/-! ### a slice that is written out -/
def allIC : List AV → Option (List IC)
  | [] => some []
  | .ic x :: r => match allIC r with
    | some z => some (x :: z)
    | none => none
  | _ :: _ => none
def chunk (sz : Nat) : Nat → List IC → List (List IC)
  | 0, _ => []
  | n + 1, l => l.take sz :: chunk sz n (l.drop sz)
theorem allIC_get {xs : List AV} {ys : List IC} (h : allIC xs = some ys) : xs = ys.map .ic := by
  induction xs generalizing ys with
  | nil =>
    obtain rfl : [] = ys := by simpa [allIC] using h
    rfl
  | cons x r ih =>
    cases x with
    | ic x =>
      simp only [allIC] at h
      cases hr : allIC r with
      | none => simp [hr] at h
      | some z =>
        obtain rfl : x :: z = ys := by simpa [hr] using h
        rw [ih hr]
        rfl
    | _ => simp [allIC] at h
theorem chunk_get (sz : Nat) : ∀ (n : Nat) (l : List IC) (j : Nat) (r : List IC), (chunk sz n l)[j]? = some r → j < n ∧ r = (l.drop (j * sz)).take sz
  | 0, l, j, r, h => by simp [chunk] at h
  | n + 1, l, 0, r, h => by simp [chunk] at h; subst h; simp
  | n + 1, l, j + 1, r, h => by
    simp only [chunk, List.getElem?_cons_succ] at h
    obtain ⟨h1, h2⟩ := chunk_get sz n _ j r h
    refine ⟨by omega, ?_⟩
    rw [h2, List.drop_drop]
    congr 2
    rw [Nat.succ_mul, Nat.add_comm]
theorem chunk_len (sz : Nat) : ∀ (n : Nat) (l : List IC), (chunk sz n l).length = n
  | 0, _ => rfl
  | n + 1, l => by simp [chunk, chunk_len sz n]

theorem does_lit {P : Program} {s : St} (t e : TypeId) (len : Nat) (parts : Array (Nat × Operand)) (sz : Nat) (z : List Value) (out : List AV) (flat : List IC) (ht : (tyi P t).there = true) (hk : (tyi P t).k = .slice e) (hsz : (tyi P e).size = sz) (hz : (tyi P e).zero = some z)
    (hz1 : z.all (·.oneCell') = true) (hzl : Nat.beq z.length sz = true) (hpos : Nat.blt 0 (len * sz) = true) (hle : Nat.ble (len * sz) 1000 = true)
    (hf : fillA (fun i => some (i * sz, sz)) ((List.range (len * sz)).map fun q => nilc (z.getD (q % sz) undef)) (parts.toList.map fun q => (q.1, s.ev q.2)) = some out) (ho : allIC out = some flat) :
    Does P s (fun ρ => do pure (.value (← Instr.buildSlice t len (parts.map fun (i, x) => (i, ρ x))))) (.ic (.sl sz true (chunk sz len flat))) s.st := fun G g w a hrel => by
  have hu := tk_slice hk
  obtain ⟨zv, hzr, rfl⟩ := run_zero hz w
  have hss := run_size (P := P) (there_elem ht hu) w
  have hz2 : P.cellsOf e = sz := hsz
  rw [hz2] at hss
  have hzl := Nat.eq_of_beq_eq_true hzl
  simp only [Array.length_toList] at hzl
  have hpos := Nat.le_of_ble_eq_true hpos
  have hle := Nat.le_of_ble_eq_true hle
  have hs0 : 0 < sz := by
    rcases Nat.eq_zero_or_pos sz with e | e
    · subst e; simp at hpos
    · exact e
  have hzs : ∀ q, q < len * sz → q % sz < zv.cells.size := fun q hq => by rw [hzl]; exact (div_lt hq).2.1
  obtain ⟨cs', r1, r2, r3, r4, r5⟩ := fill_rel (G := G) (s := s.st) (g := g) (w := w) _ ((parts.map fun q => (q.1, a.eval q.2)).toList) _ out ((Array.range (len * sz)).map (zv.cells[· % zv.cells.size]!)) (by simp) (parts_rel hrel parts) (by simp) (fun u hu => by
      simp only [Array.mem_map, Array.mem_range] at hu
      obtain ⟨q, hq, rfl⟩ := hu
      rw [hzl]
      simp only [getElem!_def, Array.getElem?_eq_getElem (hzs q hq)]
      rw [List.all_eq_true] at hz1
      exact hz1 _ (by simp)) (fun k x hk => by
      rw [List.getElem?_map] at hk
      simp only [Option.map_eq_some_iff] at hk
      obtain ⟨q, hq, rfl⟩ := hk
      have hql := List.getElem?_eq_some_iff.1 hq
      obtain ⟨h1, h2⟩ := hql
      simp at h1 h2
      subst h2
      have hkl := hzs k h1
      have e1 : ((Array.range (len * sz)).map (zv.cells[· % zv.cells.size]!)).getD k undef = zv.cells[k % sz] := by
        simp [h1, hzl, getElem!_def, Array.getElem?_eq_getElem hkl]
      have e2 : zv.cells.toList.getD (k % sz) undef = zv.cells[k % sz] := by
        rw [List.getD_eq_getElem?_getD, Array.getElem?_toList, Array.getElem?_eq_getElem hkl]
        rfl
      rw [e1, e2]
      exact .nilc _) hf
  have hout := allIC_get ho
  have hol : out.length = len * sz := by rw [r3]; simp
  have hfl : flat.length = len * sz := by rw [hout] at hol; simpa using hol
  have hlen : (chunk sz len flat).length = len := chunk_len _ _ _
  have hev : Evo s.st g w s.st g (w.alloc (.cells cs' e)) := .below ⟨rfl, rfl, rfl, by simp, fun k hk => Below.heap_alloc w _ k hk⟩
  have hmax : len ≤ maxLen := by
    have : len ≤ len * sz := Nat.le_mul_of_pos_right _ hs0
    simp only [maxLen]
    omega
  have hflat : Flat (w.alloc (.cells cs' e)) (Good G s.st g) sz (chunk sz len flat) cs'.toList := by
    refine ⟨by rw [hlen]; simp; omega, fun j r hj => ?_, fun j r k x hj hk => ?_, fun u hu => r4 u (by simpa using hu)⟩
    · obtain ⟨h1, rfl⟩ := chunk_get _ _ _ _ _ hj
      have := place_lt h1 hs0
      have h2 : j * sz + sz ≤ len * sz := by rw [← Nat.succ_mul]; exact Nat.mul_le_mul_right _ h1
      simp
      omega
    · obtain ⟨h1, rfl⟩ := chunk_get _ _ _ _ _ hj
      rw [List.getElem?_take] at hk
      split at hk
      · rename_i hks
        rw [List.getElem?_drop] at hk
        have hlt := place_lt h1 hks
        have := r5 (j * sz + k) (.ic x) (by rw [hout, List.getElem?_map, hk]; rfl)
        have hg : cs'.toList[j * sz + k]? = some (cs'.getD (j * sz + k) undef) := by
          rw [Array.getElem?_toList, Array.getElem?_eq_getElem (by omega)]
          simp [Array.getD, show j * sz + k < cs'.size by omega]
        exact ⟨_, hg, (this.evo hev).ic_inv⟩
      · simp at hk
  refine ⟨.value (.slice (some ⟨w.heap.size, 0, none⟩) len len), .slice (some ⟨w.heap.size, 0, none⟩) len len, g, _, ?_, .inl rfl, hev, hrel.sr.below ⟨rfl, rfl, rfl, by simp, fun k hk => Below.heap_alloc w _ k hk⟩, .ic _ _ ?_⟩
  · have e : (parts.map fun (x : Nat × Operand) => match x with | (i, x) => (i, a.eval x)) = parts.map fun q => (q.1, a.eval q.2) := rfl
    have h24 : ¬ (len * sz > 2 ^ 24) := by omega
    have h0 : ¬ (len * sz = 0) := by omega
    simp only [Instr.buildSlice, e, Sem.run_bind, run_underlying hu, Result.andThen_ok, hss, if_neg h24, if_neg h0, hzr, Sem.run_pure, r1, newRow, run_newObj]
    rfl
  · have := fresh_ir (c := len) hflat (heap_alloc_new w _) ⟨hrel.sr.new _ (Nat.le_refl _), fun ho => by have := Own.lt hrel.sr ho; exact Nat.lt_irrefl _ this⟩ (by omega) hmax (by rw [List.take_length]) true (fun _ => hlen.symm)
    rw [hlen] at this
    exact this

end Go.Proofs.Ytpphdaphbkepfaa.Aw
