/- The abstract walk, part 9: rows of the call's own: made, grown, copied into, stored into, cut; values and slices put together. -/
import Derived.Test.YtpphdaphbkepfaaAw8
set_option linter.unusedVariables false
set_option linter.unusedSimpArgs false
namespace Go.Proofs.Ytpphdaphbkepfaa.Aw
open Go Go.RowKit

def zIC (v : Value) : IC := match v with
  | .slice none n c => bif Nat.beq n 0 && Nat.beq c 0 then .sl 0 true [] else .lit v
  | _ => .lit v
theorem zIC_ir {w : World} {ok : Nat → Prop} {v : Value} (h : v.oneCell' = true) : IR w ok (zIC v) v := by
  unfold zIC
  split
  · rename_i n c
    cases hn : (Nat.beq n 0 && Nat.beq c 0) with
    | false => exact .lit _ h
    | true =>
      simp only [Bool.and_eq_true] at hn
      obtain rfl := Nat.eq_of_beq_eq_true hn.1
      obtain rfl := Nat.eq_of_beq_eq_true hn.2
      exact .nil 0 true none 0 (fun _ => rfl) (by simp [maxLen])
  · exact .lit _ h

/-- A row that is laid. -/
theorem SR.newRow {G : Nat → Prop} {s : St} {g : Ghost} {w w' : World} {a : Act} (hr : Rel G s g w a) (e sz : Nat) (xs : List (List IC)) (v : Value) (cells : List Value) (hg : w.grownBy w' none) (hv : ∀ b, gb v = some b → w.heap.size ≤ b) (ho : w'.ownsRow 0 e sz v xs.length cells)
    (hf : ∀ ok, Flat w' ok sz xs cells) :
    ∃ g', Evo s.st g w (s.st ++ [.row true 0 e sz xs]) g' w' ∧ SR G (s.st ++ [.row true 0 e sz xs]) g' w' ∧ AR G (s.st ++ [.row true 0 e sz xs]) g' w' (.own s.st.length 0) v := by
  have h5 : ∀ b, b < w.heap.size → w'.heap[b]? = w.heap[b]? := fun b hb => hg.block b hb (by simp)
  have k : Evo s.st g w (s.st ++ [.row true 0 e sz xs]) (gput g s.st.length v) w' := .push _ _ hg.os hg.tape hg.output hg.size h5 hv
  have h1 : v.oneCell' = true := by
    rcases ho.2 with ⟨e1, _⟩ | ⟨g0, cap, cur, e1, _⟩ <;> rw [e1] <;> rfl
  refine ⟨_, k, hr.sr.push _ _ k h5 hv ⟨cells, ?_, fun b hb => ?_, hf _⟩, .own _ _ _ (by simp) (fun m v' e' sz' xs' hs => ?_) h1⟩
  · rw [gput_new]; exact ho
  · rw [gput_new] at hb; exact hr.sr.new b (hv b hb)
  · rw [List.getElem?_append_right (Nat.le_refl _)] at hs
    simp only [Nat.sub_self, List.getElem?_cons_zero, Option.some.injEq, AObj.row.injEq] at hs
    obtain ⟨_, rfl, _⟩ := hs
    exact ⟨Nat.le_refl _, fun _ => (gput_new _ _ _).symm⟩

theorem does_make {P : Program} {s : St} (t e : TypeId) (x y : Operand) (sz : Nat) (z : List Value) (kl kc : IntKind) (n : Int) (ht : (tyi P t).there = true) (hk : (tyi P t).k = .slice e) (hsz : (tyi P e).size = sz) (hz : (tyi P e).zero = some z) (hzl : Nat.beq z.length sz = true) (hz1 : z.all (·.oneCell') = true)
    (hx : s.ev x = .ic (.lit (.int kl n))) (hy : s.ev y = .ic (.lit (.int kc n))) (h0 : 0 ≤ n) (hb : (tyi P e).bytes * n.toNat ≤ 281474976710656) (hm : n.toNat ≤ maxLen) :
    Does P s (fun ρ => do pure (.value (← Instr.makeSlice t (ρ x) (ρ y)))) (.own s.st.length 0) (s.st ++ [.row true 0 e sz (List.replicate n.toNat (z.map zIC))]) := fun G g w a hrel => by
  have hu := tk_slice hk
  obtain ⟨i0, hi0⟩ := info_there (there_elem ht hu)
  have hsize : i0.size = sz := by have : P.cellsOf e = sz := hsz; simpa [Program.cellsOf, hi0] using this
  have hzz : ∃ z0, i0.zero = some z0 ∧ z0.cells.toList = z := by
    simp only [tyi, hi0, Option.bind_some, Option.map_eq_some_iff] at hz
    exact hz
  obtain ⟨z0, hz0, rfl⟩ := hzz
  have hbb : (tyi P e).bytes = i0.bytes := by simp [tyi, Program.bytesOf, hi0]
  rw [hbb] at hb
  have hzl := Nat.eq_of_beq_eq_true hzl
  simp only [Array.length_toList] at hzl
  obtain ⟨w', hrun, hown, hg⟩ := run_make_full (P := P) w 0 t e i0 z0 sz hu hi0 hz0 hsize kl kc n.toNat hb hm (Nat.zero_le _)
  have en : (n.toNat : Int) = n := Int.toNat_of_nonneg h0
  rw [en] at hrun
  have hlen : (List.replicate n.toNat (z0.cells.toList.map zIC)).length = n.toNat := by simp
  obtain ⟨g', hev, hsr, har⟩ := SR.newRow hrel e sz (List.replicate n.toNat (z0.cells.toList.map zIC)) (.slice (some ⟨w.heap.size, 0, none⟩) n.toNat n.toNat) _ hg (fun b hb => by simp [gb] at hb; omega) (by rw [hlen]; exact hown) (fun ok => by
    refine ⟨by simp [madeCells], fun j r hj => ?_, fun j r k x hj hk => ?_, fun u hu => ?_⟩
    · have := List.eq_of_mem_replicate (List.mem_of_getElem? hj)
      rw [this]; simp [hzl]
    · have hr := List.eq_of_mem_replicate (List.mem_of_getElem? hj)
      have hjl := (List.getElem?_eq_some_iff.1 hj).1
      simp only [List.length_replicate] at hjl
      subst hr
      rw [List.getElem?_map] at hk
      simp only [Option.map_eq_some_iff] at hk
      obtain ⟨u, hu, rfl⟩ := hk
      have hkl := (List.getElem?_eq_some_iff.1 hu).1
      simp only [Array.length_toList] at hkl
      refine ⟨u, ?_, zIC_ir (by rw [List.all_eq_true] at hz1; exact hz1 u (List.mem_of_getElem? hu))⟩
      have hp := place_lt hjl (show k < sz by omega)
      simp only [madeCells, Array.toList_map, Array.toList_range, List.getElem?_map, List.getElem?_range hp, Option.map_some]
      have hmod : (j * sz + k) % z0.cells.size = k := by rw [hzl, Nat.mul_comm, Nat.mul_add_mod, Nat.mod_eq_of_lt (by omega)]
      rw [hmod]
      have : z0.cells[k]? = some u := by simpa using hu
      simp [getElem!_def, this]
    · simp only [madeCells, Array.toList_map, Array.toList_range, List.mem_map, List.mem_range] at hu
      obtain ⟨q, hq, rfl⟩ := hu
      have hlt : q % z0.cells.size < z0.cells.size := by
        have := (div_lt hq).2.1
        rw [hzl]; exact this
      simp only [getElem!_def, Array.getElem?_eq_getElem hlt]
      rw [List.all_eq_true] at hz1
      exact hz1 _ (by simp))
  refine ⟨_, _, g', w', ?_, .inl rfl, hev, hsr, har⟩
  simp only [bound_run hrel hx, bound_run hrel hy, Sem.run_bind, hrun, Result.andThen_ok, Sem.run_pure]

/-! ### a value put together -/
def cellsAt (cells ys : List AV) (off : Nat) : List AV := cells.take off ++ ys ++ cells.drop (off + ys.length)
def fillA (place : Nat → Option (Nat × Nat)) (cells : List AV) : List (Nat × AV) → Option (List AV)
  | [] => some cells
  | (i, x) :: r => match place i with
    | some (off, n) => match cellsOk x with
      | some ys => bif Nat.beq ys.length n && Nat.ble (off + ys.length) cells.length then fillA place (cellsAt cells ys off) r else none
      | none => none
    | none => none

theorem foldl_set (vs : List Value) : ∀ (k off : Nat) (cs : Array Value), off + k + vs.length ≤ cs.size →
    ((vs.zipIdx k).foldl (fun cs (c, j) => cs.setIfInBounds (off + j) c) cs).toList = cs.toList.take (off + k) ++ vs ++ cs.toList.drop (off + k + vs.length) := by
  induction vs with
  | nil => intro k off cs h; simp
  | cons v r ih =>
    intro k off cs h
    simp only [List.zipIdx_cons, List.foldl_cons, List.length_cons] at h ⊢
    rw [ih (k + 1) off _ (by simp; omega)]
    have e := list_seg_step cs.toList (off + k) v r (by simp; omega)
    simpa [Array.toList_setIfInBounds, Nat.add_assoc] using e

theorem fill_rel {G : Nat → Prop} {s : List AObj} {g : Ghost} {w : World} {place : Nat → Option (Nat × Nat)} : ∀ (ps : List (Nat × AV)) (vs : List (Nat × Value)) (cells out : List AV) (cs : Array Value), ps.length = vs.length →
    (∀ (k : Nat) (p : Nat × AV) (v : Nat × Value), ps[k]? = some p → vs[k]? = some v → p.1 = v.1 ∧ AR G s g w p.2 v.2) → cs.size = cells.length → (∀ u ∈ cs, u.oneCell' = true) → (∀ (k : Nat) (x : AV), cells[k]? = some x → AR G s g w x (cs.getD k undef)) → fillA place cells ps = some out →
    ∃ cs', Instr.fill place cs vs = some cs' ∧ cs'.size = out.length ∧ out.length = cells.length ∧ (∀ u ∈ cs', u.oneCell' = true) ∧ ∀ (k : Nat) (x : AV), out[k]? = some x → AR G s g w x (cs'.getD k undef)
  | [], [], cells, out, cs, _, _, h1, h2, h3, h => by
    obtain rfl : cells = out := by simpa [fillA] using h
    exact ⟨cs, rfl, h1, rfl, h2, h3⟩
  | [], _ :: _, cells, out, cs, hl, _, _, _, _, _ => by simp at hl
  | _ :: _, [], cells, out, cs, hl, _, _, _, _, _ => by simp at hl
  | (i, x) :: ps, (i', v) :: vs, cells, out, cs, hl, hp, h1, h2, h3, h => by
    obtain ⟨e, hx⟩ := hp 0 _ _ rfl rfl
    simp only at e hx
    subst e
    simp only [fillA] at h
    cases hpl : place i with
    | none => simp [hpl] at h
    | some q =>
      obtain ⟨off, n⟩ := q
      simp only [hpl] at h
      cases hc : cellsOk x with
      | none => simp [hc] at h
      | some ys =>
        simp only [hc] at h
        cases hb : (Nat.beq ys.length n && Nat.ble (off + ys.length) cells.length) with
        | false => rw [hb] at h; simp at h
        | true =>
          rw [hb] at h
          simp only [cond_true] at h
          simp only [Bool.and_eq_true] at hb
          obtain rfl := Nat.eq_of_beq_eq_true hb.1
          have hle := Nat.le_of_ble_eq_true hb.2
          obtain ⟨c1, c3, c2⟩ := cells_of hx hc
          have hfold := foldl_set v.cells.toList 0 off cs (by simp; omega)
          simp only [Nat.add_zero] at hfold
          have hlen : v.cells.toList.length = ys.length := by simpa using c1
          have harr : (v.cells.zipIdx.foldl (fun cs (c, j) => cs.setIfInBounds (off + j) c) cs) = (cs.toList.take off ++ v.cells.toList ++ cs.toList.drop (off + v.cells.toList.length)).toArray := by
            rw [← hfold]
            rw [← Array.foldl_toList]
            simp [Array.toList_zipIdx]
          have hcl : cellsAt cells ys off = cells.take off ++ ys ++ cells.drop (off + ys.length) := rfl
          obtain ⟨cs', r1, r2, r3, r4, r5⟩ := fill_rel ps vs (cellsAt cells ys off) out (cs.toList.take off ++ v.cells.toList ++ cs.toList.drop (off + v.cells.toList.length)).toArray (by simpa using hl) (fun k p u hk hu => hp (k + 1) p u (by simpa using hk) (by simpa using hu)) (by simp [hcl]; omega) (fun u hu => by
              simp only [List.mem_toArray, List.mem_append] at hu
              rcases hu with (hu | hu) | hu
              · exact h2 u (by simpa using List.mem_of_mem_take hu)
              · exact c3 u (by simpa using hu)
              · exact h2 u (by simpa using List.mem_of_mem_drop hu)) (fun q z hz => by
              rw [hcl] at hz
              rw [getD_toList, List.getD_eq_getElem?_getD]
              simp only
              by_cases q1 : q < off
              · rw [List.append_assoc, List.getElem?_append_left (by simp; omega), List.getElem?_take, if_pos q1] at hz
                rw [List.append_assoc, List.getElem?_append_left (by simp; omega), List.getElem?_take, if_pos q1]
                have := h3 q z hz
                rwa [getD_toList, List.getD_eq_getElem?_getD] at this
              · by_cases q2 : q < off + ys.length
                · have l1 : (cells.take off).length = off := by simp; omega
                  have l2 : (cs.toList.take off).length = off := by simp; omega
                  rw [List.append_assoc, List.getElem?_append_right (by omega), l1, List.getElem?_append_left (by omega)] at hz
                  rw [List.append_assoc, List.getElem?_append_right (by omega), l2, List.getElem?_append_left (by omega)]
                  have := c2 _ z hz
                  rwa [getD_toList, List.getD_eq_getElem?_getD] at this
                · have l1 : (cells.take off ++ ys).length = off + ys.length := by simp; omega
                  have l2 : (cs.toList.take off ++ v.cells.toList).length = off + ys.length := by rw [List.length_append, hlen]; simp; omega
                  rw [List.getElem?_append_right (by omega), l1, List.getElem?_drop] at hz
                  rw [List.getElem?_append_right (by omega), l2, List.getElem?_drop, hlen]
                  have := h3 _ z hz
                  rwa [getD_toList, List.getD_eq_getElem?_getD] at this) h
          refine ⟨cs', ?_, r2, by rw [r3, hcl]; simp; omega, r4, r5⟩
          simp only [Instr.fill, hpl]
          rw [if_neg (by simp; omega), harr]
          exact r1

end Go.Proofs.Ytpphdaphbkepfaa.Aw
