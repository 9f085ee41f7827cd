/- The abstract walk, part 21: the row's data, read. -/
import Derived.Test.YtpphdaphbkepfaaAw20
import Derived.ChangeArms
import Derived.SizedLaws
import Derived.DataReads
set_option linter.unusedVariables false
set_option linter.unusedSimpArgs false
namespace Go.Proofs.Ytpphdaphbkepfaa.Aw
open Go Go.RowKit

/-- The shape of a type's values. by: an element's bytes. -/
inductive Sh where
  | int (k : IntKind) | bool | str | sl (by' : Nat) (e : Sh) | st (fs : List Sh)
mutual
def Sh.sz : Sh → Nat
  | .int _ => 1
  | .bool => 1
  | .str => 1
  | .sl _ _ => 1
  | .st fs => szs fs
def szs : List Sh → Nat
  | [] => 0
  | s :: r => s.sz + szs r
end
mutual
def shB (P : Program) : Sh → TypeId → Bool
  | .int k, t => match P.underlying t with | some (.int k') => decide (k = k') | _ => false
  | .bool, t => match P.underlying t with | some .bool => true | _ => false
  | .str, t => match P.underlying t with | some .string => true | _ => false
  | .sl b e, t => match P.underlying t with | some (.slice e') => shB P e e' && Nat.beq (P.bytesOf e') b && Nat.beq (P.cellsOf e') e.sz && !Nat.beq e.sz 0 | _ => false
  | .st fs, t => match P.underlying t with | some (.struct f) => shBs P fs f.toList 0 && Nat.beq (P.cellsOf t) (szs fs) | _ => false
def shBs (P : Program) : List Sh → List Field → Nat → Bool
  | [], [], _ => true
  | s :: r, f :: fs, off => Nat.beq f.offset off && Nat.beq (P.cellsOf f.type) s.sz && shB P s f.type && shBs P r fs (off + s.sz)
  | _, _, _ => false
end
mutual
def Dec : Sh → List IC → Prop
  | .int k, cs => ∃ n, cs = [.lit (.int k n)] ∧ (Lit.int k n).wf = true
  | .bool, cs => ∃ b, cs = [.lit (.bool b)]
  | .str, cs => ∃ s : ByteArray, cs = [.lit (.string s)] ∧ s.size ≤ 140737488351232
  | .sl b e, cs => ∃ rows : List (List IC), cs = [.sl e.sz false rows] ∧ (∀ r ∈ rows, Dec e r) ∧ rows.length * b ≤ 140737488351232
  | .st fs, cs => Decs fs cs
def Decs : List Sh → List IC → Prop
  | [], cs => cs = []
  | s :: r, cs => ∃ a b, cs = a ++ b ∧ Dec s a ∧ Decs r b
end

/-- Cells that stand for data. -/
def Rows (W : World) (ics : List IC) (cs : List Value) : Prop := ics.length = cs.length ∧ ∀ (k : Nat) (y : IC) (v : Value), ics[k]? = some y → cs[k]? = some v → IR W (fun b => b < W.heap.size) y v

theorem Rows.append {W : World} {a b : List IC} {cs ds : List Value} (h : Rows W a cs) (k : Rows W b ds) : Rows W (a ++ b) (cs ++ ds) := by
  refine ⟨by rw [List.length_append, List.length_append, h.1, k.1], fun j y v hy hv => ?_⟩
  by_cases e : j < a.length
  · rw [List.getElem?_append_left e] at hy
    rw [List.getElem?_append_left (by rw [← h.1]; exact e)] at hv
    exact h.2 j y v hy hv
  · rw [List.getElem?_append_right (by omega)] at hy
    rw [List.getElem?_append_right (by rw [← h.1]; omega), ← h.1] at hv
    exact k.2 _ y v hy hv
theorem Rows.one {W : World} {x : IC} {v : Value} (h : IR W (fun b => b < W.heap.size) x v) : Rows W [x] [v] := ⟨rfl, fun k y u hy hu => by
  have : k = 0 := by have := (List.getElem?_eq_some_iff.1 hy).1; simp at this; omega
  subst this
  simp at hy hu
  subst hy hu
  exact h⟩

section dec
variable {H : Type} {enc : TypeId × Value → H} {P : Program} {W : World}

theorem all_append {l r : List Nat} (h : (l ++ r).all (· ≤ reachBytes) = true) : l.all (· ≤ reachBytes) = true ∧ r.all (· ≤ reachBytes) = true := by
  simpa [List.all_append] using h

theorem weightsAll_mem {e : TypeId} {ds : List (DataW H)} (h : (DataW.weightsAll P e ds).all (· ≤ reachBytes) = true) : ∀ (i : Nat) (d : DataW H), ds[i]? = some d → (d.weights P e).all (· ≤ reachBytes) = true := by
  induction ds with
  | nil => simp
  | cons x r ih =>
    simp only [DataW.weightsAll] at h
    obtain ⟨h1, h2⟩ := all_append h
    intro i d hd
    cases i with
    | zero => simp at hd; subst hd; exact h1
    | succ i => exact ih h2 i d (by simpa using hd)

theorem cells_get {base : Nat} {a : Addr} {n : Nat} {cs : List Value} (h : W.cells? base a n = some cs) : cs.length = n ∧ ∀ (k : Nat) (v : Value), cs[k]? = some v → W.cell? (a.add k) = some v := by
  unfold World.cells? at h
  split at h
  · have h1 : cs.length = n := by simpa using mapM_some_length h
    refine ⟨h1, fun k v hv => ?_⟩
    have hk : k < n := by rw [← h1]; exact (List.getElem?_eq_some_iff.1 hv).1
    have := mapM_some_get h k k (by simp [hk])
    rw [this, hv]
  · simp at h

theorem cell_block {a : Addr} {v : Value} (h : W.cell? a = some v) : a = ⟨a.block, a.off, none⟩ ∧ a.block < W.heap.size := by
  obtain ⟨b, o, s⟩ := a
  unfold World.cell? at h
  cases hb : W.heap[b]? with
  | none => simp [hb] at h
  | some ob =>
    refine ⟨?_, (Array.getElem?_eq_some_iff.1 hb).1⟩
    cases ob with
    | cells c e f =>
      simp only [hb] at h
      cases s with
      | none => rfl
      | some s => simp at h
    | _ => simp [hb] at h

mutual
theorem dec (s : Sh) (t : TypeId) (fuel : Nat) (cs : List Value) (x : DataW H × List MemPlace) (hB : shB P s t = true) (h : DataW.trod enc P W 0 (fun _ => true) true fuel t cs = some x) (hw : (x.1.weights P t).all (· ≤ reachBytes) = true) :
    ∃ ics, Dec s ics ∧ Rows W ics cs ∧ cs.length = s.sz := by
  match s, hB with
  | .int k, hB =>
    simp only [shB] at hB
    split at hB
    · rename_i k' hu
      obtain rfl := of_decide_eq_true hB
      obtain ⟨n, rfl, _, hwf⟩ := DataW.trod_int hu h
      exact ⟨_, ⟨n, rfl, hwf⟩, .one (.lit _ rfl), rfl⟩
    · simp at hB
  | .bool, hB =>
    simp only [shB] at hB
    split at hB
    · rename_i hu
      obtain ⟨b, rfl, _⟩ := DataW.trod_bool hu h
      exact ⟨_, ⟨b, rfl⟩, .one (.lit _ rfl), rfl⟩
    · simp at hB
  | .str, hB =>
    simp only [shB] at hB
    split at hB
    · rename_i hu
      obtain ⟨b, rfl, rfl, _⟩ := DataW.trod_string hu h
      refine ⟨_, ⟨b, rfl, ?_⟩, .one (.lit _ rfl), rfl⟩
      simp only [DataW.weights, List.all_cons, List.all_nil, Bool.and_true, decide_eq_true_eq] at hw
      have : b.data.toList.length = b.size := by rw [Array.length_toList]; rfl
      rw [this] at hw
      exact hw
    · simp at hB
  | .sl b e, hB =>
    simp only [shB] at hB
    split at hB
    · rename_i e' hu
      simp only [Bool.and_eq_true, Bool.not_eq_true'] at hB
      obtain ⟨⟨⟨b1, b2⟩, b3⟩, b4⟩ := hB
      have b2 := Nat.eq_of_beq_eq_true b2
      have b3 := Nat.eq_of_beq_eq_true b3
      have b4 : e.sz ≠ 0 := fun e0 => by rw [e0] at b4; simp at b4
      rcases DataW.trod_slice hu h with ⟨rfl, rfl⟩ | ⟨a, len, cap, elems, rest, n, rfl, rfl, rfl, _, hl, hm, hlen, hel, hsp, _⟩
      · exact ⟨_, ⟨[], rfl, by simp, by simp⟩, .one (.nil _ _ _ _ (by simp) (Nat.zero_le _)), rfl⟩
      · simp only [DataW.weights, hu, List.all_cons, Bool.and_eq_true, decide_eq_true_eq, List.length_map] at hw
        obtain ⟨hw1, hw2⟩ := hw
        obtain ⟨hw2, _⟩ := all_append hw2
        have hrl := (hsp rfl).1
        have hcells : ∀ i, i < len → ∃ ecs, W.cells? 0 (a.add (i * e.sz)) e.sz = some ecs ∧ ∃ r, Dec e r ∧ Rows W r ecs ∧ ecs.length = e.sz := fun i hi => by
          have hi' := hel i hi
          rw [b3] at hi'
          have hei := List.getElem?_eq_getElem (show i < elems.length by omega)
          rw [hei] at hi'
          cases hc : W.cells? 0 (a.add (i * e.sz)) e.sz with
          | none => rw [hc] at hi'; simp at hi'
          | some ecs =>
            rw [hc, Option.bind_some] at hi'
            obtain ⟨r, h1, h2, h3⟩ := dec e e' n ecs elems[i] b1 hi' (weightsAll_mem hw2 i _ (by rw [List.getElem?_map, hei]; rfl))
            exact ⟨ecs, rfl, r, h1, h2, h3⟩
        have hex : ∃ rows : Nat → List IC, ∀ i, i < len → ∃ ecs, W.cells? 0 (a.add (i * e.sz)) e.sz = some ecs ∧ Dec e (rows i) ∧ Rows W (rows i) ecs ∧ ecs.length = e.sz := by
          refine ⟨fun i => Classical.epsilon fun r => ∃ ecs, W.cells? 0 (a.add (i * e.sz)) e.sz = some ecs ∧ Dec e r ∧ Rows W r ecs ∧ ecs.length = e.sz, fun i hi => ?_⟩
          obtain ⟨ecs, q1, r, q2, q3, q4⟩ := hcells i hi
          exact Classical.epsilon_spec (p := fun r => ∃ ecs, W.cells? 0 (a.add (i * e.sz)) e.sz = some ecs ∧ Dec e r ∧ Rows W r ecs ∧ ecs.length = e.sz) ⟨r, ecs, q1, q2, q3, q4⟩
        obtain ⟨rows, hrows⟩ := hex
        have hget : ∀ (j : Nat) (r : List IC), ((List.range len).map rows)[j]? = some r → j < len ∧ r = rows j := fun j r hj => by
          rw [List.getElem?_map] at hj
          simp only [Option.map_eq_some_iff] at hj
          obtain ⟨q, hq, rfl⟩ := hj
          have := List.getElem?_eq_some_iff.1 hq
          obtain ⟨g1, g2⟩ := this
          simp at g1 g2
          exact ⟨g1, by rw [g2]⟩
        have hlenR : ((List.range len).map rows).length = len := by simp
        refine ⟨[.sl e.sz false ((List.range len).map rows)], ⟨_, rfl, fun r hr => ?_, ?_⟩, .one ?_, rfl⟩
        · obtain ⟨i, hi, rfl⟩ := List.mem_map.1 hr
          obtain ⟨_, _, h2, _⟩ := hrows i (List.mem_range.1 hi)
          exact h2
        · rw [hlenR]
          rw [b2] at hw1
          have : len * b ≤ (elems.length + rest.length) * b := Nat.mul_le_mul_right _ (by omega)
          exact Nat.le_trans this hw1
        · rcases Nat.eq_zero_or_pos len with hz | hz
          · subst hz
            simp only [List.range_zero, List.map_nil]
            exact .nil _ _ _ _ (by simp) hm
          · obtain ⟨ecs, q1, _, _, q4⟩ := hrows 0 hz
            obtain ⟨_, hc0⟩ := cells_get q1
            have h00 := hc0 0 _ (List.getElem?_eq_getElem (by omega))
            rw [Nat.zero_mul] at h00
            have ha0 : (a.add 0).add 0 = a := by simp [Addr.add]
            rw [ha0] at h00
            obtain ⟨hab, hblt⟩ := cell_block h00
            have hir := IR.sl (w := W) (ok := fun b => b < W.heap.size) e.sz false ((List.range len).map rows) a.block a.off cap (fun j k => (W.cell? ((⟨a.block, a.off, none⟩ : Addr).add (j * e.sz + k))).getD undef) hblt (by rw [hlenR]; exact hl) hm (by simp) hblt
              (fun j r hj => by
                obtain ⟨hj1, rfl⟩ := hget j r hj
                obtain ⟨ecs, _, _, p3, p4⟩ := hrows j hj1
                rw [p3.1, p4])
              (fun j r k y hj hk => by
                obtain ⟨hj1, rfl⟩ := hget j r hj
                obtain ⟨ecs, p1, _, p3, p4⟩ := hrows j hj1
                have hkl : k < ecs.length := by rw [← p3.1]; exact (List.getElem?_eq_some_iff.1 hk).1
                have := (cells_get p1).2 k _ (List.getElem?_eq_getElem hkl)
                rw [hab, add_block, add_block] at this
                rw [add_block]
                rw [show a.off + (j * e.sz + k) = a.off + j * e.sz + k by omega, this]
                rfl)
              (fun j r k y hj hk => by
                obtain ⟨hj1, rfl⟩ := hget j r hj
                obtain ⟨ecs, p1, _, p3, p4⟩ := hrows j hj1
                have hkl : k < ecs.length := by rw [← p3.1]; exact (List.getElem?_eq_some_iff.1 hk).1
                have := (cells_get p1).2 k _ (List.getElem?_eq_getElem hkl)
                rw [hab, add_block, add_block] at this
                rw [add_block]
                rw [show a.off + (j * e.sz + k) = a.off + j * e.sz + k by omega, this]
                exact p3.2 k y _ hk (List.getElem?_eq_getElem hkl))
            rw [hlenR] at hir
            rw [hab]
            exact hir
    · simp at hB
  | .st fs, hB =>
    simp only [shB] at hB
    split at hB
    · rename_i f hu
      simp only [Bool.and_eq_true] at hB
      obtain ⟨b1, b2⟩ := hB
      have b2 := Nat.eq_of_beq_eq_true b2
      obtain ⟨xs, n, rfl, rfl, hcl, hxl, hf⟩ := DataW.trod_struct hu h
      simp only [DataW.weights, hu] at hw
      obtain ⟨ics, h1, h2⟩ := decs fs f.toList 0 n cs (xs) b1 (by simp [hxl]) (fun i fl hi => hf i fl (by simpa using hi)) hw (by omega)
      refine ⟨ics, h1, ?_, by simp only [Sh.sz]; omega⟩
      rw [List.drop_zero, List.take_of_length_le (by omega)] at h2
      exact h2
    · simp at hB
theorem decs (ss : List Sh) (fs : List Field) (off n : Nat) (cs : List Value) (xs : List (DataW H × List MemPlace)) (hB : shBs P ss fs off = true) (hx : xs.length = fs.length)
    (hf : ∀ (i : Nat) (f : Field), fs[i]? = some f → DataW.trod enc P W 0 (fun _ => true) true n f.type ((cs.drop f.offset).take (P.cellsOf f.type)) = xs[i]?) (hw : (DataW.weightsEach P (fs.map (·.type)) (xs.map (·.1))).all (· ≤ reachBytes) = true) (hl : off + szs ss ≤ cs.length) :
    ∃ ics, Decs ss ics ∧ Rows W ics ((cs.drop off).take (szs ss)) := by
  match ss, fs, xs with
  | [], [], _ => exact ⟨[], rfl, by simp [szs], by simp⟩
  | [], f :: fs, _ => simp [shBs] at hB
  | s :: ss, [], _ => simp [shBs] at hB
  | s :: ss, f :: fs, [] => simp at hx
  | s :: ss, f :: fs, x :: xs =>
    simp only [shBs, Bool.and_eq_true] at hB
    obtain ⟨⟨⟨b1, b2⟩, b3⟩, b4⟩ := hB
    have b1 := Nat.eq_of_beq_eq_true b1
    have b2 := Nat.eq_of_beq_eq_true b2
    simp only [List.map_cons, DataW.weightsEach] at hw
    obtain ⟨w1, w2⟩ := all_append hw
    simp only [szs] at hl
    have h0 := hf 0 f rfl
    rw [b1, b2] at h0
    obtain ⟨i1, d1, r1, _⟩ := dec s f.type n _ x b3 (by simpa using h0) w1
    obtain ⟨i2, d2, r2⟩ := decs ss fs (off + s.sz) n cs xs b4 (by simpa using hx) (fun i f' hi => by simpa using hf (i + 1) f' (by simpa using hi)) w2 (by omega)
    refine ⟨i1 ++ i2, ⟨i1, i2, rfl, d1, d2⟩, ?_⟩
    have hcat := r1.append r2
    have : (cs.drop off).take (s.sz + szs ss) = (cs.drop off).take s.sz ++ (cs.drop (off + s.sz)).take (szs ss) := by
      rw [← List.drop_drop, ← List.take_add]
    simp only [szs]
    rw [this]
    exact hcat
end
end dec
end Go.Proofs.Ytpphdaphbkepfaa.Aw
