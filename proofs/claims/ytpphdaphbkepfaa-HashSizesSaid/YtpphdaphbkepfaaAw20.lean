/- The abstract walk, part 20: empty slices that are new; structs of numbers, compared. -/
import Derived.Test.YtpphdaphbkepfaaAw19
import Derived.Laws.StructEq
import Derived.ChangeKeysEq
set_option linter.unusedVariables false
set_option linter.unusedSimpArgs false
namespace Go.Proofs.Ytpphdaphbkepfaa.Aw
open Go Go.RowKit
theorem does_build0 {P : Program} {s : St} (t e : TypeId) (sz : Nat) (ht : (tyi P t).there = true) (hk : (tyi P t).k = .slice e) (hsz : (tyi P e).size = sz) :
    Does P s (fun ρ => do pure (.value (← Instr.buildSlice t 0 ((#[] : Array (Nat × Operand)).map fun (i, x) => (i, ρ x))))) (.own s.st.length 0) (s.st ++ [.row true 0 e sz []]) := fun G g w a hrel => by
  have hu := tk_slice hk
  obtain ⟨i0, hi0⟩ := info_there (there_elem ht hu)
  have hsize : i0.size = sz := by have : P.cellsOf e = sz := hsz; simpa [Program.cellsOf, hi0] using this
  have hrun : (Instr.buildSlice t 0 ((#[] : Array (Nat × Operand)).map fun (i, x) => (i, a.eval x))).run P w = .ok (.slice (some ⟨w.heap.size, 0, none⟩) 0 0) (w.alloc (.cells #[] e)) := by
    have e0 : Array.map (fun _ => (default : Value)) (Array.range 0) = #[] := by apply Array.eq_empty_of_size_eq_zero; simp
    simp [Instr.buildSlice, run_underlying hu, sizeOf, typeInfo, hi0, Instr.fill, newRow, e0]
  have hg : w.grownBy (w.alloc (.cells #[] e)) none := ⟨rfl, rfl, rfl, by simp, fun b hb _ => Below.heap_alloc _ _ _ hb⟩
  obtain ⟨g', hev, hsr, har⟩ := SR.newRow hrel e sz [] (.slice (some ⟨w.heap.size, 0, none⟩) 0 0) [] hg (fun b hb => by simp [gb] at hb; omega)
    ⟨by simp, .inr ⟨w.heap.size, 0, #[], rfl, Nat.zero_le _, heap_alloc_new _ _, Nat.le_refl _, by simp [maxLen], by simp, by simp⟩⟩ (fun ok => .nil _ _ _)
  exact ⟨_, _, g', _, by simp only [Sem.run_bind, hrun, Result.andThen_ok, Sem.run_pure], .inl rfl, hev, hsr, har⟩
theorem One.build0 {r : Option Nat} {P : Program} {ops : Array Oper} {i : Nat} {s : St} {tab : List TI} (hT : TabOk P tab) {t e : TypeId} {j : TI} (h : opAt ops i s = some (.buildSlice t 0 #[])) (ht : slT tab t = some (e, j)) : One r P ops i s (.own s.st.length 0) (s.st ++ [.row true 0 e j.size []]) := by
  obtain ⟨g1, g2, rfl⟩ := slT_ok hT ht
  exact .does h rfl fun o hop => (does_build0 t e _ g1 g2 rfl).congr fun ρ => by simp only [execOp, hop]

/-- The type is a struct of n numbers. -/
def intsB (P : Program) (t : TypeId) (n : Nat) : Bool := match P.underlying t with
  | some (.struct fs) => !P.stoodInHeld t && !(P.eqGuardType P.depth t) && Nat.beq fs.size n && (List.range n).all (fun i => match fs[i]? with
    | some f => Nat.beq f.offset i && f.name != "_" && P.plainKey f.type && (match P.underlying f.type with | some (.int .i64) => true | _ => false)
    | none => false)
  | _ => false

theorem eqf_ints {P : Program} {w : World} (d : Nat) (X Y : Array Value) : ∀ (fs : List Field) (xs ys : List Int) (k : Nat), xs.length = fs.length → ys.length = fs.length →
    (∀ (i : Nat) (f : Field), fs[i]? = some f → f.offset = k + i ∧ f.name ≠ "_" ∧ P.plainKey f.type = true ∧ P.underlying f.type = some (.int .i64)) → (∀ (i : Nat) (z : Int), xs[i]? = some z → X[k + i]? = some (.int .i64 z)) → (∀ (i : Nat) (z : Int), ys[i]? = some z → Y[k + i]? = some (.int .i64 z)) →
    (Op.eqFields (d + 1) X Y fs).run P w = .ok (decide (xs = ys)) w
  | [], xs, ys, k, h1, h2, hf, hx, hy => by
    obtain rfl := List.length_eq_zero_iff.1 h1
    obtain rfl := List.length_eq_zero_iff.1 h2
    simp [Op.eqFields]
  | f :: fs, [], ys, k, h1, h2, hf, hx, hy => by simp at h1
  | f :: fs, x :: xs, [], k, h1, h2, hf, hx, hy => by simp at h2
  | f :: fs, x :: xs, y :: ys, k, h1, h2, hf, hx, hy => by
    obtain ⟨e1, e2, e3, e4⟩ := hf 0 f rfl
    have ih := eqf_ints (P := P) (w := w) d X Y fs xs ys (k + 1) (by simpa using h1) (by simpa using h2) (fun i f' hi => by obtain ⟨a1, a2, a3, a4⟩ := hf (i + 1) f' (by simpa using hi); exact ⟨by omega, a2, a3, a4⟩)
      (fun i z hz => by have := hx (i + 1) z (by simpa using hz); rw [← this]; congr 1; omega) (fun i z hz => by have := hy (i + 1) z (by simpa using hz); rw [← this]; congr 1; omega)
    have px := run_part_plain (P := P) (w := w) e3 (xs := X) (off := f.offset) (by rw [e1]; exact hx 0 x rfl)
    have py := run_part_plain (P := P) (w := w) e3 (xs := Y) (off := f.offset) (by rw [e1]; exact hy 0 y rfl)
    have pe := run_equalIn_int (P := P) w d f.type .i64 .i64 x y e4
    rw [Op.eqFields]
    simp only [if_pos e2, Sem.run_bind, px, py, pe, Result.andThen_ok]
    by_cases hxy : x = y
    · subst hxy
      simp [ih]
    · simp [hxy]

theorem agg_ints {G : Nat → Prop} {s : List AObj} {g : Ghost} {w : World} {xs : List Int} {v : Value} (h : AR G s g w (.agg (xs.map fun z => .ic (I z))) v) : ∃ vs : Array Value, v = .agg vs ∧ vs.size = xs.length ∧ ∀ (i : Nat) (z : Int), xs[i]? = some z → vs[i]? = some (.int .i64 z) := by
  obtain ⟨vs, rfl, h1, h2, _⟩ := h.agg_inv
  refine ⟨vs, rfl, by simpa using h1, fun i z hz => ?_⟩
  have := (h2 i (.ic (I z)) (by simp [hz])).lit_inv
  have hlt : i < vs.size := by rw [h1, List.length_map]; exact (List.getElem?_eq_some_iff.1 hz).1
  simp only [Array.getD, hlt, dif_pos] at this
  rw [Array.getElem?_eq_getElem hlt]
  exact congrArg some this

theorem does_cmpInts {P : Program} {s : St} (op : BinOp) (hop : op = .eql ∨ op = .neq) (t : TypeId) (x y : Operand) (xs ys : List Int) (hB : intsB P t xs.length = true) (hl : ys.length = xs.length) (hx : s.ev x = .agg (xs.map fun z => .ic (I z))) (hy : s.ev y = .agg (ys.map fun z => .ic (I z))) (r : Bool)
    (hr : (match op with | .eql => decide (xs = ys) | _ => !decide (xs = ys)) = r) : Does P s (fun ρ => do pure (.value (← (do eqGuard op t x y (ρ x) (ρ y); binOp op t (ρ x) (ρ y) : Sem Value)))) (.ic (.lit (.bool r))) s.st :=
  .pure fun G g w act hrel => by
    have h1 := hrel.ev x
    have h2 := hrel.ev y
    rw [hx] at h1
    rw [hy] at h2
    obtain ⟨X, e1, s1, f1⟩ := agg_ints h1
    obtain ⟨Y, e2, s2, f2⟩ := agg_ints h2
    unfold intsB at hB
    cases hu : P.underlying t with
    | none => simp [hu] at hB
    | some dsc =>
      cases dsc with
      | struct fs =>
        simp only [hu, Bool.and_eq_true, Bool.not_eq_true', List.all_eq_true, List.mem_range] at hB
        obtain ⟨⟨⟨b1, b2⟩, b3⟩, b4⟩ := hB
        have b3 := Nat.eq_of_beq_eq_true b3
        have hf : P.fieldsOf t = fs := by simp [Program.fieldsOf, hu]
        have heq : (Op.equal t (.agg X) (.agg Y)).run P w = .ok (decide (xs = ys)) w := by
          show (Op.equalIn (9999 + 1) t (.agg X) (.agg Y)).run P w = _
          rw [run_equalIn_struct (P := P) w 9999 t X Y (by rw [hf]; exact hu) b1, hf]
          refine eqf_ints 9998 X Y fs.toList xs ys 0 (by simp [b3]) (by simp [b3, hl]) (fun i f hi => ?_) (fun i z hz => by simpa using f1 i z hz) (fun i z hz => by simpa using f2 i z hz)
          have hlt := (List.getElem?_eq_some_iff.1 hi).1
          simp only [Array.length_toList] at hlt
          have := b4 i (by omega)
          have hi' : fs[i]? = some f := by simpa using hi
          simp only [hi', Bool.and_eq_true, bne_iff_ne, ne_eq] at this
          obtain ⟨⟨⟨c1, c2⟩, c3⟩, c4⟩ := this
          refine ⟨by rw [Nat.eq_of_beq_eq_true c1]; omega, c2, c3, ?_⟩
          split at c4
          · assumption
          · simp at c4
        refine ⟨.bool r, ?_, .ic _ _ (.lit _ rfl)⟩
        rcases hop with rfl | rfl
        · simp only at hr
          simp [e1, e2, eqGuard, b2, binOp, heq, hr]
        · simp only at hr
          simp [e1, e2, eqGuard, b2, binOp, heq]
          rw [← hr]
          simp
      | _ => simp [hu] at hB
theorem One.neInts {r : Option Nat} {P : Program} {ops : Array Oper} {i : Nat} {s : St} {t t' : TypeId} {x y : Operand} (xs ys : List Int) {b : Bool} (h : opAt ops i s = some (.binOp .neq t x y t')) (hB : intsB P t xs.length = true) (hl : ys.length = xs.length)
    (hx : s.ev x = .agg (xs.map fun z => .ic (I z))) (hy : s.ev y = .agg (ys.map fun z => .ic (I z))) (hr : (!decide (xs = ys)) = b) : One r P ops i s (.ic (.lit (.bool b))) s.st :=
  .does h rfl fun o hop => (does_cmpInts .neq (.inr rfl) t x y xs ys hB hl hx hy b hr).congr fun ρ => by simp only [execOp, hop]
theorem One.eqInts {r : Option Nat} {P : Program} {ops : Array Oper} {i : Nat} {s : St} {t t' : TypeId} {x y : Operand} (xs ys : List Int) {b : Bool} (h : opAt ops i s = some (.binOp .eql t x y t')) (hB : intsB P t xs.length = true) (hl : ys.length = xs.length)
    (hx : s.ev x = .agg (xs.map fun z => .ic (I z))) (hy : s.ev y = .agg (ys.map fun z => .ic (I z))) (hr : decide (xs = ys) = b) : One r P ops i s (.ic (.lit (.bool b))) s.st :=
  .does h rfl fun o hop => (does_cmpInts .eql (.inl rfl) t x y xs ys hB hl hx hy b hr).congr fun ρ => by simp only [execOp, hop]
end Go.Proofs.Ytpphdaphbkepfaa.Aw
