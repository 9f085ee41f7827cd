/- The abstract walk, part 24: a law's arguments out of the row's data. -/
import Derived.Test.YtpphdaphbkepfaaAw23
import Derived.WideShapes
import Derived.ChangeMaps5
set_option linter.unusedVariables false
set_option linter.unusedSimpArgs false
namespace Go.Proofs.Ytpphdaphbkepfaa.Aw
open Go Go.RowKit Go.WideShapes
section args
variable {H : Type} {enc : TypeId × Value → H} {P : Program} {W : World}
abbrev below (W : World) : Nat → Prop := fun b => b < W.heap.size
theorem argSt {t : TypeId} {base : Nat} {v : Value} {d : DataW H} {ps : List MemPlace} (ss : List Sh) {flds : Array Field} (hu : P.underlying t = some (.struct flds)) (hB : shB P (.st ss) t = true) (hok : Value.okWide P W .any base t v)
    (h : DataW.Trod enc P W 0 (fun _ => true) true t v d ps) (hw : (d.weights P t).all (· ≤ reachBytes) = true) : ∃ ics, Decs ss ics ∧ PR W (below W) (.agg ics) v := by
  obtain ⟨cs, rfl, _⟩ := okWide_struct hu hok
  obtain ⟨fuel, hf⟩ := h
  obtain ⟨ics, h1, h2, _⟩ := dec (.st ss) t fuel _ (d, ps) hB hf hw
  refine ⟨ics, h1, .agg _ _ (by rw [h2.1]; simp [Value.cells]) fun k x hk => ?_⟩
  have hlt : k < cs.size := by
    have := (List.getElem?_eq_some_iff.1 hk).1
    rw [h2.1] at this
    simpa [Value.cells] using this
  refine h2.2 k x _ hk ?_
  simp [Value.cells, hlt]
theorem argSl {t e : TypeId} {base : Nat} {v : Value} {d : DataW H} {ps : List MemPlace} (b : Nat) (s : Sh) (hu : P.underlying t = some (.slice e)) (hB : shB P (.sl b s) t = true) (hok : Value.okWide P W .any base t v)
    (h : DataW.Trod enc P W 0 (fun _ => true) true t v d ps) (hw : (d.weights P t).all (· ≤ reachBytes) = true) : ∃ x, Dec (.sl b s) [x] ∧ PR W (below W) (.c x) v := by
  obtain ⟨a, l, c, rfl⟩ := okWide_slice hu hok
  obtain ⟨fuel, hf⟩ := h
  obtain ⟨ics, h1, h2, _⟩ := dec (.sl b s) t fuel _ (d, ps) hB hf hw
  have hx : ∃ x, ics = [x] := by
    have := h2.1
    simp only [Value.cells, List.length_cons, List.length_nil] at this
    match ics, this with
    | [x], _ => exact ⟨x, rfl⟩
  obtain ⟨x, rfl⟩ := hx
  exact ⟨x, h1, .c _ _ (h2.2 0 x _ rfl rfl)⟩
theorem argInt {W : World} (k : IntKind) (n : Int) : PR W (below W) (.c (.lit (.int k n))) (.int k n) := .c _ _ (.lit _ rfl)
theorem argBool {W : World} (b : Bool) : PR W (below W) (.c (.lit (.bool b))) (.bool b) := .c _ _ (.lit _ rfl)
theorem argStr {W : World} (b : ByteArray) : PR W (below W) (.c (.lit (.string b))) (.string b) := .c _ _ (.lit _ rfl)
end args
theorem decInts {rows : List (List IC)} (h : ∀ r ∈ rows, Dec (.int .i64) r) : ∃ l : List Int, rows = (l.map fun z => [I z]) ∧ ∀ z ∈ l, (Lit.int .i64 z).wf = true := by
  induction rows with
  | nil => exact ⟨[], rfl, by simp⟩
  | cons r rs ih =>
    obtain ⟨l, rfl, hl⟩ := ih fun r hr => h r (List.mem_cons_of_mem _ hr)
    obtain ⟨n, rfl, hn⟩ := h r List.mem_cons_self
    refine ⟨n :: l, rfl, fun z hz => ?_⟩
    rcases List.mem_cons.1 hz with rfl | hz
    · exact hn
    · exact hl z hz
theorem decPairs {rows : List (List IC)} (h : ∀ r ∈ rows, Dec (.st [.int .i64, .int .i64]) r) : ∃ l : List (Int × Int), rows = (l.map fun z => [I z.1, I z.2]) ∧ ∀ z ∈ l, (Lit.int .i64 z.1).wf = true ∧ (Lit.int .i64 z.2).wf = true := by
  induction rows with
  | nil => exact ⟨[], rfl, by simp⟩
  | cons r rs ih =>
    obtain ⟨l, rfl, hl⟩ := ih fun r hr => h r (List.mem_cons_of_mem _ hr)
    obtain ⟨a, b, rfl, ⟨n, rfl, hn⟩, c, d, rfl, ⟨m, rfl, hm⟩, rfl⟩ := h r List.mem_cons_self
    refine ⟨(n, m) :: l, rfl, fun z hz => ?_⟩
    rcases List.mem_cons.1 hz with rfl | hz
    · exact ⟨hn, hm⟩
    · exact hl z hz
theorem pr_true {W' : World} {ok : Nat → Prop} {v : Value} (h : PR W' ok (.c (.lit (.bool true))) v) : v = .bool true := by
  cases h with
  | c x v h => cases h with | lit v h => rfl
end Go.Proofs.Ytpphdaphbkepfaa.Aw
