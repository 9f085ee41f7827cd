/- The abstract walk, part 8: cuts, new slices, append, copy, stores into rows of the call's own. -/
import Derived.Test.YtpphdaphbkepfaaAw7
set_option linter.unusedVariables false
set_option linter.unusedSimpArgs false
namespace Go.Proofs.Ytpphdaphbkepfaa.Aw
open Go Go.RowKit

theorem IR.cut {w : World} {ok : Nat → Prop} {sz : Nat} {ex : Bool} {xs : List (List IC)} {v : Value} (h : IR w ok (.sl sz ex xs) v) :
    ∃ A c, v = .slice A xs.length c ∧ xs.length ≤ c ∧ c ≤ maxLen ∧ ∀ (l hh m : Nat) (ex' : Bool), l ≤ hh → hh ≤ xs.length → hh ≤ m → m ≤ c → (ex' = true → m = hh) → IR w ok (.sl sz ex' ((xs.take hh).drop l)) (sliced A l hh m sz) := by
  obtain ⟨A, c, cs, rfl, h1, h2, h3, hf, hc⟩ := h.flat
  refine ⟨A, c, rfl, h1, h2, fun l hh m ex' hl hlen hm hmc hx => ?_⟩
  have hlen' : ((xs.take hh).drop l).length = hh - l := by simp; omega
  unfold sliced
  by_cases e : hh = l
  · have : (xs.take hh).drop l = [] := List.length_eq_zero_iff.1 (by omega)
    rw [this, show hh - l = 0 by omega]
    exact .nil _ _ _ _ (fun hx' => by have := hx hx'; omega) (by omega)
  · rw [if_neg (by omega)]
    cases h with
    | nil => simp at hlen; omega
    | sl _ _ _ b o c val hb hl' hc' hx' hok hsz hcell hin =>
      rw [Option.map_some, add_block, ← hlen']
      have hget : ∀ (j : Nat) (r : List IC), ((xs.take hh).drop l)[j]? = some r → xs[l + j]? = some r := fun j r hj => by
        rw [List.getElem?_drop, List.getElem?_take] at hj
        split at hj
        · exact hj
        · simp at hj
      refine .sl sz ex' _ b (o + l * sz) (m - l) (fun j i => val (l + j) i) hb (by omega) (by omega) (fun hx1 => by have := hx hx1; omega) hok (fun j r hj => hsz _ r (hget j r hj)) (fun j r i x hj hi => ?_) (fun j r i x hj hi => hin _ r i x (hget j r hj) hi)
      have := hcell _ r i x (hget j r hj) hi
      rw [add_block] at this ⊢
      rw [← this]
      congr 2
      rw [Nat.add_mul]
      omega

section cuts
variable {P : Program} {s : St} (t e : TypeId) (x : Operand) (sz : Nat) (ex : Bool) (xs : List (List IC))
theorem elem_of (hk : (tyi P t).k = .slice e) : P.elem t = e := by simp [Program.elem, tk_slice hk]

theorem does_cut (ht : (tyi P t).there = true) (hk : (tyi P t).k = .slice e) (hsz : (tyi P e).size = sz) (hx : s.ev x = .ic (.sl sz ex xs)) (lo hi mx : Option Operand) (l h : Nat) (m : Option Nat) (ex' : Bool) (hlh : l ≤ h) (hlen : h ≤ xs.length) (hm : ∀ q, m = some q → q = h) (hex : ex' = true → m = some h)
    (hb : ∀ (w : World) (a : Act) G g c, Rel G s g w a → xs.length ≤ c → (Instr.sliceBounds true xs.length c (lo.map a.eval) (hi.map a.eval) (mx.map a.eval)).run P w = .ok (l, h, m.getD c) w) :
    Does P s (fun ρ => do pure (.value (← Instr.sliceAt t (ρ x) (lo.map ρ) (hi.map ρ) (mx.map ρ)))) (.ic (.sl sz ex' ((xs.take h).drop l))) s.st :=
  .pure fun G g w a hrel => by
    have hr := hrel.ev x
    rw [hx] at hr
    obtain ⟨A, c, ev, h1, h2, hcut⟩ := hr.ic_inv.cut
    have hu : P.underlying t = some (.slice (P.elem t)) := by rw [elem_of t e hk]; exact tk_slice hk
    have hs := run_size (there_elem ht (tk_slice hk)) w
    have hz : P.cellsOf e = sz := hsz
    rw [hz] at hs
    have hmc : h ≤ m.getD c ∧ m.getD c ≤ c := by
      cases m with
      | none => exact ⟨by simp; omega, Nat.le_refl _⟩
      | some q => have := hm q rfl; subst this; exact ⟨Nat.le_refl _, by simp; omega⟩
    refine ⟨sliced A l h (m.getD c) sz, ?_, .ic _ _ (hcut l h (m.getD c) ex' hlh hlen hmc.1 hmc.2 (fun hx' => by rw [hex hx']; rfl))⟩
    simp only [Sem.run_bind, ev, run_sliceAt_slice w t _ _ _ _ hu, run_slice_any w t _ _ _ hu, hb w a G g c hrel h1, Result.andThen_ok, elem_of t e hk, hs, Sem.run_pure]

theorem bound_run {y : Operand} {k : IntKind} {n : Int} {G : Nat → Prop} {g : Ghost} {w : World} {a : Act} (hr : Rel G s g w a) (hy : s.ev y = .ic (.lit (.int k n))) : a.eval y = .int k n := by
  have h := hr.ev y
  rw [hy] at h
  exact h.lit_inv

theorem does_cut_lh {y z : Operand} {k k' : IntKind} {l h : Int} (ht : (tyi P t).there = true) (hk : (tyi P t).k = .slice e) (hsz : (tyi P e).size = sz) (hx : s.ev x = .ic (.sl sz ex xs)) (hy : s.ev y = .ic (.lit (.int k l))) (hz : s.ev z = .ic (.lit (.int k' h)))
    (h0 : 0 ≤ l) (h1 : l ≤ h) (h2 : h ≤ (xs.length : Int)) : Does P s (fun ρ => do pure (.value (← Instr.sliceAt t (ρ x) ((some y).map ρ) ((some z).map ρ) ((none : Option Operand).map ρ)))) (.ic (.sl sz false ((xs.take h.toNat).drop l.toNat))) s.st :=
  does_cut t e x sz ex xs ht hk hsz hx (some y) (some z) none l.toNat h.toNat none false (by omega) (by omega) (by simp) (by simp) fun w a G g c hr hc => by
    have e1 : (h.toNat : Int) = h := Int.toNat_of_nonneg (by omega)
    simp [bound_run hr hy, bound_run hr hz, Instr.sliceBounds, run_sliceBound, h0, h1, e1, (by omega : 0 ≤ h), (by omega : h ≤ (c : Int))]
theorem does_cut_h {z : Operand} {k' : IntKind} {h : Int} (ht : (tyi P t).there = true) (hk : (tyi P t).k = .slice e) (hsz : (tyi P e).size = sz) (hx : s.ev x = .ic (.sl sz ex xs)) (hz : s.ev z = .ic (.lit (.int k' h)))
    (h0 : 0 ≤ h) (h2 : h ≤ (xs.length : Int)) : Does P s (fun ρ => do pure (.value (← Instr.sliceAt t (ρ x) ((none : Option Operand).map ρ) ((some z).map ρ) ((none : Option Operand).map ρ)))) (.ic (.sl sz false (xs.take h.toNat))) s.st := by
  have := does_cut (P := P) (s := s) t e x sz ex xs ht hk hsz hx none (some z) none 0 h.toNat none false (by omega) (by omega) (by simp) (by simp) fun w a G g c hr hc => by
    simp [bound_run hr hz, Instr.sliceBounds, run_sliceBound, h0, (by omega : h ≤ (c : Int))]
  simpa using this
theorem does_cut_l {y : Operand} {k : IntKind} {l : Int} (ht : (tyi P t).there = true) (hk : (tyi P t).k = .slice e) (hsz : (tyi P e).size = sz) (hx : s.ev x = .ic (.sl sz ex xs)) (hy : s.ev y = .ic (.lit (.int k l)))
    (h0 : 0 ≤ l) (h2 : l ≤ (xs.length : Int)) : Does P s (fun ρ => do pure (.value (← Instr.sliceAt t (ρ x) ((some y).map ρ) ((none : Option Operand).map ρ) ((none : Option Operand).map ρ)))) (.ic (.sl sz false (xs.drop l.toNat))) s.st := by
  have := does_cut (P := P) (s := s) t e x sz ex xs ht hk hsz hx (some y) none none l.toNat xs.length none false (by omega) (by omega) (by simp) (by simp) fun w a G g c hr hc => by
    simp [bound_run hr hy, Instr.sliceBounds, run_sliceBound, h0, h2]
  simpa using this
/-- xs[:len(xs):len(xs)] -/
theorem does_clip {y z : Operand} {k k' : IntKind} (ht : (tyi P t).there = true) (hk : (tyi P t).k = .slice e) (hsz : (tyi P e).size = sz) (hx : s.ev x = .ic (.sl sz ex xs)) (hy : s.ev y = .ic (.lit (.int k (xs.length : Int)))) (hz : s.ev z = .ic (.lit (.int k' (xs.length : Int)))) :
    Does P s (fun ρ => do pure (.value (← Instr.sliceAt t (ρ x) ((none : Option Operand).map ρ) ((some y).map ρ) ((some z).map ρ)))) (.ic (.sl sz true xs)) s.st := by
  have := does_cut (P := P) (s := s) t e x sz ex xs ht hk hsz hx none (some y) (some z) 0 xs.length (some xs.length) true (by omega) (by omega) (by simp) (by simp) fun w a G g c hr hc => by
    simp [bound_run hr hy, bound_run hr hz, Instr.sliceBounds, run_sliceBound, hc]
  simpa using this
end cuts

theorem does_strcut {P : Program} {s : St} (t : TypeId) (x : Operand) (b : ByteArray) (lo hi : Option Operand) (l h : Nat) (hk : (tyi P t).k = .string) (hx : s.ev x = .ic (.lit (.string b))) (hlh : l ≤ h) (hlen : h ≤ b.size)
    (hl : match lo with | none => l = 0 | some y => ∃ k, s.ev y = .ic (.lit (.int k (l : Int)))) (hh : match hi with | none => h = b.size | some y => ∃ k, s.ev y = .ic (.lit (.int k (h : Int)))) :
    Does P s (fun ρ => do pure (.value (← Instr.sliceAt t (ρ x) (lo.map ρ) (hi.map ρ) ((none : Option Operand).map ρ)))) (.ic (.lit (.string (b.extract l h)))) s.st :=
  .pure fun G g w a hrel => by
    have hr := hrel.ev x
    rw [hx] at hr
    refine ⟨_, ?_, .ic _ _ (.lit _ rfl)⟩
    have e := hr.lit_inv
    have hu := tk_string hk
    cases lo with
    | none =>
      subst hl
      cases hi with
      | none => subst hh; simp [e, run_sliceAt_string w t _ _ _ _ hu, Instr.slice, run_underlying hu, Instr.sliceBounds]
      | some y =>
        obtain ⟨k, hy⟩ := hh
        simp [e, bound_run hrel hy, run_sliceAt_string w t _ _ _ _ hu, Instr.slice, run_underlying hu, Instr.sliceBounds, run_sliceBound, hlen]
    | some z =>
      obtain ⟨k, hz⟩ := hl
      cases hi with
      | none =>
        subst hh
        simp [e, bound_run hrel hz, run_sliceAt_string w t _ _ _ _ hu, Instr.slice, run_underlying hu, Instr.sliceBounds, run_sliceBound, hlh]
      | some y =>
        obtain ⟨k', hy⟩ := hh
        simp [e, bound_run hrel hy, bound_run hrel hz, run_sliceAt_string w t _ _ _ _ hu, Instr.slice, run_underlying hu, Instr.sliceBounds, run_sliceBound, hlh, hlen]

/-! ### append -/
/-- What stands second in an append. -/
theorem src_of {P : Program} {G : Nat → Prop} {s : List AObj} {g : Ghost} {w : World} {v : Value} {sz : Nat} {ex : Bool} {ys : List (List IC)} {tx e : TypeId} (hk : P.underlying tx = some (.slice e)) (h : IR w G (.sl sz ex ys) v) :
    ∃ ds, Src P sz tx v ys.length ds w ∧ Flat w G sz ys ds := by
  obtain ⟨A, c, cs, rfl, h1, h2, h3, hf, hc⟩ := h.flat
  refine ⟨cs, ?_, hf⟩
  cases A with
  | some a =>
    by_cases hz : cs = []
    · subst hz
      have := hf.len
      simp only [List.length_nil] at this
      exact Src.ofSlice (P := P) w hk a ys.length c [] (by simpa using this) (by simp) (by simp)
    · obtain ⟨u, r, rfl⟩ := List.exists_cons_of_ne_nil hz
      obtain ⟨b, o, ha, _⟩ := hc 0 u rfl
      obtain rfl : a = ⟨b, o, none⟩ := by simpa using ha
      refine Src.ofSlice (P := P) w hk ⟨b, o, none⟩ ys.length c _ hf.len (fun j q hj => ?_) hf.one
      obtain ⟨b', o', ha', hq⟩ := hc j q hj
      simp only [Option.some.injEq, Addr.mk.injEq, and_true] at ha'
      obtain ⟨rfl, rfl⟩ := ha'
      rw [add_block]
      exact hq
  | none =>
    have : cs = [] := by
      cases cs with
      | nil => rfl
      | cons u r => obtain ⟨b, o, ha, _⟩ := hc 0 u rfl; simp at ha
    subst this
    by_cases hy : ys = []
    · subst hy
      exact Src.ofNil (P := P) w hk c
    · cases h with
      | nil => simp at hy

/-- A block that a slice's cells begin. -/
theorem fresh_ir {w' : World} {G : Nat → Prop} {sz : Nat} {zs : List (List IC)} {cs : List Value} (hf : Flat w' G sz zs cs) {b c : Nat} {arr : Array Value} {e : TypeId} (hb : w'.heap[b]? = some (.cells arr e (0, 0))) (hG : G b) (hl : zs.length ≤ c) (hc : c ≤ maxLen) (hp : arr.toList.take cs.length = cs) (ex : Bool) (hx : ex = true → c = zs.length) :
    IR w' G (.sl sz ex zs) (.slice (some ⟨b, 0, none⟩) zs.length c) := by
  refine hf.ir ex b 0 c (Array.getElem?_eq_some_iff.1 hb).1 hG hl hc hx fun j u hj => ?_
  simp only [World.cell?, hb, Nat.zero_add]
  rw [← hp, List.getElem?_take] at hj
  split at hj
  · simpa using hj
  · simp at hj

theorem IR.nil_sz {w : World} {ok : Nat → Prop} {sz sz' : Nat} {ex : Bool} {v : Value} (h : IR w ok (.sl sz' ex []) v) : IR w ok (.sl sz ex []) v := by
  obtain ⟨A, c, rfl, h1, h2, h3⟩ := h.slice
  exact .nil _ _ _ _ h3 h2

/-- append to a slice without room: what comes is new data. -/
theorem does_appendX {P : Program} {s : St} (t ty e : TypeId) (x y : Operand) (sz sz' : Nat) (ex : Bool) (xs ys : List (List IC)) (ht : (tyi P t).there = true) (hk : (tyi P t).k = .slice e) (hsz : (tyi P e).size = sz) (hz : (tyi P e).zero.isSome = true)
    (hx : s.ev x = .ic (.sl sz' true xs)) (hs' : sz' = sz ∨ xs = []) (hy : s.ev y = .ic (.sl sz ex ys)) (hn : (xs.length + ys.length) * (tyi P e).bytes ≤ 140737488355328) (hm : xs.length + ys.length ≤ maxLen) :
    Does P s (bcall (call1 .append #[x, y] #[t, t]) ty) (.ic (.sl sz false (xs ++ ys))) s.st := fun G g w a hrel => by
  have h1 := hrel.ev x
  rw [hx] at h1
  have h2 := hrel.ev y
  rw [hy] at h2
  have hu := tk_slice hk
  have hthere := there_elem ht hu
  obtain ⟨i0, hi0⟩ := info_there hthere
  have hsize : i0.size = sz := by have : P.cellsOf e = sz := hsz; simpa [Program.cellsOf, hi0] using this
  obtain ⟨z, hz0⟩ : ∃ z, i0.zero = some z := by
    simp only [tyi, hi0, Option.bind_some, Option.isSome_map] at hz
    exact Option.isSome_iff_exists.1 hz
  have hb : (tyi P e).bytes = i0.bytes := by simp [tyi, Program.bytesOf, hi0]
  rw [hb] at hn
  have i1 : IR w (Good G s.st g) (.sl sz true xs) (a.eval x) := by
    rcases hs' with rfl | rfl
    · exact h1.ic_inv
    · exact h1.ic_inv.nil_sz
  obtain ⟨A, c, cs, ev, hlc, hcm, hcx, hf, hcell⟩ := i1.flat
  obtain ⟨ds, hsrc, hfd⟩ := src_of (s := s.st) (g := g) hu h2.ic_inv
  obtain rfl := hcx rfl
  by_cases hys : ys.length = 0
  · -- nothing is added
    have hyn : ys = [] := List.length_eq_zero_iff.1 hys
    subst hyn
    have hds : ds = [] := by have := hfd.len; simp at this; exact this
    subst hds
    refine ⟨.value (.slice A xs.length xs.length), _, g, w, ?_, .inl rfl, .refl _ _ _, hrel.sr, ?_⟩
    · have hcells := hsrc.cells
      simp only [List.length_nil] at hcells
      cases A with
      | none => simp [bcall, resolve, invoke, builtin, ev, Builtin.append_, run_underlying hu, sizeOf, typeInfo, hi0, hsrc.len, hsize, hcells]
      | some ad => simp [bcall, resolve, invoke, builtin, ev, Builtin.append_, run_underlying hu, sizeOf, typeInfo, hi0, hsrc.len, hsize, hcells, storeCells]
    · rw [List.append_nil, ← ev]
      exact .ic _ _ i1.inexact
  · have hg : xs.length < xs.length + ys.length := by omega
    have hold : (Builtin.firstCells i0.size xs.length (.slice A xs.length xs.length)).run P w.drew = .ok cs.toArray w.drew := by
      rw [hsize]
      cases A with
      | none =>
        have : cs = [] := by
          cases cs with
          | nil => rfl
          | cons u r => obtain ⟨b, o, ha, _⟩ := hcell 0 u rfl; simp at ha
        subst this
        exact run_firstCells_none _ _ _ _ _
      | some ad =>
        refine run_firstCells_some _ _ _ _ _ _ _ hf.len fun j u hj => ?_
        obtain ⟨b, o, ha, hq⟩ := hcell j u hj
        obtain rfl : ad = ⟨b, o, none⟩ := by simpa using ha
        rw [add_block]
        exact hq
    subst hsize
    have hrun := run_append_grow_src (P := P) w t t ty e i0 z hu hi0 hz0 A xs.length xs.length cs hold (a.eval y) ys.length ds hsrc hg (by simp only [maxLen] at hm; omega) (growslice_fits hg hn)
    have hevo : Evo s.st g w s.st g (w.drew.alloc (.cells ((cs ++ ds).toArray ++ Builtin.zeroCells z.cells (grownCap w (xs.length + ys.length) xs.length e - (xs.length + ys.length))) e)) := .below ⟨rfl, rfl, rfl, by simp, fun k hk => Below.heap_alloc w.drew _ k hk⟩
    refine ⟨.value (.slice (some ⟨w.heap.size, 0, none⟩) (xs.length + ys.length) (grownCap w (xs.length + ys.length) xs.length e)), .slice (some ⟨w.heap.size, 0, none⟩) (xs.length + ys.length) (grownCap w (xs.length + ys.length) xs.length e), g, _, ?_, .inl rfl, hevo, hrel.sr.below ⟨rfl, rfl, rfl, by simp, fun k hk => Below.heap_alloc w.drew _ k hk⟩, .ic _ _ ?_⟩
    · simp only [bcall, resolve, List.map_toArray, List.map_cons, List.map_nil, ev, Sem.run_bind, Sem.run_pure, Result.andThen_ok, invoke, builtin, hrun]
    · have hflat := (hf.append hfd).mono fun x v h => IR.evo h hevo
      have hl : (xs ++ ys).length = xs.length + ys.length := by simp
      have := fresh_ir (c := grownCap w (xs.length + ys.length) xs.length e) hflat (heap_alloc_new w.drew _) ⟨hrel.sr.new _ (Nat.le_refl _), fun ho => by have := Own.lt hrel.sr ho; exact Nat.lt_irrefl _ this⟩
        (by rw [hl]; exact grownCap_ge _ _ _ _) (grownCap_le_maxLen _ _ _ _ hm) (by simp only [Array.toList_append]; exact List.take_left) false (by simp)
      rw [hl] at this
      exact this

end Go.Proofs.Ytpphdaphbkepfaa.Aw
