/- The abstract walk, part 11: a row of the call's own: append, copy, store, load, cut. -/
import Derived.Test.YtpphdaphbkepfaaAw10
set_option linter.unusedVariables false
set_option linter.unusedSimpArgs false
namespace Go.Proofs.Ytpphdaphbkepfaa.Aw
open Go Go.RowKit

def gset (g : Ghost) (i : Nat) (v : Value) : Ghost := fun j => if j = i then v else g j
theorem gset_same (g : Ghost) (i : Nat) (v : Value) : gset g i v i = v := by simp [gset]
theorem gset_ne (g : Ghost) (i j : Nat) (v : Value) (h : j ≠ i) : gset g i v j = g j := by simp [gset, h]

theorem SR.regrow {G : Nat → Prop} {s : List AObj} {g : Ghost} {w w' : World} (h : SR G s g w) (i : Nat) (ver ver' e sz : Nat) (xs xs' : List (List IC)) (v' : Value) (hi : s[i]? = some (.row true ver e sz xs)) (hg : w.grownBy w' (gb (g i)))
    (hv : gb v' = gb (g i) ∨ ∀ b, gb v' = some b → w.heap.size ≤ b) (hver : ver < ver' ∨ ver = ver' ∧ v' = g i)
    (ho : Evo s g w (s.set i (.row true ver' e sz xs')) (gset g i v') w' → OR G (s.set i (.row true ver' e sz xs')) (gset g i v') w' i (.row true ver' e sz xs')) :
    Evo s g w (s.set i (.row true ver' e sz xs')) (gset g i v') w' ∧ SR G (s.set i (.row true ver' e sz xs')) (gset g i v') w' := by
  have hil : i < s.length := (List.getElem?_eq_some_iff.1 hi).1
  have get : ∀ (j : Nat) (q : AObj), (s.set i (.row true ver' e sz xs'))[j]? = some q → (j = i ∧ q = .row true ver' e sz xs') ∨ (j ≠ i ∧ s[j]? = some q) := fun j q hj => by
    by_cases e' : j = i
    · subst e'
      rw [List.getElem?_set_self hil] at hj
      exact .inl ⟨rfl, by simpa using hj.symm⟩
    · rw [List.getElem?_set_ne (Ne.symm e')] at hj
      exact .inr ⟨e', hj⟩
  have hown : ∀ b, gb (g i) = some b → Own s g b := fun b hb => ⟨i, _, hi, rfl, hb⟩
  have k : Evo s g w (s.set i (.row true ver' e sz xs')) (gset g i v') w' := by
    refine ⟨hg.os, hg.tape, hg.output, hg.size, fun b hb hn => hg.block b hb (fun e => hn (hown b e.symm)), fun b hb ⟨j, p, hj, hpm, hpg⟩ => ?_, by simp, fun j m t cs hj hs => ?_, fun j m ver2 e2 sz2 xs2 hj hs => ?_, fun j c hj hs => ?_⟩
    · rcases get j p hj with ⟨rfl, rfl⟩ | ⟨hne, hj⟩
      · rw [gset_same] at hpg
        rcases hv with hv | hv
        · rw [hv] at hpg; exact hown b hpg
        · have := hv b hpg; omega
      · rw [gset_ne _ _ _ _ hne] at hpg
        exact ⟨j, p, hj, hpm, hpg⟩
    · rcases get j _ hs with ⟨rfl, e⟩ | ⟨hne, hs⟩
      · cases e
      · exact ⟨⟨m, cs, hs⟩, gset_ne _ _ _ _ hne⟩
    · rcases get j _ hs with ⟨rfl, e'⟩ | ⟨hne, hs⟩
      · simp only [AObj.row.injEq] at e'
        obtain ⟨rfl, rfl, rfl, rfl, rfl⟩ := e'
        refine ⟨true, ver, xs, hi, by omega, fun ee => ?_⟩
        rcases hver with hlt | ⟨_, hve⟩
        · omega
        · rw [gset_same, hve]
      · exact ⟨m, ver2, xs2, hs, Nat.le_refl _, fun _ => gset_ne _ _ _ _ hne⟩
    · rcases get j _ hs with ⟨rfl, e'⟩ | ⟨hne, hs⟩
      · cases e'
      · exact ⟨⟨c, hs⟩, gset_ne _ _ _ _ hne⟩
  refine ⟨k, fun j q hj => ?_, fun j1 j2 o1 o2 b' hj1 hj2 l1 l2 b1 b2 => ?_, fun q hq => h.new q (Nat.le_trans hg.size hq)⟩
  · rcases get j q hj with ⟨rfl, rfl⟩ | ⟨hne, hj⟩
    · exact ho k
    · by_cases hl : q.live = true
      · refine (h.obj j q hj).evo k (gset_ne _ _ _ _ hne) (fun b' hb' => hg.block b' ((h.obj j q hj).lt hl hb') (fun e => ?_))
        exact hne (h.inj j i q _ b' hj hi hl rfl hb' e.symm)
      · cases q <;> simp_all [AObj.live]
        trivial
  · have old : ∀ (j : Nat) (q : AObj), (s.set i (.row true ver' e sz xs'))[j]? = some q → q.live = true → gb (gset g i v' j) = some b' → (j = i ∧ gb v' = some b') ∨ (j ≠ i ∧ s[j]? = some q ∧ gb (g j) = some b' ∧ b' < w.heap.size) := by
      intro j q hj hl hb
      rcases get j q hj with ⟨rfl, rfl⟩ | ⟨hne, hj⟩
      · rw [gset_same] at hb; exact .inl ⟨rfl, hb⟩
      · rw [gset_ne _ _ _ _ hne] at hb; exact .inr ⟨hne, hj, hb, (h.obj j q hj).lt hl hb⟩
    have cross : ∀ (j : Nat) (q : AObj), gb v' = some b' → s[j]? = some q → q.live = true → gb (g j) = some b' → b' < w.heap.size → j = i := fun j q hvb hj hl hb hlt => by
      rcases hv with hv | hv
      · rw [hv] at hvb; exact h.inj j i q _ b' hj hi hl rfl hb hvb
      · have := hv b' hvb; omega
    rcases old j1 o1 hj1 l1 b1 with ⟨a1, a2⟩ | ⟨a1, a2, a3, a4⟩ <;> rcases old j2 o2 hj2 l2 b2 with ⟨c1, c2⟩ | ⟨c1, c2, c3, c4⟩
    · omega
    · have := cross j2 o2 a2 c2 l2 c3 c4; omega
    · have := cross j1 o1 c2 a2 l1 a3 a4; omega
    · exact h.inj j1 j2 o1 o2 b' a2 c2 l1 l2 a3 c3

theorem gb_ownBlock {v : Value} {A : Option Addr} {n c : Nat} (h : v = .slice A n c) : gb v = v.ownBlock := by
  subst h
  cases A <;> rfl

/-- append to a row of the call's own. -/
theorem does_appendOwn {P : Program} {s : St} (t ty e : TypeId) (x y : Operand) (i ver sz : Nat) (ex : Bool) (xs ys : List (List IC)) (ht : (tyi P t).there = true) (hk : (tyi P t).k = .slice e) (hsz : (tyi P e).size = sz) (hpos : Nat.blt 0 sz = true) (hz : (tyi P e).zero.map (·.length) = some sz)
    (hx : s.ev x = .own i ver) (hs : s.st[i]? = some (.row true ver e sz xs)) (hy : s.ev y = .ic (.sl sz ex ys)) (hn : (xs.length + ys.length) * (tyi P e).bytes ≤ 140737488355328) (hm : xs.length + ys.length ≤ maxLen) :
    Does P s (bcall (call1 .append #[x, y] #[t, t]) ty) (.own i (ver + 1)) (s.st.set i (.row true (ver + 1) e sz (xs ++ ys))) := fun G g w a hrel => by
  have h1 := hrel.ev x
  rw [hx] at h1
  have h2 := hrel.ev y
  rw [hy] at h2
  have hu := tk_slice hk
  have hthere := there_elem ht hu
  obtain ⟨i0, hi0⟩ := info_there hthere
  have hsize : i0.size = sz := by have : P.cellsOf e = sz := hsz; simpa [Program.cellsOf, hi0] using this
  have hzz : ∃ z, i0.zero = some z ∧ z.cells.size = sz := by
    simp only [tyi, hi0, Option.bind_some, Option.map_map, Option.map_eq_some_iff, Function.comp] at hz
    obtain ⟨z, hz0, hz1⟩ := hz
    exact ⟨z, hz0, by simpa using hz1⟩
  obtain ⟨z, hz0, hzs⟩ := hzz
  have hb : (tyi P e).bytes = i0.bytes := by simp [tyi, Program.bytesOf, hi0]
  rw [hb] at hn
  have hpos := Nat.le_of_ble_eq_true hpos
  obtain ⟨cells, hown, hG, hf⟩ := hrel.sr.obj i _ hs
  have hil : i < s.st.length := (List.getElem?_eq_some_iff.1 hs).1
  generalize hv : a.eval x = v at h1
  cases h1 with
  | own i ver v hi hv' hone =>
    obtain rfl := (hv' _ _ _ _ _ hs).2 rfl
    have hslice : ∃ A n c, g i = .slice A n c := by rcases hown.2 with ⟨e1, _⟩ | ⟨g0, cap, cur, e1, _⟩ <;> exact ⟨_, _, _, e1⟩
    obtain ⟨A0, n0, c0, hgi⟩ := hslice
    have arNew : ∀ g' w' v' (xs' : List (List IC)), v'.oneCell' = true → g' i = v' → AR G (s.st.set i (.row true (ver + 1) e sz xs')) g' w' (.own i (ver + 1)) v' := fun g' w' v' xs' h1 hgv => by
      refine .own _ _ _ (by simpa using hil) (fun m v2 e2 sz2 xs2 h => ?_) h1
      rw [List.getElem?_set_self hil] at h
      simp only [Option.some.injEq, AObj.row.injEq] at h
      obtain ⟨_, rfl, _⟩ := h
      exact ⟨Nat.le_refl _, fun _ => hgv.symm⟩
    by_cases hys : ys = []
    · subst hys
      obtain ⟨k, hsr⟩ := hrel.sr.regrow (w' := w) i ver (ver + 1) e sz xs (xs ++ []) (g i) hs ⟨rfl, rfl, rfl, Nat.le_refl _, fun _ _ _ => rfl⟩ (.inl rfl) (.inl (by omega)) (fun k => ⟨cells, by rw [gset_same, List.append_nil]; exact hown, fun b hb => hG b (by rw [gset_same] at hb; exact hb), by refine Flat.mono ?_ (fun x v h => IR.evo h k); rw [List.append_nil]; exact hf⟩)
      refine ⟨.value (g i), g i, _, w, ?_, .inl rfl, k, hsr, arNew _ _ _ _ hone (gset_same _ _ _)⟩
      obtain ⟨A, c, ev, hc1, hc2, _⟩ := h2.ic_inv.slice
      have hfc : (Builtin.firstCells sz 0 (.slice A 0 c)).run P w = .ok #[] w := by
        cases A with
        | none => exact run_firstCells_none _ _ _ _ _
        | some ad => exact run_firstCells_some (P := P) w sz 0 ad 0 c [] (by simp) (by simp)
      simp only [List.length_nil] at ev
      rcases hown.2 with ⟨e1, _⟩ | ⟨g0, cap, cur, e1, _, _, hle, _⟩
      · simp [bcall, resolve, invoke, builtin, hv, e1, ev, Builtin.append_, run_underlying hu, sizeOf, typeInfo, hi0, hsize, Builtin.lenOf, hfc]
      · simp [bcall, resolve, invoke, builtin, hv, e1, ev, Builtin.append_, run_underlying hu, sizeOf, typeInfo, hi0, hsize, Builtin.lenOf, hfc, hle, storeCells]
    · obtain ⟨A, c, ds, ev, hc1, hc2, _, hfd, hcell⟩ := h2.ic_inv.flat
      have hdl := hfd.len
      have hypos : 0 < ys.length := List.length_pos_iff.2 hys
      have hdpos : 0 < ds.length := by rw [hdl]; exact Nat.mul_pos hypos hpos
      obtain ⟨b, o, rfl, _⟩ := hcell 0 _ (List.getElem?_eq_getElem hdpos)
      obtain ⟨v', w', hrun, hown', hgrow, _, hblk⟩ := run_append_own_at (P := P) w 0 t ty e i0 z sz i0.bytes hu hi0 hz0 hsize rfl hzs hpos (g i) xs.length cells hown ⟨b, o, none⟩ ys.length c ds hdl
        (fun j u hj => by
          obtain ⟨b', o', he, hq⟩ := hcell j u hj
          simp only [Option.some.injEq, Addr.mk.injEq, and_true] at he
          obtain ⟨rfl, rfl⟩ := he
          rw [add_block]; exact hq) hfd.one hm hn (Nat.zero_le _)
      have hv'slice : ∃ A n c, v' = .slice A n c := by rcases hown'.2 with ⟨e1, _⟩ | ⟨g0, cap, cur, e1, _⟩ <;> exact ⟨_, _, _, e1⟩
      obtain ⟨A1, n1, c1, hv1⟩ := hv'slice
      have hb1 := gb_ownBlock hgi
      have hb2 := gb_ownBlock hv1
      obtain ⟨k, hsr⟩ := hrel.sr.regrow (w' := w') i ver (ver + 1) e sz xs (xs ++ ys) v' hs (by rw [hb1]; exact hgrow) (by
          rw [hb1, hb2]
          rcases hblk with h | h
          · exact .inl h
          · exact .inr fun b hb => by rw [h] at hb; simp at hb; omega) (.inl (by omega)) (fun k => ⟨cells ++ ds, by rw [gset_same, List.length_append]; exact hown', fun b hb => by
          rw [gset_same] at hb
          rw [hb2] at hb
          rcases hblk with h | h
          · exact hG b (by rw [hb1, ← h]; exact hb)
          · exact hrel.sr.new b (by rw [h] at hb; simp at hb; omega), (hf.append hfd).mono fun x v h => h.evo k⟩)
      refine ⟨.value v', v', _, w', ?_, .inl rfl, k, hsr, arNew _ _ _ _ (by rw [hv1]; rfl) (gset_same _ _ _)⟩
      simp only [bcall, resolve, List.map_toArray, List.map_cons, List.map_nil, hv, ev, Sem.run_bind, Sem.run_pure, Result.andThen_ok, invoke, builtin, hrun]

/-- row[:k]: the row becomes shorter. -/
theorem does_takeOwn {P : Program} {s : St} (t e : TypeId) (x z : Operand) (i ver sz : Nat) (xs : List (List IC)) (k : IntKind) (n : Int) (ht : (tyi P t).there = true) (hk : (tyi P t).k = .slice e) (hsz : (tyi P e).size = sz)
    (hx : s.ev x = .own i ver) (hs : s.st[i]? = some (.row true ver e sz xs)) (hz : s.ev z = .ic (.lit (.int k n))) (h0 : 0 ≤ n) (h1 : n ≤ (xs.length : Int)) :
    Does P s (fun ρ => do pure (.value (← Instr.sliceAt t (ρ x) ((none : Option Operand).map ρ) ((some z).map ρ) ((none : Option Operand).map ρ)))) (.own i (ver + 1)) (s.st.set i (.row true (ver + 1) e sz (xs.take n.toNat))) := fun G g w a hrel => by
  have h2 := hrel.ev x
  rw [hx] at h2
  have hu : P.underlying t = some (.slice (P.elem t)) := by rw [elem_of t e hk]; exact tk_slice hk
  have hss := run_size (P := P) (there_elem ht (tk_slice hk)) w
  obtain ⟨cells, hown, hG, hf⟩ := hrel.sr.obj i _ hs
  have hil : i < s.st.length := (List.getElem?_eq_some_iff.1 hs).1
  generalize hv : a.eval x = v at h2
  cases h2 with
  | own i ver v hi hv' hone =>
    obtain rfl := (hv' _ _ _ _ _ hs).2 rfl
    have hflat : ∀ w' G', Flat w' G' sz xs cells → Flat w' G' sz (xs.take n.toNat) (cells.take (n.toNat * sz)) := fun w' G' hf => by
      have hl := hf.len
      refine ⟨?_, fun j r hj => ?_, fun j r q y hj hq => ?_, fun u hu => hf.one u (List.mem_of_mem_take hu)⟩
      · rw [List.length_take, List.length_take, hl, Nat.min_eq_left (Nat.mul_le_mul_right _ (show n.toNat ≤ xs.length by omega)), Nat.min_eq_left (show n.toNat ≤ xs.length by omega)]
      · rw [List.getElem?_take] at hj
        split at hj
        · exact hf.rows j r hj
        · simp at hj
      · rw [List.getElem?_take] at hj
        split at hj
        · rename_i hjn
          obtain ⟨u, hu, hr⟩ := hf.rel j r q y hj hq
          have hq' : q < sz := by have := (List.getElem?_eq_some_iff.1 hq).1; have := hf.rows j r hj; omega
          refine ⟨u, ?_, hr⟩
          rw [List.getElem?_take, if_pos (place_lt hjn hq')]
          exact hu
        · simp at hj
    have hlen : (xs.take n.toNat).length = n.toNat := by simp; omega
    rcases hown.2 with ⟨e1, e2⟩ | ⟨g0, cap, cur, e1, e3, e4, e5, e6, e7, e8⟩
    · have hn0 : n.toNat = 0 := by omega
      have hown' : w.ownsRow 0 e sz (.slice none 0 0) (xs.take n.toNat).length (cells.take (n.toNat * sz)) := by rw [hlen, hn0]; simp; exact World.ownsRow_nil _ _ _ _
      obtain ⟨kk, hsr⟩ := hrel.sr.regrow (w' := w) i ver (ver + 1) e sz xs (xs.take n.toNat) (.slice none 0 0) hs ⟨rfl, rfl, rfl, Nat.le_refl _, fun _ _ _ => rfl⟩ (.inl (by rw [e1])) (.inl (by omega)) (fun k => ⟨cells.take (n.toNat * sz), by rw [gset_same]; exact hown', fun b hb => by rw [gset_same] at hb; simp [gb] at hb, (hflat _ _ hf).mono fun x v h => h.evo k⟩)
      refine ⟨.value (.slice none 0 0), .slice none 0 0, _, w, ?_, .inl rfl, kk, hsr, .own _ _ _ (by simpa using hil) (fun m v2 e2 sz2 xs2 h => ?_) rfl⟩
      · have hnz : n = 0 := by omega
        subst hnz
        simp only [Option.map_none, Option.map_some, hv, e1, bound_run hrel hz, Sem.run_bind, run_sliceAt_slice w t _ _ _ _ hu, run_slice_h w t _ _ _ hu k 0 (by omega) (by simp), elem_of t e hk, hss, Result.andThen_ok, Sem.run_pure, sliced]
        simp
      · rw [List.getElem?_set_self hil] at h
        simp only [Option.some.injEq, AObj.row.injEq] at h
        obtain ⟨_, rfl, _⟩ := h
        exact ⟨Nat.le_refl _, fun _ => (gset_same _ _ _).symm⟩
    · have hown' : w.ownsRow 0 e sz (.slice (some ⟨g0, 0, none⟩) n.toNat cap) (xs.take n.toNat).length (cells.take (n.toNat * sz)) := by
        refine ⟨?_, .inr ⟨g0, cap, cur, by rw [hlen], Nat.zero_le _, e4, by rw [hlen]; omega, e6, e7, ?_⟩⟩
        · rw [hlen, List.length_take, hown.1, Nat.min_eq_left (Nat.mul_le_mul_right _ (by omega))]
        · rw [hlen, ← e8, List.take_take, Nat.min_eq_left (Nat.mul_le_mul_right _ (by omega))]
      obtain ⟨kk, hsr⟩ := hrel.sr.regrow (w' := w) i ver (ver + 1) e sz xs (xs.take n.toNat) (.slice (some ⟨g0, 0, none⟩) n.toNat cap) hs ⟨rfl, rfl, rfl, Nat.le_refl _, fun _ _ _ => rfl⟩ (.inl (by rw [e1]; rfl)) (.inl (by omega)) (fun k => ⟨cells.take (n.toNat * sz), by rw [gset_same]; exact hown', fun b hb => by rw [gset_same] at hb; exact hG b (by rw [e1]; exact hb), (hflat _ _ hf).mono fun x v h => h.evo k⟩)
      refine ⟨.value (.slice (some ⟨g0, 0, none⟩) n.toNat cap), .slice (some ⟨g0, 0, none⟩) n.toNat cap, _, w, ?_, .inl rfl, kk, hsr, .own _ _ _ (by simpa using hil) (fun m v2 e2 sz2 xs2 h => ?_) rfl⟩
      · simp only [Option.map_none, Option.map_some, hv, e1, bound_run hrel hz, Sem.run_bind, run_sliceAt_slice w t _ _ _ _ hu, run_slice_h w t (some ⟨g0, 0, none⟩) xs.length cap hu k n h0 (by omega), elem_of t e hk, hss, Result.andThen_ok, Sem.run_pure, sliced]
        simp [add_block]
      · rw [List.getElem?_set_self hil] at h
        simp only [Option.some.injEq, AObj.row.injEq] at h
        obtain ⟨_, rfl, _⟩ := h
        exact ⟨Nat.le_refl _, fun _ => (gset_same _ _ _).symm⟩

/-- The cells of a row that is there. -/
theorem row_block {G : Nat → Prop} {s : List AObj} {g : Ghost} {w : World} {i : Nat} {m : Bool} {ver e sz : Nat} {xs : List (List IC)} {v : Value} {j o : Nat} (h : AR G s g w (.rat i ver j o) v) (hs : s[i]? = some (.row m ver e sz xs)) (hr : SR G s g w) (hj : j < xs.length) :
    ∃ g0 cap cur cells, v = .pointer (some ⟨g0, j * sz + o, none⟩) ∧ g i = .slice (some ⟨g0, 0, none⟩) xs.length cap ∧ w.heap[g0]? = some (.cells cur e (0, 0)) ∧ xs.length ≤ cap ∧ cap ≤ maxLen ∧ cur.size = cap * sz ∧ cur.toList.take (xs.length * sz) = cells ∧ Flat w (Good G s g) sz xs cells ∧ G g0 := by
  cases h with
  | rat i ver j off v hi hv h1 =>
    obtain ⟨b, e1, e2⟩ := (hv _ _ _ _ _ hs).2 rfl
    obtain ⟨cells, hown, hG, hf⟩ := hr.obj i _ hs
    rcases hown.2 with ⟨f1, f2⟩ | ⟨g0, cap, cur, f1, f3, f4, f5, f6, f7, f8⟩
    · omega
    · rw [f1] at e1
      obtain rfl : g0 = b := by simpa [gb] using e1
      exact ⟨g0, cap, cur, cells, e2, f1, f4, f5, f6, f7, f8, hf, hG g0 (by rw [f1]; rfl)⟩

theorem does_loadRat {P : Program} {s : St} (t : TypeId) (x : Operand) (i ver j o e sz : Nat) (m : Bool) (xs : List (List IC)) (row : List IC) (r : AV) (ht : (tyi P t).there = true) (hx : s.ev x = .rat i ver j o) (hs : s.st[i]? = some (.row m ver e sz xs)) (hrow : xs[j]? = some row)
    (hr : bif (tyi P t).agg then Nat.ble (o + (tyi P t).size) row.length = true ∧ r = .agg (((row.drop o).take (tyi P t).size).map .ic) else row[o]?.map AV.ic = some r) : Does P s (fun ρ => do pure (.value (← Instr.loadAt t (ρ x)))) r s.st :=
  .pure fun G g w a hrel => by
    have h := hrel.ev x
    rw [hx] at h
    have hj := (List.getElem?_eq_some_iff.1 hrow).1
    obtain ⟨g0, cap, cur, cells, e1, e2, e3, e4, e5, e6, e7, hf, hG⟩ := row_block h hs hrel.sr hj
    have hcell : ∀ (k : Nat) (y : IC), row[k]? = some y → ∃ u, w.cell? ⟨g0, j * sz + k, none⟩ = some u ∧ IR w (Good G s.st g) y u := fun k y hk => by
      obtain ⟨u, hu, hir⟩ := hf.rel j row k y hrow hk
      refine ⟨u, ?_, hir⟩
      rw [← e7, List.getElem?_take] at hu
      split at hu
      · simpa [World.cell?, e3] using hu
      · simp at hu
    rw [agg_tyi] at hr
    have hsz : (tyi P t).size = P.cellsOf t := rfl
    rw [hsz] at hr
    cases hag : aggB P t with
    | true =>
      rw [hag] at hr
      obtain ⟨hle, rfl⟩ := hr
      have hle := Nat.le_of_ble_eq_true hle
      have hval : ∀ k, k < P.cellsOf t → ∃ u, w.cell? ⟨g0, j * sz + o + k, none⟩ = some u ∧ ∃ y, row[o + k]? = some y ∧ IR w (Good G s.st g) y u := fun k hk => by
        have hk' : o + k < row.length := by omega
        obtain ⟨u, hu, hir⟩ := hcell (o + k) _ (List.getElem?_eq_getElem hk')
        exact ⟨u, by rw [Nat.add_assoc]; exact hu, _, List.getElem?_eq_getElem hk', hir⟩
      let val : Nat → Value := fun k => (w.cell? ⟨g0, j * sz + o + k, none⟩).getD undef
      have hlen : ((List.range (P.cellsOf t)).map val).length = P.cellsOf t := by simp
      refine ⟨.agg ((List.range (P.cellsOf t)).map val).toArray, ?_, .agg _ _ (by simp; omega) (fun k y hk => ?_) (fun u hu => ?_)⟩
      · have := loadVar_agg (there_0 ht) hag w g0 (j * sz + o) ((List.range (P.cellsOf t)).map val) hlen (fun q v hq => by
          rw [List.getElem?_map] at hq
          simp only [Option.map_eq_some_iff] at hq
          obtain ⟨p, hp, rfl⟩ := hq
          obtain ⟨h1, h2⟩ := List.getElem?_eq_some_iff.1 hp
          simp at h1 h2
          subst h2
          obtain ⟨u, hu, _⟩ := hval q h1
          simp [val, hu])
        simp only [Instr.loadAt, e1, Instr.sureAddr, Sem.run_bind, Sem.run_pure, Result.andThen_ok, this]
      · rw [List.getElem?_map] at hk
        simp only [Option.map_eq_some_iff] at hk
        obtain ⟨c, hk, rfl⟩ := hk
        rw [List.getElem?_take] at hk
        split at hk
        · rename_i hlt
          rw [List.getElem?_drop] at hk
          obtain ⟨u, hu, y, hy, hir⟩ := hval k hlt
          rw [hk] at hy
          obtain rfl := Option.some.inj hy
          have e2 : ((List.range (P.cellsOf t)).map val).toArray.getD k undef = u := by simp [hlt, val, hu]
          rw [e2]
          exact .ic _ _ hir
        · simp at hk
      · obtain ⟨k, hk, hu⟩ := Array.mem_iff_getElem.1 hu
        simp at hk hu
        obtain ⟨u', hu', y, hy, hir⟩ := hval k hk
        rw [← hu]
        simp only [val, hu', Option.getD_some]
        exact hir.one
    | false =>
      rw [hag] at hr
      simp only [cond_false, Option.map_eq_some_iff] at hr
      obtain ⟨c, hc0, rfl⟩ := hr
      obtain ⟨u, hu, hir⟩ := hcell o c hc0
      have := loadVar_one (there_0 ht) hag w g0 (j * sz + o) u hu
      exact ⟨u, by simp only [Instr.loadAt, e1, Instr.sureAddr, Sem.run_bind, Sem.run_pure, Result.andThen_ok, this], .ic _ _ hir⟩

/-- Cells of a row's element are written: yc, from cell o of element j on. -/
theorem row_store {G : Nat → Prop} {s : List AObj} {g : Ghost} {w : World} {i : Nat} {ver e sz : Nat} {xs : List (List IC)} (hs : s[i]? = some (.row true ver e sz xs)) (hr : SR G s g w) (g0 cap : Nat) (cur : Array Value) (hgi : g i = .slice (some ⟨g0, 0, none⟩) xs.length cap) (hb : w.heap[g0]? = some (.cells cur e (0, 0)))
    (h1 : xs.length ≤ cap) (h2 : cap ≤ maxLen) (h3 : cur.size = cap * sz) (hG : G g0) (xs' : List (List IC)) (cur' : Array Value) (hl : xs'.length = xs.length) (hsz : cur'.size = cur.size) (hf : ∀ w' s' g', Evo s g w s' g' w' → Flat w' (Good G s' g') sz xs' (cur'.toList.take (xs'.length * sz))) :
    Evo s g w (s.set i (.row true ver e sz xs')) g (w.setRow g0 cur') ∧ SR G (s.set i (.row true ver e sz xs')) g (w.setRow g0 cur') := by
  refine hr.turn i _ (.row true ver e sz xs') g0 hs rfl (by rw [hgi]; rfl) rfl (fun m t cs h => by cases h) (fun m v' e' sz' xs2 h => ?_) rfl rfl rfl (size_setRow _ _ _) (fun q hq => setRow_other _ _ _ _ hq) (fun k => ⟨_, ?_, fun b hb' => ?_, hf _ _ _ k⟩)
  · simp only [AObj.row.injEq] at h
    obtain ⟨_, rfl, rfl, rfl, _⟩ := h
    exact ⟨true, ver, xs, rfl, Nat.le_refl _⟩
  · refine ⟨?_, .inr ⟨g0, cap, cur', by rw [hgi, hl], Nat.zero_le _, setRow_heap _ _ _ _ _ _ hb, by omega, h2, by omega, rfl⟩⟩
    have hcl : cur'.toList.length = cap * sz := by rw [Array.length_toList]; omega
    rw [List.length_take, hcl]
    exact Nat.min_eq_left (Nat.mul_le_mul_right _ (by omega))
  · rw [hgi] at hb'
    obtain rfl : g0 = b := by simpa [gb] using hb'
    exact hG

theorem does_storeRat {P : Program} {s : St} (t : TypeId) (x y : Operand) (i ver j o e sz : Nat) (xs : List (List IC)) (row : List IC) (ys : List AV) (yc : List IC) (ht : (tyi P t).there = true) (hx : s.ev x = .rat i ver j o) (hs : s.st[i]? = some (.row true ver e sz xs)) (hrow : xs[j]? = some row)
    (hy : cellsOk (s.ev y) = some ys) (hyc : allIC ys = some yc) (hl : Nat.beq yc.length (tyi P t).size = true) (ho : o + yc.length ≤ row.length) :
    Does P s (fun ρ => do let _ ← Instr.storeAt t (ρ x) (ρ y); pure .skip) .any (s.st.set i (.row true ver e sz (xs.set j (row.take o ++ yc ++ row.drop (o + yc.length))))) := fun G g w a hrel => by
  have h := hrel.ev x
  rw [hx] at h
  have hj := (List.getElem?_eq_some_iff.1 hrow).1
  obtain ⟨g0, cap, cur, cells, e1, e2, e3, e4, e5, e6, e7, hf, hG⟩ := row_block h hs hrel.sr hj
  obtain ⟨c1, c3, c2⟩ := cells_of (hrel.ev y) hy
  have hl : yc.length = P.cellsOf t := Nat.eq_of_beq_eq_true hl
  have hyi := allIC_get hyc
  have hyl : (a.eval y).cells.toList.length = yc.length := by rw [hyi] at c1; simpa using c1
  have hrl := hf.rows j row hrow
  have hin : j * sz + sz ≤ cap * sz := by rw [← Nat.succ_mul]; exact Nat.mul_le_mul_right _ (by omega)
  have hrun := run_storeCells_at (P := P) g0 (j * sz + o) e (a.eval y).cells.toList 0 cur w e3 (by omega) (fun u hu => c3 u (by simpa using hu))
  simp only [Nat.add_zero] at hrun
  have hsz := run_size (P := P) (there_0 ht) w
  have hnl : (row.take o ++ yc ++ row.drop (o + yc.length)).length = sz := by simp; omega
  obtain ⟨k, hsr⟩ := row_store hs hrel.sr g0 cap cur e2 e3 e4 e5 e6 hG (xs.set j (row.take o ++ yc ++ row.drop (o + yc.length))) (cur.toList.take (j * sz + o) ++ (a.eval y).cells.toList ++ cur.toList.drop (j * sz + o + (a.eval y).cells.toList.length)).toArray (by simp) (by
      have hyl2 : (a.eval y).cells.size = yc.length := by rw [← hyl]; simp
      simp only [List.size_toArray, List.length_append, List.length_take, List.length_drop, Array.length_toList]
      omega) (fun w' s' g' k => by
    have hcl : (cur.toList.take (j * sz + o)).length = j * sz + o := by simp; omega
    have hone : ∀ u ∈ cur.toList.take (xs.length * sz), u.oneCell' = true := fun u hu => hf.one u (by rw [← e7]; exact hu)
    refine ⟨?_, fun q r hq => ?_, fun q r p c hq hp => ?_, fun u hu => ?_⟩
    · rw [List.length_take]
      simp
      rw [Nat.min_eq_left]
      have : xs.length * sz ≤ cap * sz := Nat.mul_le_mul_right _ e4
      omega
    · by_cases e' : j = q
      · subst e'
        rw [List.getElem?_set_self hj] at hq
        obtain rfl := Option.some.inj hq
        exact hnl
      · rw [List.getElem?_set_ne e'] at hq
        exact hf.rows q r hq
    · have hql : q < xs.length := by have := (List.getElem?_eq_some_iff.1 hq).1; simpa using this
      by_cases e' : j = q
      · subst e'
        rw [List.getElem?_set_self hj] at hq
        obtain rfl := Option.some.inj hq
        have hpl : p < sz := by have := (List.getElem?_eq_some_iff.1 hp).1; omega
        have hplace := place_lt hj hpl
        by_cases p1 : p < o
        · rw [List.append_assoc, List.getElem?_append_left (by simp; omega), List.getElem?_take, if_pos p1] at hp
          obtain ⟨u, hu, hir⟩ := hf.rel j row p c hrow hp
          refine ⟨u, ?_, hir.evo k⟩
          rw [List.getElem?_take, if_pos (by simpa using hplace)]
          simp only
          rw [List.append_assoc, List.getElem?_append_left (by omega), List.getElem?_take, if_pos (by omega)]
          rw [← e7, List.getElem?_take, if_pos hplace] at hu
          exact hu
        · by_cases p2 : p < o + yc.length
          · have l1 : (row.take o).length = o := by simp; omega
            rw [List.append_assoc, List.getElem?_append_right (by omega), l1, List.getElem?_append_left (by omega)] at hp
            have := c2 (p - o) (.ic c) (by rw [hyi, List.getElem?_map, hp]; rfl)
            rw [getD_toList, List.getD_eq_getElem?_getD] at this
            have hlt : p - o < (a.eval y).cells.toList.length := by omega
            refine ⟨_, ?_, (this.evo k).ic_inv⟩
            rw [List.getElem?_take, if_pos (by simpa using hplace)]
            simp only
            rw [List.append_assoc, List.getElem?_append_right (by omega), hcl, List.getElem?_append_left (by omega)]
            rw [show j * sz + p - (j * sz + o) = p - o by omega, List.getElem?_eq_getElem hlt]
            rfl
          · have l1 : (row.take o ++ yc).length = o + yc.length := by simp; omega
            rw [List.getElem?_append_right (by omega), l1, List.getElem?_drop] at hp
            rw [show o + yc.length + (p - (o + yc.length)) = p by omega] at hp
            obtain ⟨u, hu, hir⟩ := hf.rel j row p c hrow hp
            refine ⟨u, ?_, hir.evo k⟩
            rw [List.getElem?_take, if_pos (by simpa using hplace)]
            simp only
            have l2 : (cur.toList.take (j * sz + o) ++ (a.eval y).cells.toList).length = j * sz + o + yc.length := by rw [List.length_append, hcl, hyl]
            rw [List.getElem?_append_right (by omega), l2, List.getElem?_drop, hyl]
            rw [show j * sz + o + yc.length + (j * sz + p - (j * sz + o + yc.length)) = j * sz + p by omega]
            rw [← e7, List.getElem?_take, if_pos hplace] at hu
            exact hu
      · rw [List.getElem?_set_ne e'] at hq
        have hpl : p < sz := by have := (List.getElem?_eq_some_iff.1 hp).1; have := hf.rows q r hq; omega
        have hplace := place_lt hql hpl
        obtain ⟨u, hu, hir⟩ := hf.rel q r p c hq hp
        rw [← e7, List.getElem?_take, if_pos hplace] at hu
        refine ⟨u, ?_, hir.evo k⟩
        rw [List.getElem?_take, if_pos (by simpa using hplace)]
        simp only
        rcases Nat.lt_or_gt_of_ne e' with hlt | hgt
        · -- behind
          have h1 : j * sz + sz ≤ q * sz := by rw [← Nat.succ_mul]; exact Nat.mul_le_mul_right _ hlt
          have l2 : (cur.toList.take (j * sz + o) ++ (a.eval y).cells.toList).length = j * sz + o + yc.length := by rw [List.length_append, hcl, hyl]
          rw [List.getElem?_append_right (by omega), l2, List.getElem?_drop, hyl]
          rw [show j * sz + o + yc.length + (q * sz + p - (j * sz + o + yc.length)) = q * sz + p by omega]
          exact hu
        · have h1 : q * sz + sz ≤ j * sz := by rw [← Nat.succ_mul]; exact Nat.mul_le_mul_right _ hgt
          rw [List.append_assoc, List.getElem?_append_left (by omega), List.getElem?_take, if_pos (by omega)]
          exact hu
    · obtain ⟨q, hq⟩ := List.mem_iff_getElem?.1 hu
      rw [List.getElem?_take] at hq
      split at hq
      · rename_i hqn
        simp only [List.length_set] at hqn
        have old : ∀ v, cur.toList[q]? = some v → v.oneCell' = true := fun v hv => hone v (List.mem_iff_getElem?.2 ⟨q, by rw [List.getElem?_take, if_pos hqn]; exact hv⟩)
        simp only at hq
        by_cases p1 : q < j * sz + o
        · rw [List.append_assoc, List.getElem?_append_left (by omega), List.getElem?_take, if_pos p1] at hq
          exact old u hq
        · by_cases p2 : q < j * sz + o + yc.length
          · rw [List.append_assoc, List.getElem?_append_right (by omega), hcl, List.getElem?_append_left (by omega)] at hq
            exact c3 u (by simpa using List.mem_of_getElem? hq)
          · have l2 : (cur.toList.take (j * sz + o) ++ (a.eval y).cells.toList).length = j * sz + o + yc.length := by rw [List.length_append, hcl, hyl]
            rw [List.getElem?_append_right (by omega), l2, List.getElem?_drop, hyl, show j * sz + o + yc.length + (q - (j * sz + o + yc.length)) = q by omega] at hq
            exact old u hq
      · simp at hq)
  refine ⟨.skip, undef, g, _, ?_, .inr ⟨rfl, rfl⟩, k, hsr, .any _⟩
  have hc1 : (a.eval y).cells.size = P.cellsOf t := by rw [← hl, ← hyl]; simp
  simp only [Instr.storeAt, e1, Instr.sureAddr, storeVar, Sem.run_bind, Sem.run_pure, Result.andThen_ok, hsz, hc1, hrun]
  simp [hrun]

end Go.Proofs.Ytpphdaphbkepfaa.Aw
