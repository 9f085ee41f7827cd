/- The abstract walk, part 3: operations on memory (addresses, loads, stores, elements), numbers, lengths. -/
import Derived.Test.YtpphdaphbkepfaaAw2
set_option linter.unusedVariables false
set_option linter.unusedSimpArgs false
namespace Go.Proofs.Ytpphdaphbkepfaa.Aw
open Go Go.RowKit

theorem fieldAt_run {P : Program} {t : TypeId} {f : Nat} {fs : List (Nat × Nat × Bool)} {off n : Nat} {ag : Bool} (ht : (tyi P t).there = true) (hk : (tyi P t).k = .struct fs) (hf : fs[f]? = some (off, n, ag)) (hn : n ≠ 0) (b o : Nat) (w : World) :
    (Instr.fieldAt t (.pointer (some ⟨b, o, none⟩)) f).run P w = .ok (.pointer (some ⟨b, o + off, none⟩)) w := by
  obtain ⟨d, hd, hrun⟩ := run_und (there_0 ht) w
  obtain ⟨fa, hu, rfl⟩ := tk_struct hk
  obtain rfl : d = .struct fa := by rw [hd] at hu; simpa using hu
  rw [List.getElem?_map] at hf
  simp only [Option.map_eq_some_iff] at hf
  obtain ⟨fl, hfl, hfe⟩ := hf
  have hfl' : fa[f]? = some fl := by simpa using hfl
  simp only [Prod.mk.injEq] at hfe
  obtain ⟨rfl, rfl, rfl⟩ := hfe
  have hsz := run_size (there_field ht hu hfl') w
  simp [Instr.fieldAt, hrun, hfl', Instr.sureAddr, fieldPlace, hsz, hn, add_block]

theorem does_fieldPtr {P : Program} {s : St} (t : TypeId) (x : Operand) (f : Nat) (fs : List (Nat × Nat × Bool)) (off n : Nat) (ag : Bool) (i o : Nat) (m : Bool) (t' : TypeId) (cs : List AV) (ht : (tyi P t).there = true) (hk : (tyi P t).k = .struct fs)
    (hf : fs[f]? = some (off, n, ag)) (hn : n ≠ 0) (hx : s.ev x = .ptr i o) (hs : s.st[i]? = some (.var m t' cs)) : Does P s (fun ρ => do pure (.value (← Instr.fieldAt t (ρ x) f))) (.ptr i (o + off)) s.st :=
  .pure fun G g w a hr => by
    have h := hr.ev x
    rw [hx] at h
    obtain ⟨b, vs, e, e2, _⟩ := h.ptr_inv hs hr.sr
    refine ⟨.pointer (some ⟨b, o + off, none⟩), ?_, .ptr _ _ _ ?_ (fun m' t'' cs' _ => ⟨b, e2, rfl⟩) rfl⟩
    · simp [e, fieldAt_run ht hk hf hn]
    · exact (List.getElem?_eq_some_iff.1 hs).1

theorem does_fieldAtc {P : Program} {s : St} (t : TypeId) (x : Operand) (f : Nat) (fs : List (Nat × Nat × Bool)) (off n : Nat) (ag : Bool) (cs : List IC) (ht : (tyi P t).there = true) (hk : (tyi P t).k = .struct fs)
    (hf : fs[f]? = some (off, n, ag)) (hn : n ≠ 0) (hx : s.ev x = .at cs) : Does P s (fun ρ => do pure (.value (← Instr.fieldAt t (ρ x) f))) (.at (cs.drop off)) s.st :=
  .pure fun G g w a hr => by
    have h := hr.ev x
    rw [hx] at h
    obtain ⟨b, o, val, e, hb, hg, hc, hi⟩ := h.at_inv
    refine ⟨.pointer (some ⟨b, o + off, none⟩), by simp [e, fieldAt_run ht hk hf hn], .«at» _ b (o + off) (fun k => val (off + k)) hb hg (fun k y hy => ?_) (fun k y hy => ?_)⟩
    · rw [List.getElem?_drop] at hy
      rw [Nat.add_assoc]
      exact hc _ _ hy
    · rw [List.getElem?_drop] at hy
      exact hi _ _ hy

theorem does_fieldRat {P : Program} {s : St} (t : TypeId) (x : Operand) (f : Nat) (fs : List (Nat × Nat × Bool)) (off n : Nat) (ag : Bool) (i ver j o : Nat) (m : Bool) (e sz : Nat) (xs : List (List IC)) (ht : (tyi P t).there = true) (hk : (tyi P t).k = .struct fs)
    (hf : fs[f]? = some (off, n, ag)) (hn : n ≠ 0) (hx : s.ev x = .rat i ver j o) (hs : s.st[i]? = some (.row m ver e sz xs)) : Does P s (fun ρ => do pure (.value (← Instr.fieldAt t (ρ x) f))) (.rat i ver j (o + off)) s.st :=
  .pure fun G g w a hr => by
    have h := hr.ev x
    rw [hx] at h
    generalize a.eval x = v at h
    cases h with
    | rat i ver j off' v hi hv h1 =>
      obtain ⟨b, e1, rfl⟩ := (hv _ _ _ _ _ hs).2 rfl
      refine ⟨.pointer (some ⟨b, j * sz + o + off, none⟩), by simp [fieldAt_run ht hk hf hn], .rat _ _ _ _ _ hi (fun m' v' e' sz' xs' hs' => ?_) rfl⟩
      rw [hs] at hs'
      simp only [Option.some.injEq, AObj.row.injEq] at hs'
      obtain ⟨_, rfl, _, rfl, _⟩ := hs'
      exact ⟨Nat.le_refl _, fun _ => ⟨b, e1, by rw [Nat.add_assoc]⟩⟩

theorem does_nilPtr {P : Program} {s : St} (x : Operand) (i o : Nat) (m : Bool) (t' : TypeId) (cs : List AV) (hx : s.ev x = .ptr i o) (hs : s.st[i]? = some (.var m t' cs)) :
    Does P s (fun ρ => execOp ρ ⟨none, .nilCheck x, 0, "", #[], none⟩) (.ptr i o) s.st :=
  .pure fun G g w a hr => by
    have h := hr.ev x
    rw [hx] at h
    obtain ⟨b, vs, e, e2, _⟩ := h.ptr_inv hs hr.sr
    refine ⟨_, ?_, h⟩
    simp [execOp, e]

theorem does_nilAt {P : Program} {s : St} (x : Operand) (cs : List IC) (hx : s.ev x = .at cs) : Does P s (fun ρ => execOp ρ ⟨none, .nilCheck x, 0, "", #[], none⟩) (.at cs) s.st :=
  .pure fun G g w a hr => by
    have h := hr.ev x
    rw [hx] at h
    obtain ⟨b, o, val, e, _⟩ := h.at_inv
    refine ⟨_, ?_, h⟩
    simp [execOp, e]

theorem does_nilFn {P : Program} {s : St} (x : Operand) (f : FuncId) (b c : List AV) (hx : s.ev x = .fn (.func f) b c) : Does P s (fun ρ => execOp ρ ⟨none, .nilCheck x, 0, "", #[], none⟩) (.fn (.func f) b c) s.st :=
  .pure fun G g w a hr => by
    have h := hr.ev x
    rw [hx] at h
    obtain ⟨vf, vc, e, _⟩ := h.fn_inv
    refine ⟨_, ?_, h⟩
    simp [execOp, e]

theorem loadVar_agg {P : Program} {t : TypeId} (ht : there0 P t = true) (hag : aggB P t = true) (w : World) (b o : Nat) (cs : List Value) (hl : cs.length = P.cellsOf t) (hc : ∀ (j : Nat) (v : Value), cs[j]? = some v → w.cell? ⟨b, o + j, none⟩ = some v) :
    (loadVar t ⟨b, o, none⟩).run P w = .ok (.agg cs.toArray) w := by
  have h1 := run_isAgg ht w
  rw [hag] at h1
  have h2 := run_size ht w
  have h3 := run_loadCells_list (P := P) w ⟨b, o, none⟩ cs (fun j v hj => by rw [add_block]; exact hc j v hj)
  rw [hl] at h3
  simp [loadVar, h1, h2, h3]

theorem loadVar_one {P : Program} {t : TypeId} (ht : there0 P t = true) (hag : aggB P t = false) (w : World) (b o : Nat) (v : Value) (hc : w.cell? ⟨b, o, none⟩ = some v) :
    (loadVar t ⟨b, o, none⟩).run P w = .ok v w := by
  have h1 := run_isAgg ht w
  rw [hag] at h1
  simp [loadVar, h1, hc]

theorem ptr_load {P : Program} {G : Nat → Prop} {s : List AObj} {g : Ghost} {w : World} {v : Value} (t : TypeId) (i o : Nat) (m : Bool) (t' : TypeId) (cs : List AV) (r : AV) (ht : (tyi P t).there = true) (h : AR G s g w (.ptr i o) v) (hs : s[i]? = some (.var m t' cs)) (hsr : SR G s g w)
    (hr : bif (tyi P t).agg then Nat.ble (o + (tyi P t).size) cs.length = true ∧ r = .agg ((cs.drop o).take (tyi P t).size) else cs[o]? = some r) : ∃ b u, v = .pointer (some ⟨b, o, none⟩) ∧ (loadVar t ⟨b, o, none⟩).run P w = .ok u w ∧ AR G s g w r u := by
  obtain ⟨b, vs, e, e2, _, hb, hl, h1, hv⟩ := h.ptr_inv hs hsr
  rw [agg_tyi] at hr
  have hsz : (tyi P t).size = P.cellsOf t := rfl
  rw [hsz] at hr
  cases hag : aggB P t with
  | true =>
    rw [hag] at hr
    obtain ⟨hle, rfl⟩ := hr
    have hle := Nat.le_of_ble_eq_true hle
    refine ⟨b, .agg (vs.extract o (o + P.cellsOf t)), e, ?_, AR.sub _ _ hl hv h1 hle⟩
    have hlen : (vs.extract o (o + P.cellsOf t)).toList.length = P.cellsOf t := by simp; omega
    have := loadVar_agg (there_0 ht) hag w b o (vs.extract o (o + P.cellsOf t)).toList hlen (fun j v hj => by
      simp only [World.cell?, hb]
      have e : (vs.extract o (o + P.cellsOf t)).toList[j]? = if j < P.cellsOf t then vs[o + j]? else none := by
        simp [Array.toList_extract, List.extract_eq_take_drop, List.getElem?_take, List.getElem?_drop]
      rw [e] at hj
      split at hj
      · simpa using hj
      · simp at hj)
    rwa [Array.toArray_toList] at this
  | false =>
    rw [hag] at hr
    simp only [cond_false] at hr
    have hlt : o < vs.size := by have := (List.getElem?_eq_some_iff.1 hr).1; omega
    exact ⟨b, vs.getD o undef, e, loadVar_one (there_0 ht) hag w b o (vs.getD o undef) (by simp [World.cell?, hb, hlt]), hv _ _ hr⟩

theorem does_loadPtr {P : Program} {s : St} (t : TypeId) (x : Operand) (i o : Nat) (m : Bool) (t' : TypeId) (cs : List AV) (r : AV) (ht : (tyi P t).there = true) (hx : s.ev x = .ptr i o) (hs : s.st[i]? = some (.var m t' cs))
    (hr : bif (tyi P t).agg then Nat.ble (o + (tyi P t).size) cs.length = true ∧ r = .agg ((cs.drop o).take (tyi P t).size) else cs[o]? = some r) : Does P s (fun ρ => do pure (.value (← Instr.loadAt t (ρ x)))) r s.st :=
  .pure fun G g w a hrel => by
    have h := hrel.ev x
    rw [hx] at h
    obtain ⟨b, u, e, hl, hu⟩ := ptr_load t i o m t' cs r ht h hs hrel.sr hr
    exact ⟨u, by simp only [Instr.loadAt, e, Instr.sureAddr, Sem.run_bind, Sem.run_pure, Result.andThen_ok, hl], hu⟩

theorem does_loadAtc {P : Program} {s : St} (t : TypeId) (x : Operand) (cs : List IC) (r : AV) (ht : (tyi P t).there = true) (hx : s.ev x = .at cs)
    (hr : bif (tyi P t).agg then Nat.ble (tyi P t).size cs.length = true ∧ r = .agg ((cs.take (tyi P t).size).map .ic) else cs[0]?.map AV.ic = some r) : Does P s (fun ρ => do pure (.value (← Instr.loadAt t (ρ x)))) r s.st :=
  .pure fun G g w a hrel => by
    have h := hrel.ev x
    rw [hx] at h
    obtain ⟨b, o, val, e, hb, hg, hc, hi⟩ := h.at_inv
    rw [agg_tyi] at hr
    have hsz : (tyi P t).size = P.cellsOf t := rfl
    rw [hsz] at hr
    cases hag : aggB P t with
    | true =>
      rw [hag] at hr
      obtain ⟨hle, rfl⟩ := hr
      have hle := Nat.le_of_ble_eq_true hle
      have hlen : ((List.range (P.cellsOf t)).map val).length = P.cellsOf t := by simp
      have hget : ∀ (j : Nat) (v : Value), ((List.range (P.cellsOf t)).map val)[j]? = some v → j < P.cellsOf t ∧ v = val j := fun j v hj => by
        rw [List.getElem?_map] at hj
        simp only [Option.map_eq_some_iff] at hj
        obtain ⟨k, hk, rfl⟩ := hj
        have := List.getElem?_eq_some_iff.1 hk
        obtain ⟨h1, h2⟩ := this
        simp at h1 h2
        exact ⟨h1, by rw [h2]⟩
      refine ⟨.agg ((List.range (P.cellsOf t)).map val).toArray, ?_, .agg _ _ (by simp; omega) (fun k y hk => ?_) (fun u hu => ?_)⟩
      · have := loadVar_agg (there_0 ht) hag w b o ((List.range (P.cellsOf t)).map val) hlen (fun j v hj => by
          obtain ⟨hj, rfl⟩ := hget j v hj
          exact hc j _ (List.getElem?_eq_getElem (by omega)))
        simp only [Instr.loadAt, e, Instr.sureAddr, Sem.run_bind, Sem.run_pure, Result.andThen_ok, this]
      · rw [List.getElem?_map] at hk
        simp only [Option.map_eq_some_iff] at hk
        obtain ⟨c, hk, rfl⟩ := hk
        rw [List.getElem?_take] at hk
        split at hk
        · rename_i hlt
          have e2 : ((List.range (P.cellsOf t)).map val).toArray.getD k undef = val k := by simp [hlt]
          rw [e2]
          exact .ic _ _ (hi _ _ hk)
        · simp at hk
      · obtain ⟨j, hj, hu⟩ := Array.mem_iff_getElem.1 hu
        simp at hj hu
        rw [← hu]
        exact (hi j _ (List.getElem?_eq_getElem (by omega))).one
    | false =>
      rw [hag] at hr
      simp only [cond_false, Option.map_eq_some_iff] at hr
      obtain ⟨c, hc0, rfl⟩ := hr
      refine ⟨val 0, ?_, .ic _ _ (hi _ _ hc0)⟩
      have := loadVar_one (there_0 ht) hag w b o (val 0) (hc 0 _ hc0)
      simp only [Instr.loadAt, e, Instr.sureAddr, Sem.run_bind, Sem.run_pure, Result.andThen_ok, this]

/-- An object of the call's own, turned in place. -/
theorem SR.turn {G : Nat → Prop} {s : List AObj} {g : Ghost} {w w' : World} (h : SR G s g w) (i : Nat) (o o' : AObj) (b : Nat) (hi : s[i]? = some o) (hm : o.mu = true) (hb : gb (g i) = some b) (hm' : o'.mu = true)
    (hvar : ∀ m t cs, o' = .var m t cs → ∃ m0 cs0, o = .var m0 t cs0) (hrow : ∀ m ver e sz xs, o' = .row m ver e sz xs → ∃ m0 ver0 xs0, o = .row m0 ver0 e sz xs0 ∧ ver0 ≤ ver)
    (h1 : w'.os = w.os) (h2 : w'.tape = w.tape) (h3 : w'.output = w.output) (h4 : w'.heap.size = w.heap.size) (h5 : ∀ k, k ≠ b → w'.heap[k]? = w.heap[k]?)
    (ho : Evo s g w (s.set i o') g w' → OR G (s.set i o') g w' i o') (hlp : ∀ c, o' = .lp c → ∃ c0, o = .lp c0 := by simp) : Evo s g w (s.set i o') g w' ∧ SR G (s.set i o') g w' := by
  have hil : i < s.length := (List.getElem?_eq_some_iff.1 hi).1
  have hown : Own s g b := ⟨i, o, hi, hm, hb⟩
  have get : ∀ (j : Nat) (q : AObj), (s.set i o')[j]? = some q → (j = i ∧ q = o') ∨ (j ≠ i ∧ s[j]? = some q) := fun j q hj => by
    by_cases e : j = i
    · subst e
      rw [List.getElem?_set_self hil] at hj
      exact .inl ⟨rfl, by simpa using hj.symm⟩
    · rw [List.getElem?_set_ne (Ne.symm e)] at hj
      exact .inr ⟨e, hj⟩
  have k : Evo s g w (s.set i o') g w' := by
    refine ⟨h1, h2, h3, by omega, fun q hq hn => h5 q (fun e => hn (e ▸ hown)), fun q hq ⟨j, p, hj, hpm, hpg⟩ => ?_, by simp, fun j m t cs hj hs => ?_, fun j m ver e sz xs hj hs => ?_, fun j c hj hs => ?_⟩
    · rcases get j p hj with ⟨rfl, rfl⟩ | ⟨hne, hj⟩
      · exact ⟨j, o, hi, hm, hpg⟩
      · exact ⟨j, p, hj, hpm, hpg⟩
    · rcases get j _ hs with ⟨rfl, e⟩ | ⟨hne, hs⟩
      · obtain ⟨m0, cs0, rfl⟩ := hvar m t cs e.symm
        exact ⟨⟨m0, cs0, hi⟩, rfl⟩
      · exact ⟨⟨m, cs, hs⟩, rfl⟩
    · rcases get j _ hs with ⟨rfl, e'⟩ | ⟨hne, hs⟩
      · obtain ⟨m0, v0, x0, rfl, hle⟩ := hrow m ver e sz xs e'.symm
        exact ⟨m0, v0, x0, hi, hle, fun _ => rfl⟩
      · exact ⟨m, ver, xs, hs, Nat.le_refl _, fun _ => rfl⟩
    · rcases get j _ hs with ⟨rfl, e'⟩ | ⟨hne, hs⟩
      · obtain ⟨c0, rfl⟩ := hlp c e'.symm
        exact ⟨⟨c0, hi⟩, rfl⟩
      · exact ⟨⟨c, hs⟩, rfl⟩
  refine ⟨k, fun j q hj => ?_, fun j1 j2 o1 o2 b' hj1 hj2 l1 l2 b1 b2 => ?_, fun q hq => h.new q (by omega)⟩
  · rcases get j q hj with ⟨rfl, rfl⟩ | ⟨hne, hj⟩
    · exact ho k
    · by_cases hl : q.live = true
      · refine (h.obj j q hj).evo k rfl (fun b' hb' => h5 b' (fun e => ?_))
        subst e
        exact hne (h.inj j i q o b' hj hi hl (by cases o <;> simp_all [AObj.mu, AObj.live]) hb' hb)
      · cases q <;> simp_all [AObj.live]
        trivial
  · have old : ∀ (j : Nat) (q : AObj), (s.set i o')[j]? = some q → q.live = true → ∃ q' : AObj, s[j]? = some q' ∧ q'.live = true := by
      intro j q hj hl
      rcases get j q hj with ⟨rfl, rfl⟩ | ⟨hne, hj⟩
      · exact ⟨o, hi, by cases o <;> simp_all [AObj.mu, AObj.live]⟩
      · exact ⟨q, hj, hl⟩
    obtain ⟨q1, a1, c1⟩ := old j1 o1 hj1 l1
    obtain ⟨q2, a2, c2⟩ := old j2 o2 hj2 l2
    exact h.inj j1 j2 q1 q2 b' a1 a2 c1 c2 b1 b2

theorem does_storePtr {P : Program} {s : St} (t : TypeId) (x y : Operand) (i o : Nat) (t' : TypeId) (cs ys : List AV) (ht : (tyi P t).there = true) (hx : s.ev x = .ptr i o) (hs : s.st[i]? = some (.var true t' cs))
    (hy : cellsOk (s.ev y) = some ys) (hl : Nat.beq ys.length (tyi P t).size = true) (ho : Nat.ble (o + ys.length) cs.length = true) :
    Does P s (fun ρ => do let _ ← Instr.storeAt t (ρ x) (ρ y); pure .skip) .any (s.st.set i (.var true t' (cs.take o ++ ys ++ cs.drop (o + ys.length)))) := fun G g w a hrel => by
  have h := hrel.ev x
  rw [hx] at h
  obtain ⟨b, vs, e, e2, hG, hb, hvl, h1, hv⟩ := h.ptr_inv hs hrel.sr
  obtain ⟨c1, c3, c2⟩ := cells_of (hrel.ev y) hy
  have ho := Nat.le_of_ble_eq_true ho
  have hl : ys.length = P.cellsOf t := Nat.eq_of_beq_eq_true hl
  have hrun := run_storeCells_at (P := P) b o t' (a.eval y).cells.toList 0 vs w hb (by simp; omega) (fun u hu => c3 u (by simpa using hu))
  have hsz := run_size (there_0 ht) w
  simp only [Nat.add_zero] at hrun
  have hil : i < s.st.length := (List.getElem?_eq_some_iff.1 hs).1
  have hyl : (a.eval y).cells.toList.length = ys.length := by simpa using c1
  obtain ⟨k, hsr⟩ := hrel.sr.turn (w' := w.setRow b (vs.toList.take o ++ (a.eval y).cells.toList ++ vs.toList.drop (o + (a.eval y).cells.toList.length)).toArray) i _ (.var true t' (cs.take o ++ ys ++ cs.drop (o + ys.length))) b hs rfl (by rw [e2]; rfl) rfl
    (fun m t cs h => by cases h; exact ⟨_, _, rfl⟩) (fun m ver e sz xs h => by cases h) rfl rfl rfl (size_setRow _ _ _) (fun q hq => setRow_other _ _ _ _ hq)
    (fun k => ⟨b, _, e2, hG, setRow_heap _ _ _ _ _ _ hb, by simp; omega, fun u hu => by
      simp only [List.mem_toArray, List.mem_append] at hu
      rcases hu with (hu | hu) | hu
      · exact h1 u (by simpa using List.mem_of_mem_take hu)
      · exact c3 u (by simpa using hu)
      · exact h1 u (by simpa using List.mem_of_mem_drop hu), fun q z hz => by
      refine AR.evo ?_ k
      have hcl : cs.length = vs.size := hvl.symm
      rw [getD_toList, List.getD_eq_getElem?_getD]
      simp only
      by_cases q1 : q < o
      · rw [List.append_assoc, List.getElem?_append_left (by simp; omega), List.getElem?_take, if_pos q1] at hz
        rw [List.append_assoc, List.getElem?_append_left (by simp; omega), List.getElem?_take, if_pos q1]
        have := hv q z hz
        rwa [getD_toList, List.getD_eq_getElem?_getD] at this
      · by_cases q2 : q < o + ys.length
        · have l1 : (cs.take o).length = o := by simp; omega
          have l2 : (vs.toList.take o).length = o := by simp; omega
          rw [List.append_assoc, List.getElem?_append_right (by omega), l1, List.getElem?_append_left (by omega)] at hz
          rw [List.append_assoc, List.getElem?_append_right (by omega), l2, List.getElem?_append_left (by omega)]
          have := c2 _ z hz
          rwa [getD_toList, List.getD_eq_getElem?_getD] at this
        · have l1 : (cs.take o ++ ys).length = o + ys.length := by simp; omega
          have l2 : (vs.toList.take o ++ (a.eval y).cells.toList).length = o + ys.length := by rw [List.length_append, hyl]; simp; omega
          rw [List.getElem?_append_right (by omega), l1, List.getElem?_drop] at hz
          rw [List.getElem?_append_right (by omega), l2, List.getElem?_drop, hyl]
          have := hv _ z hz
          rwa [getD_toList, List.getD_eq_getElem?_getD] at this⟩)
  refine ⟨.skip, undef, g, _, ?_, .inr ⟨rfl, rfl⟩, k, hsr, .any _⟩
  have hc1 : (a.eval y).cells.size = P.cellsOf t := by omega
  simp only [Instr.storeAt, e, Instr.sureAddr, storeVar, Sem.run_bind, Sem.run_pure, Result.andThen_ok, hsz, hc1, hrun]
  simp [hrun]

end Go.Proofs.Ytpphdaphbkepfaa.Aw
