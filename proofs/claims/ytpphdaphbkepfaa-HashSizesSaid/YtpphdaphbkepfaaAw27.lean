/- The abstract walk, part 27: slices compared with nil; numbers read. -/
import Derived.Test.YtpphdaphbkepfaaAw26
import Derived.Laws.Cover3
set_option linter.unusedVariables false
set_option linter.unusedSimpArgs false
namespace Go.Proofs.Ytpphdaphbkepfaa.Aw
open Go Go.RowKit
theorem AOL.stepR {r : Option Nat} {P : Program} {ops : Array Oper} {i : Nat} {rest : List Nat} {s : St} {Q : St → Prop} {op : Op} (R : AV → Prop) (h : opAt ops i s = some op) (hn : notDefer op = true)
    (hD : ∀ o : Oper, o.op = op → ∀ G g w a, Rel G s g w a → ∃ v x, (execOp a.eval o).run P w = .ok (.value v) w ∧ R x ∧ AR G s.st g w x v) (k : ∀ x, R x → AOL r P ops rest (putS s (dstOf ops i) x s.st) Q) : AOL r P ops (i :: rest) s Q := by
  obtain ⟨o, ho, hg, hd, hop, he⟩ := opAt_some h
  rw [he] at k
  intro G g w a QQ hr kk
  obtain ⟨v, x, hrun, hR, hx⟩ := hD o hop G g w a hr
  simp only [wpOpsIn, ho, gd_wanted hr hg, if_true]
  refine ⟨fun _ _ => trivial, ?_⟩
  rw [semAt_of (by rw [hop]; exact hn), hrun]
  have hrel := hr.putS o.dst hd (.refl _ _ _) hr.sr hx
  exact k x hR G g w _ QQ hrel fun s' g2 w2 a2 q hr2 he hdf hfr => kk s' g2 w2 a2 q hr2 (by rw [putS_st] at he; exact he) (hdf.trans (put_defers _ _ _)) (Fr.cons ho hfr)
theorem IR.nil_none {w : World} {ok : Nat → Prop} {sz : Nat} {ex : Bool} {xs : List (List IC)} {l c : Nat} (h : IR w ok (.sl sz ex xs) (.slice none l c)) : xs = [] := by
  cases h with
  | nil => rfl
theorem AOL.eqNil {r : Option Nat} {P : Program} {tab : List TI} {ops : Array Oper} {i : Nat} {rest : List Nat} {s : St} {Q : St → Prop} (hT : TabOk P tab) {t e t' : TypeId} {j : TI} {x : Operand} {sz : Nat} {ex : Bool} {xs : List (List IC)}
    (h : opAt ops i s = some (.binOp .eql t x (.const (.slice none 0 0)) t')) (ht : slT tab t = some (e, j)) (hx : s.ev x = .ic (.sl sz ex xs)) (k : ∀ b : Bool, (b = true → xs = []) → AOL r P ops rest (putS s (dstOf ops i) (.ic (.lit (.bool b))) s.st) Q) : AOL r P ops (i :: rest) s Q := by
  obtain ⟨g1, g2, rfl⟩ := slT_ok hT ht
  refine AOL.stepR (fun y => ∃ b : Bool, y = .ic (.lit (.bool b)) ∧ (b = true → xs = [])) h rfl ?_ ?_
  · intro o hop G g w a hr
    have h1 := hr.ev x
    rw [hx] at h1
    have h2 := h1.ic_inv
    obtain ⟨A, c, hv, _⟩ := h2.slice
    refine ⟨.bool A.isNone, _, ?_, ⟨_, rfl, fun hb => ?_⟩, .ic _ _ (.lit _ rfl)⟩
    · have hr2 := run_equal_slice_nil (P := P) w t e A xs.length c (tk_slice g2)
      have ec : a.eval (.const (.slice none 0 0)) = .slice none 0 0 := rfl
      simp [execOp, hop, hv, ec, eqGuard, binOp, hr2]
    · cases A with
      | some _ => simp at hb
      | none => rw [hv] at h2; exact h2.nil_none
  · rintro y ⟨b, rfl, hb⟩
    exact k b hb
theorem tdivI (a b : Int) : a.tdiv b = if 0 ≤ a then a / b else -(-a / b) := by
  split
  · exact Int.tdiv_eq_ediv_of_nonneg ‹_›
  · rw [← Int.tdiv_eq_ediv_of_nonneg (by omega), Int.neg_tdiv]; omega
theorem tmodI (a b : Int) : a.tmod b = if 0 ≤ a then a % b else -(-a % b) := by
  split
  · exact Int.tmod_eq_emod_of_nonneg ‹_›
  · rw [← Int.tmod_eq_emod_of_nonneg (by omega), Int.neg_tmod]; omega
theorem wI64 {z : Int} (h1 : -9223372036854775808 ≤ z) (h2 : z ≤ 9223372036854775807) : IntKind.i64.wrap z = z := wok h1 h2
theorem wU8 {z : Int} (h1 : 0 ≤ z) (h2 : z ≤ 255) : IntKind.u8.wrap z = z := IntWalk.u8_in z ⟨h1, h2⟩
theorem wU32 {z : Int} (h1 : 0 ≤ z) (h2 : z ≤ 4294967295) : IntKind.u32.wrap z = z := IntWalk.u32_in z ⟨h1, h2⟩
theorem wU64 {z : Int} (h1 : 0 ≤ z) (h2 : z ≤ 18446744073709551615) : IntKind.u64.wrap z = z := IntWalk.u64_in z ⟨h1, h2⟩
theorem tdvN {a b : Int} (h : 0 ≤ a) : a.tdiv b = a / b := Int.tdiv_eq_ediv_of_nonneg h
theorem tmdN {a b : Int} (h : 0 ≤ a) : a.tmod b = a % b := Int.tmod_eq_emod_of_nonneg h
/-! ### regions of rounds that draw their order -/
theorem wpIn_rnd {r : Option Nat} {P : Program} {o : Oper} (hn : notDefer o.op = true) {a : Act} {w : World} {K : Act → World → Prop} {Q : Exit → Act → World → Prop} : o.wpIn (FW none) 0 P a w K Q = o.wpIn (FW r) 0 P a w K Q := by
  show (_ ∧ o.uponIn (FW none) 0 P a K Q ((o.semAt none a.eval).run P w)) = (_ ∧ o.uponIn (FW r) 0 P a K Q ((o.semAt r a.eval).run P w))
  rw [semAt_of (r := none) hn, semAt_of (r := r) hn]
  rfl
theorem wpOps_rnd {r : Option Nat} {P : Program} {ops : Array Oper} (hn : ∀ (i : Nat) (o : Oper), ops[i]? = some o → notDefer o.op = true) {Q : Exit → Act → World → Prop} : ∀ (l : List Nat) (a : Act) (w : World), wpOpsIn (FW none) 0 P ops Q l a w = wpOpsIn (FW r) 0 P ops Q l a w
  | [], a, w => rfl
  | i :: rest, a, w => by
    have ih : wpOpsIn (FW none) 0 P ops Q rest = wpOpsIn (FW r) 0 P ops Q rest := by
      funext a w
      exact wpOps_rnd hn rest a w
    simp only [wpOpsIn]
    cases ho : ops[i]? with
    | none => simp only [ih]
    | some o => simp only [ih, wpIn_rnd (r := r) (hn i o ho)]
theorem AOL.rnd {r : Option Nat} {P : Program} {ops : Array Oper} (hn : ∀ (i : Nat) (o : Oper), ops[i]? = some o → notDefer o.op = true) {l : List Nat} {s : St} {Q : St → Prop} (h : AOL none P ops l s Q) : AOL r P ops l s Q := fun G g w a QQ hr kk => by
  rw [← wpOps_rnd hn]
  exact h G g w a QQ hr kk
theorem AWp.drawR {r : Option Nat} {P : Program} {ops : Array Oper} {id : Nat} {s : St} {Q : Exit → St → Prop} (q : Nat) (hm : P.follows .mixedOrders = true) (hb : drawB ops q = true) (hnd : ops.toList.all (fun o => notDefer o.op) = true)
    (h : QS P ops (List.range q) s fun T => AOL r P ops ((List.range (ops.size - q)).map (q + ·)) T (Q .normal)) : AWp r P (.region id ops true) s Q := by
  have hb' := hb
  simp only [drawB, Bool.and_eq_true, List.all_eq_true, List.mem_range] at hb
  obtain ⟨hq, hb⟩ := hb
  have hq := Nat.le_of_ble_eq_true hq
  have hquiet : ∀ i o, i < q → ops[i]? = some o → (∀ e ∈ o.after, bindsE e = true → e.on < i) ∧ (match o.dst with | some d => (List.range ops.size).all (fun j => Nat.beq i j || !(dstOf ops j == some d)) | none => false) = true ∧
      (o.looksAt ops).all (fun t => (List.range ops.size).all (fun j => !(dstOf ops j == some t) || (Nat.blt j q && o.after.any (fun e => bindsE e && Nat.beq e.on j)))) = true := fun i o hi ho => by
    have := hb i (Array.getElem?_eq_some_iff.1 ho).1
    simp only [ho, Bool.and_eq_true, Array.all_eq_true_iff_forall_mem] at this
    have h2 := this.2
    have hf : Nat.blt i q = true := Nat.ble_eq_true_of_le hi
    rw [hf] at h2
    simp only [cond_true, Bool.and_eq_true] at h2
    refine ⟨fun e hem hbe => ?_, h2⟩
    have := this.1 e hem
    rw [hbe] at this
    simp only [Bool.not_true, Bool.false_or] at this
    exact Nat.le_of_ble_eq_true this
  have hD : ∀ i o, i < q → ops[i]? = some o → ∃ d, o.dst = some d ∧ ∀ j, j < ops.size → dstOf ops j = some d → j = i := fun i o hi ho => by
    have h1 := (hquiet i o hi ho).2.1
    cases hd : o.dst with
    | none => simp [hd] at h1
    | some d =>
      refine ⟨d, rfl, fun j hj hjd => ?_⟩
      simp only [hd, List.all_eq_true, List.mem_range] at h1
      have := h1 j hj
      simp only [hjd, beq_self_eq_true, Bool.not_true, Bool.or_false] at this
      exact (Nat.eq_of_beq_eq_true this).symm
  have hL : ∀ i o, i < q → ops[i]? = some o → ∀ t ∈ o.looksAt ops, ∀ j, j < ops.size → dstOf ops j = some t → j < i := fun i o hi ho t ht j hj hjt => by
    obtain ⟨h1, _, h2⟩ := hquiet i o hi ho
    simp only [List.all_eq_true, List.mem_range] at h2
    have := h2 t ht j hj
    simp only [hjt, beq_self_eq_true, Bool.not_true, Bool.false_or, Bool.and_eq_true, Array.any_eq_true] at this
    obtain ⟨_, x, hx, e1, e2⟩ := this
    have := h1 _ (Array.getElem_mem hx) e1
    rw [Nat.eq_of_beq_eq_true e2] at this
    exact this
  have h' : QS P ops ((List.range q).map (0 + ·)) s fun T => AOL r P ops ((List.range (ops.size - q)).map (q + ·)) T (Q .normal) := by
    have : (List.range q).map (0 + ·) = List.range q := by
      have : (List.range q).map (fun x => 0 + x) = (List.range q).map (fun x => x) := List.map_congr_left fun x _ => Nat.zero_add x
      rw [this, List.map_id']
    rw [this]
    exact h
  obtain ⟨env, hQ, he, hl, ho⟩ := QS.collect hq hD hL q 0 s (by omega) h'
  refine AWp.draw q env hm hb' (fun p hp => let ⟨i, _, b, c⟩ := he p hp; ⟨i, b, c⟩) (fun i o d hi hoi hdi => ?_) hQ
  obtain ⟨x, hx, hone⟩ := ho i o d (Nat.zero_le _) hi hoi hdi
  have hdo : dstOf ops i = some d := by simp [dstOf, hoi, hdi]
  refine AOL.rnd (fun j o hj => by rw [List.all_eq_true] at hnd; exact hnd o (Array.mem_toList_iff.2 (Array.mem_of_getElem? hj))) (hone [] _ (AOL.nil ?_))
  rw [hdo]
  exact ⟨by show look ((d, x) :: _) d = _; rw [look_cons_eq, hx], rfl, rfl⟩

theorem AWp.drawN {r : Option Nat} {P : Program} {ops : Array Oper} {id : Nat} {s : St} {Q : Exit → St → Prop} (q : Nat) (l1 l2 : List Nat) (hq : findQ ops ops.size = some q) (hm : P.follows .mixedOrders = true) (hb : drawB ops q = true) (hnd : ops.toList.all (fun o => notDefer o.op) = true) (h1 : List.range q = l1) (h2 : (List.range (ops.size - q)).map (q + ·) = l2)
    (h : QS P ops l1 s fun T => AOL r P ops l2 T (Q .normal)) : AWp r P (.region id ops true) s Q := by
  subst h1 h2
  exact AWp.drawR q hm hb hnd h
/-! ### what holds of all data -/
theorem IR.len {w : World} {ok : Nat → Prop} {sz : Nat} {ex : Bool} {xs : List (List IC)} {v : Value} (h : IR w ok (.sl sz ex xs) v) : xs.length ≤ maxLen := by
  obtain ⟨A, c, _, h1, h2, _⟩ := h.slice
  omega
theorem IR.inner {w : World} {ok : Nat → Prop} {sz : Nat} {ex : Bool} {xs : List (List IC)} {v : Value} (h : IR w ok (.sl sz ex xs) v) {r : List IC} {x : IC} (hr : r ∈ xs) (hx : x ∈ r) : ∃ u, IR w ok x u := by
  obtain ⟨j, hj⟩ := List.getElem?_of_mem hr
  obtain ⟨i, hi⟩ := List.getElem?_of_mem hx
  cases h with
  | nil => simp at hj
  | sl _ _ _ b o c val hb hl hc hx hok hsz hcell hin => exact ⟨_, hin j r i x hj hi⟩
/-- Rows of a datum, and rows in them. -/
def lens : IC → Prop
  | .sl _ _ xs => xs.length ≤ maxLen ∧ ∀ r ∈ xs, ∀ x ∈ r, match x with
    | .sl _ _ ys => ys.length ≤ maxLen
    | _ => True
  | _ => True
theorem IR.lens {w : World} {ok : Nat → Prop} {x : IC} {v : Value} (h : IR w ok x v) : Aw.lens x := by
  cases x with
  | lit => trivial
  | sl sz ex xs =>
    refine ⟨h.len, fun r hr x hx => ?_⟩
    obtain ⟨u, hu⟩ := h.inner hr hx
    cases x with
    | lit => trivial
    | sl => exact hu.len
def lensP : PV → Prop
  | .c x => lens x
  | .agg xs => ∀ x ∈ xs, lens x
  | .tup _ => True
theorem PR.lens {w : World} {ok : Nat → Prop} {x : PV} {v : Value} (h : PR w ok x v) : lensP x := by
  cases h with
  | c x v h => exact h.lens
  | agg xs vs h1 h2 =>
    intro x hx
    obtain ⟨i, hi⟩ := List.getElem?_of_mem hx
    exact (h2 i x hi).lens
  | tup => trivial
/-- A contract may lean on what all data are. -/
theorem PureCalls.lens {P : Program} {f : FuncId} {pvs : List PV} {r : PV} (he : entersB P f = true) (h : (∀ x ∈ pvs, lensP x) → PureCalls P f pvs r) : PureCalls P f pvs r := by
  refine ⟨he, fun ok w vals hsz hv => ?_⟩
  refine (h fun x hx => ?_).2 ok w vals hsz hv
  obtain ⟨i, hi⟩ := List.getElem?_of_mem hx
  exact (hv i x hi).lens
theorem lens_ints {A : Ar} (hA : A = real) {α : Type} {sz : Nat} {f : α → List IC} {l : List α} (h : lensP (slP A sz f l)) : l.length ≤ maxLen := by
  have : (List.map f l).length ≤ maxLen := by rw [← hid_eq hA (List.map f l)]; exact h.1
  simpa using this
/-- What a call has laid and nobody names is forgotten. -/
theorem ACalls.trim {P : Program} {f : FuncId} {xs : List AV} {st : List AObj} {R R' : AV → List AObj → Prop} (n : Nat) (h : ACalls P f xs st R) (hn : st.length ≤ n)
    (ht : ∀ x st', R x st' → closedB n x = true ∧ n ≤ st'.length ∧ trimOk n st (st'.take n) ∧ R' x (st'.take n)) : ACalls P f xs st R' :=
  ⟨h.1, fun G g w vals hsz hsr hv => (h.2 G g w vals hsz hsr hv).mono fun e w' ⟨v, x, st', g', he, hR, hx, hsr', hev⟩ => by
    obtain ⟨h1, h2, h3, h4⟩ := ht x st' hR
    obtain ⟨a, b⟩ := trimS hsr hsr' hev hn h2 h3
    exact ⟨v, x, st'.take n, g', he, h4, hx.trim h1 h2, a, b⟩⟩
theorem ACalls.mono {P : Program} {f : FuncId} {xs : List AV} {st : List AObj} {R R' : AV → List AObj → Prop} (h : ACalls P f xs st R) (k : ∀ x st', R x st' → R' x st') : ACalls P f xs st R' :=
  ⟨h.1, fun G g w vals hsz hsr hv => (h.2 G g w vals hsz hsr hv).mono fun e w' ⟨v, x, st', g', he, hR, hx, hsr', hev⟩ => ⟨v, x, st', g', he, k _ _ hR, hx, hsr', hev⟩⟩
theorem AWp.norm {r : Option Nat} {P : Program} {c : Code} {s s' : St} {Q : Exit → St → Prop} (e : s = s') (h : AWp r P c s' Q) : AWp r P c s Q := e ▸ h
theorem AOL.pass {r : Option Nat} {P : Program} {ops : Array Oper} {l : List Nat} {s : St} {Q : St → Prop} (h : AOL r P ops l s Q) : AOL r P ops l s Q := h
theorem QS.pass {P : Program} {ops : Array Oper} {l : List Nat} {s : St} {Q : St → Prop} (h : QS P ops l s Q) : QS P ops l s Q := h
theorem AWp.pass {r : Option Nat} {P : Program} {c : Code} {s : St} {Q : Exit → St → Prop} (h : AWp r P c s Q) : AWp r P c s Q := h
end Go.Proofs.Ytpphdaphbkepfaa.Aw
