/- The abstract walk, part 22: regions that draw their order, order by order. -/
import Derived.Test.YtpphdaphbkepfaaAw21
set_option linter.unusedVariables false
set_option linter.unusedSimpArgs false
namespace Go.Proofs.Ytpphdaphbkepfaa.Aw
open Go Go.RowKit

/-- From s, where the operations of 'listed' have come, all the others in any order; behind them Q. -/
def AnyQ (P : Program) (ops : Array Oper) (fuel : Nat) (listed : Array Bool) (s : St) (Q : St → Prop) : Prop :=
  ∀ (G : Nat → Prop) (g : Ghost) (w : World) (a : Act) (QQ : Exit → Act → World → Prop), Rel G s g w a → (∀ s' g' w' a', Q s' → Rel G s' g' w' a' → Evo s.st g w s'.st g' w' → a'.defers = a.defers → QQ Exit.normal a' w') → wpAnyIn (FW none) 0 P .any ops (fun e a w => e = .normal ∧ QQ e a w) fuel listed a w

/-- Each operation of the list, and the others behind it. -/
inductive AllR (P : Program) (ops : Array Oper) (fuel : Nat) (listed : Array Bool) (s : St) (Q : St → Prop) : List Nat → Prop where
  | nil : AllR P ops fuel listed s Q []
  | cons {i : Nat} {r : List Nat} {x : AV} {st' : List AObj} (h : One none P ops i s x st') (k : AnyQ P ops fuel (listed.setIfInBounds i true) (putS s (dstOf ops i) x st') Q) (hr : AllR P ops fuel listed s Q r) : AllR P ops fuel listed s Q (i :: r)

theorem AllR.mem {P : Program} {ops : Array Oper} {fuel : Nat} {listed : Array Bool} {s : St} {Q : St → Prop} {l : List Nat} (h : AllR P ops fuel listed s Q l) : ∀ i ∈ l, ∃ x st', One none P ops i s x st' ∧ AnyQ P ops fuel (listed.setIfInBounds i true) (putS s (dstOf ops i) x st') Q := by
  induction h with
  | nil => simp
  | cons h k hr ih =>
    intro j hj
    rcases List.mem_cons.1 hj with rfl | hj
    · exact ⟨_, _, h, k⟩
    · exact ih j hj

theorem AnyQ.all {P : Program} {ops : Array Oper} {fuel : Nat} {listed : Array Bool} {s : St} {Q : St → Prop} {i : Nat} {r : List Nat} (hr : Region.ready .any ops listed = i :: r) (h : AllR P ops fuel listed s Q (i :: r)) : AnyQ P ops (fuel + 1) listed s Q := fun G g w a QQ hrel kk => by
  refine wpAnyIn_all hr (by simp) fun j hj => ?_
  obtain ⟨x, st', h1, k1⟩ := h.mem j hj
  have hlt := mem_ready (md := .any) (ops := ops) (listed := listed) (i := j) (by rw [hr]; exact hj)
  have := h1 [] (fun s' => s' = putS s (dstOf ops j) x st') (AOL.nil rfl) G g w a (fun e a' w' => match e with | .normal => wpAnyIn (FW none) 0 P .any ops (fun e a w => e = .normal ∧ QQ e a w) fuel (listed.setIfInBounds j true) a' w' | e => e = .normal ∧ QQ e a' w') hrel ?_
  · exact wpOpIn_of this
  · rintro s' g' w' a' rfl hr' hev hdf _
    refine k1 G g' w' a' QQ hr' fun s2 g2 w2 a2 q hr2 he2 hd2 => kk s2 g2 w2 a2 q hr2 (hev.trans he2) (hd2.trans hdf)
theorem AnyQ.fin {P : Program} {ops : Array Oper} {fuel : Nat} {listed : Array Bool} {s : St} {Q : St → Prop} (hr : Region.ready .any ops listed = []) (h : Q s) : AnyQ P ops fuel listed s Q := fun G g w a QQ hrel kk =>
  wpAnyIn_done hr ⟨rfl, kk s g w a h hrel (.refl _ _ _) rfl⟩ fuel

def evAt (A : Ar) (tab : List TI) (ops : Array Oper) (i : Nat) (s : St) : Option (AV × List AObj) := match ops[i]? with
  | some o => match gd ops s o.guard with
    | some true => bif dstOk s o.dst then ev1 A tab s o.op else none
    | _ => none
  | none => none
theorem One.ev {A : Ar} {tab : List TI} (hA : A = real) {r : Option Nat} {P : Program} (hT : TabOk P tab) {ops : Array Oper} {i : Nat} {s : St} {x : AV} {st' : List AObj} (h : evAt A tab ops i s = some (x, st')) : One r P ops i s x st' := by
  unfold evAt at h
  split at h
  · rename_i o ho
    split at h
    · rename_i hg
      cases hd : dstOk s o.dst with
      | false => rw [hd] at h; simp at h
      | true =>
        rw [hd] at h
        intro rest Q k
        have he : dstOf ops i = o.dst := by simp [dstOf, ho]
        rw [he] at k
        exact AOL.step ho hg hd (ev1_nd h) (ev1_mem hA hT h) k
    · simp at h
  · simp at h

theorem One.cut_hv {r : Option Nat} {P : Program} {ops : Array Oper} {i : Nat} {s : St} {tab : List TI} (hT : TabOk P tab) {t e : TypeId} {j : TI} {x z : Operand} {ex : Bool} {xs ys : List (List IC)} {k : IntKind} {n : Int} (h : opAt ops i s = some (.slice t x none (some z) none)) (ht : slT tab t = some (e, j))
    (hx : s.ev x = .ic (.sl j.size ex xs)) (hz : s.ev z = .ic (.lit (.int k n))) (h0 : 0 ≤ n) (h1 : n ≤ (xs.length : Int)) (hy : xs.take n.toNat = ys) : One r P ops i s (.ic (.sl j.size false ys)) s.st := by
  subst hy
  exact One.cut_h hT h ht hx hz h0 h1

/-- A region that draws its order: free moves first, the others order by order. -/
theorem AWp.drawA {P : Program} {ops : Array Oper} {id : Nat} {s : St} {Q : Exit → St → Prop} (fr : List Nat) (listed : Array Bool) (n : Nat) (hm : P.follows .mixedOrders = true) (hs : Region.noSelect ops = true) (ht : takeB s.nt ops fr (Array.replicate ops.size false) = true)
    (hfq : fr.all (fun f => Nat.blt f ops.size) = true) (hl : fr.foldl (fun l f => l.setIfInBounds f true) (Array.replicate ops.size false) = listed) (hn : n = ops.size - fr.length) (h : AnyQ P ops n listed (frS ops fr s) (Q .normal)) : AWp none P (.region id ops true) s Q := fun G g w a B QQ hr hB hd k => by
  have ev0 : Evo s.st g w s.st g { w with drawn := w.drawn + 1 } := .below ⟨rfl, rfl, rfl, Nat.le_refl _, fun _ _ => rfl⟩
  have sr0 : SR G s.st g { w with drawn := w.drawn + 1 } := hr.sr.below (w := w) (w' := { w with drawn := w.drawn + 1 }) ⟨rfl, rfl, rfl, Nat.le_refl _, fun _ _ => rfl⟩
  have hr0 : Rel G s g { w with drawn := w.drawn + 1 } a := ⟨fun t => (hr.slots t).evo ev0, hr.size, sr0⟩
  obtain ⟨hst, hnt⟩ := frS_st (ops := ops) fr s
  refine wpIn_region_any hm (wpAnyIn_monoQ (Q' := fun e a w => e = .normal ∧ QQ e a w) (fun e a w h => h.2) _ _ _ _ ?_)
  have key : ∀ (fr : List Nat) (s : St) (l : Array Bool) (a : Act) (fuel : Nat), l.size = ops.size → fr.all (fun f => Nat.blt f ops.size) = true → takeB s.nt ops fr l = true → Rel G s g { w with drawn := w.drawn + 1 } a → fuel = n + fr.length → fr.foldl (fun l f => l.setIfInBounds f true) l = listed →
      (∀ a', Rel G (frS ops fr s) g { w with drawn := w.drawn + 1 } a' → a'.defers = a.defers → wpAnyIn (FW none) 0 P .any ops (fun e a w => e = .normal ∧ QQ e a w) n listed a' { w with drawn := w.drawn + 1 }) →
      wpAnyIn (FW none) 0 P .any ops (fun e a w => e = .normal ∧ QQ e a w) fuel l a { w with drawn := w.drawn + 1 } := by
    intro fr
    induction fr with
    | nil =>
      intro s l a fuel _ _ _ hr hf hl kk
      simp only [List.foldl_nil] at hl
      subst hl
      simp at hf
      subst hf
      exact kk a hr rfl
    | cons f fr ih =>
      intro s l a fuel hsz hfq hb hr hf hl kk
      simp only [takeB, Bool.and_eq_true, Bool.not_eq_true'] at hb
      obtain ⟨⟨⟨hb1, hb2⟩, hb3⟩, hb4⟩ := hb
      cases hmv : mvOf ops f with
      | none => simp [hmv] at hb1
      | some p =>
        obtain ⟨d, x⟩ := p
        simp only [hmv] at hb1
        have hd := Nat.le_of_ble_eq_true hb1
        obtain ⟨o, ho, hop, hg, hdst, haf⟩ := mvOf_ok hmv
        have hready : f ∈ Region.ready .any ops l := ready_of ho hb2 (by rw [haf]; simp)
        have hy : YieldsFenced P ops o (a.eval x) a := by
          refine ⟨.inl ⟨by unfold Region.wanted; rw [hg], fun w => by simp [execOp, hop]⟩, fun w => by simp [Oper.about, hop]⟩
        obtain ⟨m, rfl⟩ : ∃ m, fuel = m + 1 := ⟨fuel - 1, by simp at hf; omega⟩
        refine wpAnyIn_take (i := f) rfl ho hs hb3 (by simpa using hready) (fun c a w h => by simp at h) hy ?_
        have hrel : Rel G ⟨s.nt, (d, s.ev x) :: s.env, s.st⟩ g { w with drawn := w.drawn + 1 } (a.put o.dst (a.eval x)) := by
          rw [hdst]
          exact hr.put d (by omega) (.refl _ _ _) hr.sr (hr.ev x)
        simp only [List.all_cons, Bool.and_eq_true] at hfq
        refine ih ⟨s.nt, (d, s.ev x) :: s.env, s.st⟩ (l.setIfInBounds f true) (a.put o.dst (a.eval x)) m (by simpa using hsz) hfq.2 hb4 hrel (by simp at hf; omega) (by simpa using hl) fun a' h1 h2 => kk a' (by simpa only [frS, hmv] using h1) (by rw [h2]; cases o.dst <;> rfl)
  refine key fr s _ a ops.size (by simp) hfq ht hr0 ?_ hl ?_
  · have : fr.length ≤ ops.size := by
      -- the moves are told apart by takeB
      have nd : ∀ (fr : List Nat) (l : Array Bool), l.size = ops.size → fr.all (fun f => Nat.blt f ops.size) = true → takeB s.nt ops fr l = true → fr.length + left (fr.foldl (fun l f => l.setIfInBounds f true) l) ops.size = left l ops.size := by
        intro fr
        induction fr with
        | nil => intro l _ _ _; simp
        | cons f fr ih =>
          intro l hsz hfq hb
          simp only [takeB, Bool.and_eq_true, Bool.not_eq_true'] at hb
          simp only [List.all_cons, Bool.and_eq_true] at hfq
          have hf := Nat.le_of_ble_eq_true hfq.1
          have := left_set (listed := l) (i := f) (q := ops.size) (by omega) hf hb.1.1.2
          have := ih (l.setIfInBounds f true) (by simpa using hsz) hfq.2 hb.2
          simp only [List.length_cons, List.foldl_cons]
          omega
      have := nd fr (Array.replicate ops.size false) (by simp) hfq ht
      have h2 : left (Array.replicate ops.size false) ops.size ≤ ops.size := by unfold left; exact Nat.le_trans (List.length_filter_le _ _) (by simp)
      omega
    omega
  · intro a' h1 h2
    refine h G g _ a' QQ h1 fun s' g' w' a2 q hr' he hd' => ?_
    rw [hst] at he
    exact k _ s' g' w' a2 q hr' (ev0.trans he) (by rw [hd', h2]; exact hd.evo hr.sr (ev0.trans he))
end Go.Proofs.Ytpphdaphbkepfaa.Aw
