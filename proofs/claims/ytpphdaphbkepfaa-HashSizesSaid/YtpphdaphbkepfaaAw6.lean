/- The abstract walk, part 6: code, loops, regions that draw their order, functions' contracts out of their bodies. -/
import Derived.Test.YtpphdaphbkepfaaAw5
set_option linter.unusedVariables false
set_option linter.unusedSimpArgs false
namespace Go.Proofs.Ytpphdaphbkepfaa.Aw
open Go Go.RowKit

/-- The activation's deferred calls: marks of ranges over functions alone. -/
def DM (B : Nat) (w : World) (ds : List Deferred) : Prop := ∃ qs : List Nat, ds = qs.map (fun q => { target := .collected q, args := #[] }) ∧ qs.Nodup ∧ ∀ q ∈ qs, B ≤ q ∧ w.heap[q]? = some (.deferred (some []))

theorem not_own {G : Nat → Prop} {s : List AObj} {g : Ghost} {w : World} (h : SR G s g w) {q : Nat} {o : Obj} (hq : w.heap[q]? = some o) (hc : ∀ c e f, o ≠ .cells c e f) (hlp : ∀ r, o ≠ .loop r) : ¬ Own s g q := by
  rintro ⟨i, p, hi, hm, hg⟩
  have := h.obj i p hi
  cases p with
  | dead => simp [AObj.mu] at hm
  | var m t cs =>
    obtain ⟨b, vs, h1, h2, h3, _⟩ := this
    rw [h1] at hg
    obtain rfl : b = q := by simpa [gb] using hg
    rw [h3] at hq
    exact hc _ _ _ (Option.some.inj hq).symm
  | row m ver e sz xs =>
    obtain ⟨cells, ⟨hl, h1⟩, _⟩ := this
    rcases h1 with ⟨h1, _⟩ | ⟨g0, cap, cur, e1, e2, e3, r⟩
    · rw [h1] at hg; simp [gb] at hg
    · rw [e1] at hg
      obtain rfl : g0 = q := by simpa [gb] using hg
      rw [e3] at hq
      exact hc _ _ _ (Option.some.inj hq).symm
  | lp c =>
    obtain ⟨b, r, h1, h2, h3, _⟩ := this
    rw [h1] at hg
    obtain rfl : b = q := by simpa [gb] using hg
    rw [h3] at hq
    exact hlp _ (Option.some.inj hq).symm

theorem DM.evo {B : Nat} {G : Nat → Prop} {s s' : List AObj} {g g' : Ghost} {w w' : World} {ds : List Deferred} (h : DM B w ds) (hr : SR G s g w) (k : Evo s g w s' g' w') : DM B w' ds := by
  obtain ⟨qs, e, hn, hq⟩ := h
  exact ⟨qs, e, hn, fun q hqs => ⟨(hq q hqs).1, (k.heap q (Array.getElem?_eq_some_iff.1 (hq q hqs).2).1 (not_own hr (hq q hqs).2 (by simp) (by simp))).trans (hq q hqs).2⟩⟩

/-- Code c from state s; behind it Q, by the way in which it is left. -/
def AWp (r : Option Nat) (P : Program) (c : Code) (s : St) (Q : Exit → St → Prop) : Prop :=
  ∀ G g w a B QQ, Rel G s g w a → B ≤ w.heap.size → DM B w a.defers →
    (∀ e s' g' w' a', Q e s' → Rel G s' g' w' a' → Evo s.st g w s'.st g' w' → DM B w' a'.defers → QQ e a' w') → c.wpIn (FW r) 0 P QQ a w

section rules
variable {r : Option Nat} {P : Program} {s : St} {Q : Exit → St → Prop}

theorem AWp.mono {c : Code} {Q' : Exit → St → Prop} (h : AWp r P c s Q) (hq : ∀ e s, Q e s → Q' e s) : AWp r P c s Q' := fun G g w a B QQ hr hB hd k => h G g w a B QQ hr hB hd fun e s' g' w' a' q => k e s' g' w' a' (hq _ _ q)

theorem AWp.skip (h : Q .normal s) : AWp r P .skip s Q := fun G g w a B QQ hr hB hd k => wpIn_skip (k _ s g w a h hr (.refl _ _ _) hd)
theorem AWp.ret (h : Q .ret s) : AWp r P .ret s Q := fun G g w a B QQ hr hB hd k => wpIn_ret (k _ s g w a h hr (.refl _ _ _) hd)
theorem AWp.exit {id : Nat} (h : Q (.exit id) s) : AWp r P (.exit id) s Q := fun G g w a B QQ hr hB hd k => wpIn_exit (k _ s g w a h hr (.refl _ _ _) hd)

/-- Behind the first of two. -/
def Thn (Q1 : St → Prop) (Q : Exit → St → Prop) : Exit → St → Prop
  | .normal, s => Q1 s
  | e, s => Q e s

theorem AWp.seq {x y : Code} (h : AWp r P x s (Thn (fun s' => AWp r P y s' Q) Q)) : AWp r P (.seq x y) s Q := fun G g w a B QQ hr hB hd k => by
  refine wpIn_seq (h G g w a B _ hr hB hd fun e s' g' w' a' q hr' he hd' => ?_)
  cases e with
  | normal => exact q G g' w' a' B QQ hr' (Nat.le_trans hB he.size) hd' fun e2 s2 g2 w2 a2 q2 hr2 he2 hd2 => k e2 s2 g2 w2 a2 q2 hr2 (he.trans he2) hd2
  | _ => exact k _ s' g' w' a' q hr' he hd'

theorem AWp.cond {c : Operand} {x y : Code} {b : Bool} (hc : s.ev c = .ic (.lit (.bool b))) (ht : b = true → AWp r P x s Q) (hf : b = false → AWp r P y s Q) : AWp r P (.cond c x y) s Q := fun G g w a B QQ hr hB hd k => by
  have h := hr.ev c
  rw [hc] at h
  refine wpIn_cond h.lit_inv ?_
  cases b with
  | true => exact ht rfl G g w a B QQ hr hB hd k
  | false => exact hf rfl G g w a B QQ hr hB hd k
theorem AWp.cond_t {c : Operand} {x y : Code} (hc : s.ev c = .ic (.lit (.bool true))) (h : AWp r P x s Q) : AWp r P (.cond c x y) s Q := .cond hc (fun _ => h) (by simp)
theorem AWp.cond_f {c : Operand} {x y : Code} (hc : s.ev c = .ic (.lit (.bool false))) (h : AWp r P y s Q) : AWp r P (.cond c x y) s Q := .cond hc (by simp) (fun _ => h)

def Blk (id : Nat) (Q : Exit → St → Prop) : Exit → St → Prop
  | .exit id', s => if id' = id then Q .normal s else Q (.exit id') s
  | e, s => Q e s
theorem AWp.block {id : Nat} {c : Code} (h : AWp r P c s (Blk id Q)) : AWp r P (.block id c) s Q := fun G g w a B QQ hr hB hd k => by
  refine wpIn_block (h G g w a B _ hr hB hd fun e s' g' w' a' q hr' he hd' => ?_)
  cases e with
  | exit id' =>
    simp only [Exit.inBlock]
    simp only [Blk] at q
    split
    · rename_i e; rw [if_pos e] at q; exact k _ s' g' w' a' q hr' he hd'
    · rename_i e; rw [if_neg e] at q; exact k _ s' g' w' a' q hr' he hd'
  | _ => exact k _ s' g' w' a' q hr' he hd'

/-- A loop: I n holds at its head; each round lowers n. -/
theorem AWp.loop {c : Code} (I : Nat → St → Prop) (n : Nat) (h0 : I n s) (round : ∀ n s, I n s → AWp r P c s (Thn (fun s' => ∃ m, m < n ∧ I m s') Q)) : AWp r P (.loop c) s Q := fun G g w a B QQ hr hB hd k => by
  let J : Nat → Act → World → Prop := fun m a' w' => ∃ s' g', I m s' ∧ Rel G s' g' w' a' ∧ Evo s.st g w s'.st g' w' ∧ DM B w' a'.defers
  have hJ : ∀ a' w', (∃ m, J m a' w') → ∃ m, J m a' w' ∧ ∀ k, J k a' w' → m ≤ k := fun a' w' ⟨m, hm⟩ => by
    induction m using Nat.strongRecOn with
    | _ m ih =>
      by_cases h : ∃ k, k < m ∧ J k a' w'
      · obtain ⟨k, hk, hj⟩ := h
        exact ih k hk hj
      · exact ⟨m, hm, fun k hk => by
          rcases Nat.lt_or_ge k m with hlt | hge
          · exact absurd ⟨k, hlt, hk⟩ h
          · exact hge⟩
  let μ : Act → World → Nat := fun a' w' => Classical.epsilon fun m => J m a' w' ∧ ∀ k, J k a' w' → m ≤ k
  have hμ : ∀ a' w', (∃ m, J m a' w') → J (μ a' w') a' w' ∧ ∀ k, J k a' w' → μ a' w' ≤ k := fun a' w' h => Classical.epsilon_spec (hJ a' w' h)
  refine wpIn_loop (fun a' w' => ∃ m, J m a' w') μ ⟨n, s, g, h0, hr, .refl _ _ _, hd⟩ fun a1 w1 h1 => ?_
  obtain ⟨⟨s1, g1, i1, r1, e1, d1⟩, hmin⟩ := hμ a1 w1 h1
  refine round _ s1 i1 G g1 w1 a1 B _ r1 (Nat.le_trans hB e1.size) d1 fun e s2 g2 w2 a2 q r2 e2 d2 => ?_
  cases e with
  | normal =>
    obtain ⟨m, hlt, hm⟩ := q
    have hj : J m a2 w2 := ⟨s2, g2, hm, r2, e1.trans e2, d2⟩
    exact ⟨⟨m, hj⟩, Nat.lt_of_le_of_lt ((hμ a2 w2 ⟨m, hj⟩).2 m hj) hlt⟩
  | _ => exact k _ s2 g2 w2 a2 q r2 (e1.trans e2) d2

/-- Less is told of the frame. -/
def Sub (s' s : St) : Prop := s'.nt = s.nt ∧ s'.st = s.st ∧ ∀ p ∈ s'.env, s.get p.1 = p.2
theorem look_mem (env : List (Nat × AV)) (t : Nat) : look env t = .any ∨ ∃ p ∈ env, p.1 = t ∧ p.2 = look env t := by
  induction env with
  | nil => exact .inl rfl
  | cons p r ih =>
    obtain ⟨k, x⟩ := p
    simp only [look]
    cases h : Nat.beq k t with
    | true => exact .inr ⟨(k, x), List.mem_cons_self, Nat.eq_of_beq_eq_true h, by simp⟩
    | false =>
      simp only [cond_false]
      rcases ih with h' | ⟨p, hp, e1, e2⟩
      · exact .inl h'
      · exact .inr ⟨p, List.mem_cons_of_mem _ hp, e1, e2⟩
theorem Rel.sub {G : Nat → Prop} {s s' : St} {g : Ghost} {w : World} {a : Act} (h : Rel G s g w a) (hs : Sub s' s) : Rel G s' g w a := by
  obtain ⟨h1, h2, h3⟩ := hs
  refine ⟨fun t => ?_, by rw [h1]; exact h.size, by rw [h2]; exact h.sr⟩
  rw [h2]
  rcases look_mem s'.env t with e | ⟨p, hp, e1, e2⟩
  · show AR G s.st g w (look s'.env t) _
    rw [e]
    exact .any _
  · show AR G s.st g w (look s'.env t) _
    rw [← e2, ← h3 p hp, e1]
    exact h.slots t
theorem AWp.sub {c : Code} {s' : St} (hs : Sub s' s) (h : AWp r P c s' Q) : AWp r P c s Q := fun G g w a B QQ hr hB hd k =>
  h G g w a B QQ (hr.sub hs) hB hd fun e s2 g2 w2 a2 q r2 e2 d2 => k e s2 g2 w2 a2 q r2 (by rw [← hs.2.1]; exact e2) d2

theorem AWp.region {id : Nat} {ops : Array Oper} (h : AOL r P ops (List.range ops.size) s (Q .normal)) : AWp r P (.region id ops false) s Q := fun G g w a B QQ hr hB hd k =>
  wpIn_region (h G g w a QQ hr fun s' g' w' a' q hr' he hdf _ => k _ s' g' w' a' q hr' he (by rw [hdf]; exact hd.evo hr.sr he))
end rules

/-! ### a region that draws its order -/
/-- Of the frame only these slots are told. -/
def restr (T : St) (ts : List Nat) : St := { T with env := ts.map fun t => (t, T.get t) }

theorem look_restr (T : St) (ts : List Nat) (t : Nat) : look (ts.map fun t => (t, T.get t)) t = if t ∈ ts then T.get t else .any := by
  induction ts with
  | nil => rfl
  | cons k r ih =>
    simp only [List.map_cons, look]
    cases h : Nat.beq k t with
    | true =>
      have := Nat.eq_of_beq_eq_true h
      subst this
      simp
    | false =>
      have hne : ¬ t = k := fun e => by subst e; simp [Nat.beq_refl] at h
      simp only [cond_false, ih, List.mem_cons, hne, false_or]

def bindsE (e : Edge) : Bool := Region.binds .any e
/-- Is j ahead of i by the edges? -/
def aheadB (ops : Array Oper) : Nat → Nat → Nat → Bool
  | 0, _, _ => false
  | n + 1, i, j => match ops[i]? with
    | some o => o.after.any fun e => bindsE e && (Nat.beq e.on j || aheadB ops n e.on j)
    | none => false
def dstOf (ops : Array Oper) (j : Nat) : Option Nat := (ops[j]?).bind (·.dst)
/-- What the theorem asks of the region's text: q operations that may come in any order their edges allow, each behind those whose values it reads; each of the others behind all that stand ahead of it. -/
def drawB (ops : Array Oper) (q : Nat) : Bool :=
  Nat.ble q ops.size &&
  (List.range ops.size).all (fun i => match ops[i]? with
    | some o => o.after.all (fun e => !bindsE e || Nat.blt e.on i) &&
      (bif Nat.blt i q then
        (match o.dst with | some d => (List.range ops.size).all (fun j => Nat.beq i j || !(dstOf ops j == some d)) | none => false) &&
        (o.looksAt ops).all (fun t => (List.range ops.size).all (fun j => !(dstOf ops j == some t) || (Nat.blt j q && o.after.any (fun e => bindsE e && Nat.beq e.on j))))
      else (List.range i).all (fun j => aheadB ops ops.size i j))
    | none => false)

theorem wpOpIn_of {F : Fence} {n : Nat} {P : Program} {ops : Array Oper} {Q : Exit → Act → World → Prop} {K : Act → World → Prop} {i : Nat} {a : Act} {w : World}
    (h : wpOpIn F n P ops (fun e a w => match e with | .normal => K a w | e => Q e a w) i K a w) : wpOpIn F n P ops Q i K a w := by
  unfold wpOpIn at *
  split
  · rename_i ho; simpa [ho] using h
  · rename_i o ho
    simp only [ho] at h
    split
    · rename_i hw
      simp only [hw, if_true] at h
      unfold Oper.wpIn at *
      refine ⟨h.1, ?_⟩
      have hh := h.2
      generalize (o.semAt F.round a.eval).run P w = r at *
      cases r with
      | ok x w' =>
        cases x <;> simp only [Oper.uponIn] at hh ⊢ <;>
          first
            | exact hh
            | exact ⟨hh.1, CallsIn.mono hh.2 (fun e w'' he => by cases e <;> exact he)⟩
            | exact ⟨hh.1, RowsIn.mono hh.2 (fun _ _ he => he)⟩
            | exact ⟨hh.1, RoundIn.mono hh.2 (fun e w'' he => by cases e <;> exact he)⟩
      | halt x w' => cases x <;> simp only [Oper.uponIn] at hh ⊢ <;> exact hh
    · rename_i hw
      simp only [hw] at h
      exact h

section draw
variable {r : Option Nat} {P : Program} {ops : Array Oper}

theorem mem_ready {md : Region.Mode} {listed : Array Bool} {i : Nat} (h : i ∈ Region.ready md ops listed) : i < ops.size ∧ listed.getD i true = false ∧ ∃ o, ops[i]? = some o ∧ ∀ e ∈ o.after, Region.binds md e = true → listed.getD e.on false = true := by
  unfold Region.ready at h
  rw [List.mem_filter, List.mem_range] at h
  obtain ⟨h1, h2⟩ := h
  simp only [Bool.and_eq_true, Bool.not_eq_true'] at h2
  obtain ⟨h2, h3⟩ := h2
  cases ho : ops[i]? with
  | none => simp [ho] at h3
  | some o =>
    refine ⟨h1, h2, o, rfl, fun e he hb => ?_⟩
    simp only [ho, Option.map_some, Option.getD_some, Array.all_eq_true_iff_forall_mem] at h3
    have := h3 e he
    simpa [hb] using this

/-- What is listed is listed with all that is ahead of it. -/
def Closed (ops : Array Oper) (listed : Array Bool) : Prop := ∀ i o, listed.getD i false = true → ops[i]? = some o → ∀ e ∈ o.after, bindsE e = true → listed.getD e.on false = true

theorem ahead_listed {listed : Array Bool} (hc : Closed ops listed) : ∀ (n i j : Nat), aheadB ops n i j = true → ∀ o, ops[i]? = some o → (∀ e ∈ o.after, bindsE e = true → listed.getD e.on false = true) → listed.getD j false = true
  | 0, i, j, h, o, ho, he => by simp [aheadB] at h
  | n + 1, i, j, h, o, ho, he => by
    simp only [aheadB, ho, Array.any_eq_true] at h
    obtain ⟨k, hk, h⟩ := h
    simp only [Bool.and_eq_true, Bool.or_eq_true] at h
    obtain ⟨hb, h⟩ := h
    have hl := he _ (Array.getElem_mem hk) hb
    rcases h with h | h
    · rw [Nat.eq_of_beq_eq_true h] at hl
      exact hl
    · cases ho' : ops[(o.after[k]).on]? with
      | none =>
        cases n with
        | zero => simp [aheadB] at h
        | succ n => simp [aheadB, ho'] at h
      | some o' => exact ahead_listed hc n _ j h o' ho' (hc _ o' hl ho')

theorem getD_setB (l : Array Bool) (i j : Nat) (d : Bool) (h : i < l.size) : (l.setIfInBounds i true).getD j d = if i = j then true else l.getD j d := by
  by_cases e : i = j
  · subst e
    simp [Array.getD, h]
  · rw [if_neg e]
    simp only [Array.getD_eq_getD_getElem?]
    rw [Array.getElem?_setIfInBounds_ne e]

theorem closed_set {listed : Array Bool} {i : Nat} {o : Oper} (hc : Closed ops listed) (ho : ops[i]? = some o) (hi : i < listed.size) (he : ∀ e ∈ o.after, bindsE e = true → listed.getD e.on false = true) : Closed ops (listed.setIfInBounds i true) := by
  intro j p hj hp e hem hb
  rw [getD_setB _ _ _ _ hi] at hj ⊢
  split
  · rfl
  · by_cases e' : i = j
    · subst e'
      rw [ho] at hp
      obtain rfl := Option.some.inj hp
      exact he e hem hb
    · rw [if_neg e'] at hj
      exact hc j p hj hp e hem hb

theorem ready_of {listed : Array Bool} {i : Nat} {o : Oper} (ho : ops[i]? = some o) (hl : listed.getD i true = false) (he : ∀ e ∈ o.after, bindsE e = true → listed.getD e.on false = true) : i ∈ Region.ready .any ops listed := by
  unfold Region.ready
  rw [List.mem_filter, List.mem_range]
  refine ⟨(Array.getElem?_eq_some_iff.1 ho).1, ?_⟩
  simp only [hl, Bool.not_false, Bool.true_and, ho, Option.map_some, Option.getD_some, Array.all_eq_true_iff_forall_mem]
  intro e hem
  cases hb : Region.binds .any e with
  | false => rfl
  | true => simpa using he e hem hb

theorem getD_tf {l : Array Bool} {j : Nat} (h : j < l.size) (a b : Bool) : l.getD j a = l.getD j b := by simp [Array.getD, h]

/-- All up to number i have come: the others come one by one. -/
theorem tail_any {QQ : Exit → Act → World → Prop} (hE : ∀ i o, ops[i]? = some o → ∀ e ∈ o.after, bindsE e = true → e.on < i) :
    ∀ (fuel i : Nat) (listed : Array Bool) (a : Act) (w : World), listed.size = ops.size → i + fuel = ops.size → (∀ j, j < i → listed.getD j true = true) → (∀ j, i ≤ j → j < ops.size → listed.getD j true = false) → Closed ops listed →
      (∀ j o, i ≤ j → ops[j]? = some o → ∀ k, i ≤ k → k < j → aheadB ops ops.size j k = true) → wpOpsIn (FW r) 0 P ops QQ ((List.range fuel).map (i + ·)) a w → wpAnyIn (FW r) 0 P .any ops QQ fuel listed a w
  | 0, i, listed, a, w, hs, hf, h1, h2, hc, ha, h => by
    refine ⟨?_, h⟩
    rw [List.eq_nil_iff_forall_not_mem]
    intro j hj
    obtain ⟨hj1, hj2, _⟩ := mem_ready hj
    have := h1 j (by omega)
    rw [this] at hj2
    simp at hj2
  | fuel + 1, i, listed, a, w, hs, hf, h1, h2, hc, ha, h => by
    have hrange : (List.range (fuel + 1)).map (i + ·) = i :: (List.range fuel).map ((i + 1) + ·) := by
      rw [List.range_succ_eq_map, List.map_cons, List.map_map]
      congr 1
      apply List.map_congr_left
      intro x _
      show i + (x + 1) = i + 1 + x
      omega
    rw [hrange, wpOpsIn_cons] at h
    have hil : i < ops.size := by omega
    have only : ∀ j ∈ Region.ready .any ops listed, j = i := fun j hj => by
      obtain ⟨hj1, hj2, o, ho, he⟩ := mem_ready hj
      rcases Nat.lt_trichotomy j i with hlt | e | hgt
      · rw [h1 j hlt] at hj2; simp at hj2
      · exact e
      · have := ahead_listed hc _ j i (ha j o (by omega) ho i (Nat.le_refl _) hgt) o ho he
        rw [getD_tf (by omega) false true, h2 i (Nat.le_refl _) hil] at this
        simp at this
    refine ⟨fun hnil => ?_, fun j hj => ?_⟩
    · exfalso
      have ho := Array.getElem?_eq_getElem hil
      have hmem := ready_of ho (h2 i (Nat.le_refl _) hil) (fun e hem hb => by
        have := hE i _ ho e hem hb
        rw [getD_tf (by omega) false true]
        exact h1 _ this)
      rw [hnil] at hmem
      exact List.not_mem_nil hmem
    · obtain ⟨hj1, hj2, o, ho, he⟩ := mem_ready hj
      obtain rfl := only j hj
      refine wpOpIn_mono (fun a' w' hw => ?_) h
      refine tail_any hE fuel (j + 1) _ a' w' (by simp [hs]) (by omega) (fun k hk => ?_) (fun k hk hk2 => ?_) (closed_set hc ho (by omega) he) (fun k o hk ho' k2 h1 h2 => ha k o (by omega) ho' k2 (by omega) h2) hw
      · rw [getD_setB _ _ _ _ (by omega)]
        split
        · rfl
        · exact h1 k (by omega)
      · rw [getD_setB _ _ _ _ (by omega), if_neg (by omega)]
        exact h2 k (by omega) hk2

/-- How many of the first q have not come. -/
def left (listed : Array Bool) (q : Nat) : Nat := ((List.range q).filter fun j => !listed.getD j true).length
theorem left_set_list (listed : Array Bool) (i : Nat) (hi : i < listed.size) (h : listed.getD i true = false) : ∀ (xs : List Nat), xs.Nodup → (xs.filter fun j => !listed.getD j true).length = (xs.filter fun j => !(listed.setIfInBounds i true).getD j true).length + if i ∈ xs then 1 else 0
  | [], _ => by simp
  | x :: r, hn => by
    have ih := left_set_list listed i hi h r (List.nodup_cons.1 hn).2
    simp only [List.filter_cons, getD_setB _ _ _ _ hi]
    simp only [getD_setB _ _ _ _ hi] at ih
    by_cases e : i = x
    · subst e
      have : ¬ i ∈ r := (List.nodup_cons.1 hn).1
      simp only [h, Bool.not_false, if_true, List.length_cons, Bool.not_true, List.mem_cons, true_or]
      rw [if_neg this] at ih
      simp only [Bool.false_eq_true, if_false]
      omega
    · have hx : (i ∈ x :: r) ↔ i ∈ r := by simp [e]
      simp only [if_neg e, hx]
      split
      · simp only [List.length_cons]; omega
      · exact ih
theorem left_set {listed : Array Bool} {i q : Nat} (hi : i < listed.size) (hq : i < q) (h : listed.getD i true = false) : left listed q = left (listed.setIfInBounds i true) q + 1 := by
  have := left_set_list listed i hi h (List.range q) List.nodup_range
  rw [if_pos (List.mem_range.2 hq)] at this
  exact this

theorem quiet_any {G : Nat → Prop} {s0 T : St} {g0 : Ghost} {w0 : World} {a0 : Act} {QQ : Exit → Act → World → Prop} {Q : St → Prop} {q : Nat} (hq : q ≤ ops.size)
    (hE : ∀ i o, ops[i]? = some o → ∀ e ∈ o.after, bindsE e = true → e.on < i)
    (hT : ∀ i o, q ≤ i → ops[i]? = some o → ∀ j, j < i → aheadB ops ops.size i j = true)
    (hD : ∀ i o, i < q → ops[i]? = some o → ∃ d, o.dst = some d ∧ ∀ j, j < ops.size → dstOf ops j = some d → j = i)
    (hL : ∀ i o, i < q → ops[i]? = some o → ∀ t ∈ o.looksAt ops, ∀ j, j < ops.size → dstOf ops j = some t → ∃ e ∈ o.after, bindsE e = true ∧ e.on = j)
    (hops : ∀ i o d, i < q → ops[i]? = some o → o.dst = some d → AOL r P ops [i] (restr T (o.looksAt ops)) (fun s' => s'.get d = T.get d ∧ s'.st = T.st ∧ s'.nt = T.nt))
    (hst : T.st = s0.st) (htail : AOL r P ops ((List.range (ops.size - q)).map (q + ·)) T Q)
    (kk : ∀ s' g' w' a', Q s' → Rel G s' g' w' a' → Evo s0.st g0 w0 s'.st g' w' → a'.defers = a0.defers → QQ Exit.normal a' w') :
    ∀ (fuel : Nat) (listed : Array Bool) (a : Act) (g : Ghost) (w : World), listed.size = ops.size → left listed q + (ops.size - q) = fuel → (∀ j, q ≤ j → j < ops.size → listed.getD j true = false) → Closed ops listed →
      a.tmps.size = T.nt → SR G T.st g w → (∀ t, (∀ j, j < ops.size → dstOf ops j = some t → j < q → listed.getD j true = true) → AR G T.st g w (T.get t) (a.tmps.getD t undef)) →
      Evo s0.st g0 w0 T.st g w → a.defers = a0.defers → wpAnyIn (FW r) 0 P .any ops QQ fuel listed a w := by
  have finish : ∀ (listed : Array Bool) (a : Act) (g : Ghost) (w : World), listed.size = ops.size → (∀ j, j < q → listed.getD j true = true) → (∀ j, q ≤ j → j < ops.size → listed.getD j true = false) → Closed ops listed →
      a.tmps.size = T.nt → SR G T.st g w → (∀ t, (∀ j, j < ops.size → dstOf ops j = some t → j < q → listed.getD j true = true) → AR G T.st g w (T.get t) (a.tmps.getD t undef)) →
      Evo s0.st g0 w0 T.st g w → a.defers = a0.defers → wpAnyIn (FW r) 0 P .any ops QQ (ops.size - q) listed a w := by
    intro listed a g w hs h1 h2 hc hsz hsr hsl hev hdf
    have hrel : Rel G T g w a := ⟨fun t => hsl t fun j _ _ hj => h1 j hj, hsz, hsr⟩
    refine tail_any hE (ops.size - q) q listed a w hs (by omega) h1 h2 hc (fun j o hj ho k _ hk => hT j o hj ho k hk) ?_
    exact htail G g w a QQ hrel fun s' g' w' a' qs hr' he hd' _ => kk s' g' w' a' qs hr' (hev.trans he) (hd'.trans hdf)
  intro fuel
  induction fuel with
  | zero =>
    intro listed a g w hs hl h2 hc hsz hsr hsl hev hdf
    have h1 : ∀ j, j < q → listed.getD j true = true := fun j hj => by
      have : left listed q = 0 := by omega
      unfold left at this
      rw [List.length_eq_zero_iff, List.filter_eq_nil_iff] at this
      have := this j (List.mem_range.2 hj)
      simpa using this
    have := finish listed a g w hs h1 h2 hc hsz hsr hsl hev hdf
    rwa [show ops.size - q = 0 by omega] at this
  | succ fuel ih =>
    intro listed a g w hs hl h2 hc hsz hsr hsl hev hdf
    by_cases hall : ∀ j, j < q → listed.getD j true = true
    · have hz : left listed q = 0 := by
        unfold left
        rw [List.length_eq_zero_iff, List.filter_eq_nil_iff]
        intro j hj
        simp [hall j (List.mem_range.1 hj)]
      have := finish listed a g w hs hall h2 hc hsz hsr hsl hev hdf
      rwa [show ops.size - q = fuel + 1 by omega] at this
    · have hex : ∃ j, j < q ∧ listed.getD j true = false := by
        by_cases he : ∃ j, j < q ∧ listed.getD j true = false
        · exact he
        · exact absurd (fun j hj => by
            cases hb : listed.getD j true with
            | true => rfl
            | false => exact absurd ⟨j, hj, hb⟩ he) hall
      refine ⟨fun hnil => ?_, fun i hi => ?_⟩
      · exfalso
        -- the least one that has not come is ready
        have least : ∀ n j, j ≤ n → j < q → listed.getD j true = false → ∃ i, i < q ∧ listed.getD i true = false ∧ ∀ k, k < i → listed.getD k true = true := by
          intro n
          induction n with
          | zero =>
            intro j hj hjq hjl
            exact ⟨j, hjq, hjl, fun k hk => by omega⟩
          | succ n ihn =>
            intro j hj hjq hjl
            by_cases hk : ∃ k, k < j ∧ listed.getD k true = false
            · obtain ⟨k, hk1, hk2⟩ := hk
              exact ihn k (by omega) (by omega) hk2
            · refine ⟨j, hjq, hjl, fun k hk' => ?_⟩
              cases hb : listed.getD k true with
              | true => rfl
              | false => exact absurd ⟨k, hk', hb⟩ hk
        obtain ⟨j, hj1, hj2⟩ := hex
        obtain ⟨i, hi1, hi2, hi3⟩ := least j j (Nat.le_refl _) hj1 hj2
        have ho := Array.getElem?_eq_getElem (show i < ops.size by omega)
        have hmem := ready_of ho hi2 (fun e hem hb => by
          have := hE i _ ho e hem hb
          rw [getD_tf (by omega) false true]
          exact hi3 _ this)
        rw [hnil] at hmem
        exact List.not_mem_nil hmem
      · obtain ⟨hi1, hi2, o, ho, he⟩ := mem_ready hi
        have hiq : i < q := by
          rcases Nat.lt_or_ge i q with h | h
          · exact h
          · exfalso
            obtain ⟨j, hj1, hj2⟩ := hex
            have := ahead_listed hc _ i j (hT i o h ho j (by omega)) o ho he
            rw [getD_tf (by omega) false true, hj2] at this
            simp at this
        obtain ⟨d, hd, huniq⟩ := hD i o hiq ho
        have hrel : Rel G (restr T (o.looksAt ops)) g w a := by
          refine ⟨fun t => ?_, hsz, hsr⟩
          show AR G T.st g w (look ((o.looksAt ops).map fun t => (t, T.get t)) t) _
          rw [look_restr]
          split
          · rename_i hm
            refine hsl t fun j hj1 hj2 hj3 => ?_
            obtain ⟨e, hem, hb, rfl⟩ := hL i o hiq ho t hm j hj1 hj2
            rw [getD_tf (by omega) true false]
            exact he e hem hb
          · exact .any _
        have h := hops i o d hiq ho hd G g w a (fun e a' w' => match e with | .normal => wpAnyIn (FW r) 0 P .any ops QQ fuel (listed.setIfInBounds i true) a' w' | e => QQ e a' w') hrel ?_
        · exact wpOpIn_of h
        · rintro s' g' w' a' ⟨hget, hst', hnt'⟩ hr' hev' hdf' hfr
          have hev' : Evo T.st g w T.st g' w' := by rw [hst'] at hev'; exact hev'
          have hsr' : SR G T.st g' w' := by rw [← hst']; exact hr'.sr
          have hnt : a'.tmps.size = T.nt := hr'.size.trans hnt'
          refine ih _ a' g' w' (by simp [hs]) ?_ (fun j hj1 hj2 => ?_) (closed_set hc ho (by omega) he) hnt hsr' (fun t ht => ?_) (hev.trans hev') (hdf'.trans hdf)
          · have := left_set (listed := listed) (by omega) hiq hi2
            omega
          · rw [getD_setB _ _ _ _ (by omega), if_neg (by omega)]
            exact h2 j hj1 hj2
          · by_cases e : t = d
            · subst e
              have := hr'.slots t
              rw [hget, hst'] at this
              exact this
            · have : a'.tmps.getD t undef = a.tmps.getD t undef := hfr t fun j hj p hp => by
                obtain rfl := List.mem_singleton.1 hj
                rw [ho] at hp
                obtain rfl := Option.some.inj hp
                rw [hd]
                intro e2
                exact e (Option.some.inj e2).symm
              rw [this]
              refine (hsl t fun j hj1 hj2 hj3 => ?_).evo hev'
              have := ht j hj1 hj2 hj3
              rw [getD_setB _ _ _ _ (by omega)] at this
              split at this
              · rename_i e2
                subst e2
                simp only [dstOf, ho, Option.bind_some, hd, Option.some.injEq] at hj2
                exact absurd hj2.symm e
              · exact this

/-- A region that draws its order. T: what the slots hold when the first q have come, in whatever order. -/
theorem AWp.draw {id : Nat} {s : St} {Q : Exit → St → Prop} (q : Nat) (env : List (Nat × AV)) (hm : P.follows .mixedOrders = true) (hb : drawB ops q = true) (he : ∀ p ∈ env, ∃ i, i < q ∧ dstOf ops i = some p.1)
    (hops : ∀ i o d, i < q → ops[i]? = some o → o.dst = some d → AOL r P ops [i] (restr ⟨s.nt, env ++ s.env, s.st⟩ (o.looksAt ops)) (fun s' => s'.get d = look (env ++ s.env) d ∧ s'.st = s.st ∧ s'.nt = s.nt))
    (htail : AOL r P ops ((List.range (ops.size - q)).map (q + ·)) ⟨s.nt, env ++ s.env, s.st⟩ (Q .normal)) : AWp r P (.region id ops true) s Q := fun G g w a B QQ hr hB hd k => by
  simp only [drawB, Bool.and_eq_true, List.all_eq_true, List.mem_range] at hb
  obtain ⟨hq, hb⟩ := hb
  have hq := Nat.le_of_ble_eq_true hq
  have hE : ∀ i o, ops[i]? = some o → ∀ e ∈ o.after, bindsE e = true → e.on < i := fun i o ho e hem hbe => by
    have := hb i (Array.getElem?_eq_some_iff.1 ho).1
    simp only [ho, Bool.and_eq_true, Array.all_eq_true_iff_forall_mem] at this
    have := this.1 e hem
    rw [hbe] at this
    simp only [Bool.not_true, Bool.false_or] at this
    exact Nat.le_of_ble_eq_true this
  have hT : ∀ i o, q ≤ i → ops[i]? = some o → ∀ j, j < i → aheadB ops ops.size i j = true := fun i o hi ho j hj => by
    have := hb i (Array.getElem?_eq_some_iff.1 ho).1
    simp only [ho, Bool.and_eq_true] at this
    have h2 := this.2
    have hf : Nat.blt i q = false := by
      cases h : Nat.blt i q with
      | false => rfl
      | true => have := Nat.le_of_ble_eq_true h; omega
    rw [hf] at h2
    simp only [cond_false, List.all_eq_true, List.mem_range] at h2
    exact h2 j hj
  have hquiet : ∀ i o, i < q → ops[i]? = some o → (match o.dst with | some d => (List.range ops.size).all (fun j => Nat.beq i j || !(dstOf ops j == some d)) | none => false) = true ∧
      (o.looksAt ops).all (fun t => (List.range ops.size).all (fun j => !(dstOf ops j == some t) || (Nat.blt j q && o.after.any (fun e => bindsE e && Nat.beq e.on j)))) = true := fun i o hi ho => by
    have := hb i (Array.getElem?_eq_some_iff.1 ho).1
    simp only [ho, Bool.and_eq_true] at this
    have h2 := this.2
    have hf : Nat.blt i q = true := Nat.ble_eq_true_of_le hi
    rw [hf] at h2
    simp only [cond_true, Bool.and_eq_true] at h2
    exact h2
  have hD : ∀ i o, i < q → ops[i]? = some o → ∃ d, o.dst = some d ∧ ∀ j, j < ops.size → dstOf ops j = some d → j = i := fun i o hi ho => by
    have h1 := (hquiet i o hi ho).1
    cases hd : o.dst with
    | none => simp [hd] at h1
    | some d =>
      refine ⟨d, rfl, fun j hj hjd => ?_⟩
      simp only [hd, List.all_eq_true, List.mem_range] at h1
      have := h1 j hj
      simp only [hjd, beq_self_eq_true, Bool.not_true, Bool.or_false] at this
      exact (Nat.eq_of_beq_eq_true this).symm
  have hL : ∀ i o, i < q → ops[i]? = some o → ∀ t ∈ o.looksAt ops, ∀ j, j < ops.size → dstOf ops j = some t → ∃ e ∈ o.after, bindsE e = true ∧ e.on = j := fun i o hi ho t ht j hj hjt => by
    have h2 := (hquiet i o hi ho).2
    simp only [List.all_eq_true, List.mem_range] at h2
    have := h2 t ht j hj
    simp only [hjt, beq_self_eq_true, Bool.not_true, Bool.false_or, Bool.and_eq_true, Array.any_eq_true] at this
    obtain ⟨_, x, hx, e1, e2⟩ := this
    exact ⟨_, Array.getElem_mem hx, e1, Nat.eq_of_beq_eq_true e2⟩
  have hlook : ∀ t, (∀ i, i < q → dstOf ops i ≠ some t) → look (env ++ s.env) t = s.get t := fun t ht => by
    have : ∀ (l : List (Nat × AV)), (∀ p ∈ l, ∃ i, i < q ∧ dstOf ops i = some p.1) → look (l ++ s.env) t = look s.env t := by
      intro l
      induction l with
      | nil => intro _; rfl
      | cons p r ih =>
        intro hl
        obtain ⟨k, x⟩ := p
        simp only [List.cons_append, look]
        cases hbk : Nat.beq k t with
        | true =>
          obtain ⟨i, hi, hd⟩ := hl (k, x) List.mem_cons_self
          have := Nat.eq_of_beq_eq_true hbk
          subst this
          exact absurd hd (ht i hi)
        | false => exact ih fun p hp => hl p (List.mem_cons_of_mem _ hp)
    exact this env he
  have ev0 : Evo s.st g w s.st g { w with drawn := w.drawn + 1 } := .below ⟨rfl, rfl, rfl, Nat.le_refl _, fun _ _ => rfl⟩
  have sr0 : SR G s.st g { w with drawn := w.drawn + 1 } := hr.sr.below (w := w) (w' := { w with drawn := w.drawn + 1 }) ⟨rfl, rfl, rfl, Nat.le_refl _, fun _ _ => rfl⟩
  refine wpIn_region_any hm ?_
  refine quiet_any (G := G) (s0 := s) (T := ⟨s.nt, env ++ s.env, s.st⟩) (g0 := g) (w0 := w) (a0 := a) (q := q) (Q := Q .normal) hq hE hT hD hL hops rfl htail
    (fun s' g' w' a' qs hr' he' hd' => k _ s' g' w' a' qs hr' he' (by rw [hd']; exact hd.evo hr.sr he')) ops.size _ a g _ (by simp) ?_ ?_ ?_ hr.size sr0 ?_ ev0 rfl
  · unfold left
    have : (List.range q).filter (fun j => !(Array.replicate ops.size false).getD j true) = List.range q := by
      rw [List.filter_eq_self]
      intro j hj
      have := List.mem_range.1 hj
      simp [show j < ops.size by omega]
    rw [this, List.length_range]
    omega
  · intro j _ hj
    simp [hj]
  · intro i o hi ho e hem hbe
    exfalso
    have := (Array.getElem?_eq_some_iff.1 ho).1
    simp [this] at hi
  · intro t ht
    have hnone : ∀ i, i < q → dstOf ops i ≠ some t := fun i hi hd => by
      have := ht i (by omega) hd hi
      simp [show i < ops.size by omega] at this
    show AR G s.st g _ (look (env ++ s.env) t) _
    rw [hlook t hnone]
    exact (hr.slots t).evo ev0
end draw

end Go.Proofs.Ytpphdaphbkepfaa.Aw
