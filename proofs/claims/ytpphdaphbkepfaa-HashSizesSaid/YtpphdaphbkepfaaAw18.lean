/- The abstract walk, part 18: moves that may come at any time. -/
import Derived.Test.YtpphdaphbkepfaaAw17
set_option linter.unusedVariables false
set_option linter.unusedSimpArgs false
namespace Go.Proofs.Ytpphdaphbkepfaa.Aw
open Go Go.RowKit
section draw
variable {r : Option Nat} {P : Program} {ops : Array Oper}
theorem quiet_anyF {G : Nat → Prop} {s0 T : St} {g0 : Ghost} {w0 : World} {a0 : Act} {QQ : Exit → Act → World → Prop} {Q : St → Prop} {q : Nat} (fr : List Nat) (hfr : ∀ f ∈ fr, f < q) (hq : q ≤ ops.size)
    (hE : ∀ i o, ops[i]? = some o → ∀ e ∈ o.after, bindsE e = true → e.on < i)
    (hT : ∀ i o, q ≤ i → ops[i]? = some o → ∀ j, j < i → j ∈ fr ∨ aheadB ops ops.size i j = true)
    (hD : ∀ i o, i < q → ops[i]? = some o → ∃ d, o.dst = some d ∧ ∀ j, j < ops.size → dstOf ops j = some d → j = i)
    (hL : ∀ i o, i < q → ops[i]? = some o → ∀ t ∈ o.looksAt ops, ∀ j, j < ops.size → dstOf ops j = some t → ∃ e ∈ o.after, bindsE e = true ∧ e.on = j)
    (hops : ∀ i o d, i < q → i ∉ fr → ops[i]? = some o → o.dst = some d → AOL r P ops [i] (restr T (o.looksAt ops)) (fun s' => s'.get d = T.get d ∧ s'.st = T.st ∧ s'.nt = T.nt))
    (hst : T.st = s0.st) (htail : AOL r P ops ((List.range (ops.size - q)).map (q + ·)) T Q)
    (kk : ∀ s' g' w' a', Q s' → Rel G s' g' w' a' → Evo s0.st g0 w0 s'.st g' w' → a'.defers = a0.defers → QQ Exit.normal a' w') :
    ∀ (fuel : Nat) (listed : Array Bool) (a : Act) (g : Ghost) (w : World), listed.size = ops.size → left listed q + (ops.size - q) = fuel → (∀ j, q ≤ j → j < ops.size → listed.getD j true = false) → (∀ f ∈ fr, listed.getD f true = true) → Closed ops listed →
      a.tmps.size = T.nt → SR G T.st g w → (∀ t, (∀ j, j < ops.size → dstOf ops j = some t → j < q → listed.getD j true = true) → AR G T.st g w (T.get t) (a.tmps.getD t undef)) →
      Evo s0.st g0 w0 T.st g w → a.defers = a0.defers → wpAnyIn (FW r) 0 P .any ops QQ fuel listed a w := by
  have finish : ∀ (listed : Array Bool) (a : Act) (g : Ghost) (w : World), listed.size = ops.size → (∀ j, j < q → listed.getD j true = true) → (∀ j, q ≤ j → j < ops.size → listed.getD j true = false) → Closed ops listed →
      a.tmps.size = T.nt → SR G T.st g w → (∀ t, (∀ j, j < ops.size → dstOf ops j = some t → j < q → listed.getD j true = true) → AR G T.st g w (T.get t) (a.tmps.getD t undef)) →
      Evo s0.st g0 w0 T.st g w → a.defers = a0.defers → wpAnyIn (FW r) 0 P .any ops QQ (ops.size - q) listed a w := by
    intro listed a g w hs h1 h2 hc hsz hsr hsl hev hdf
    have hrel : Rel G T g w a := ⟨fun t => hsl t fun j _ _ hj => h1 j hj, hsz, hsr⟩
    refine tail_any hE (ops.size - q) q listed a w hs (by omega) h1 h2 hc (fun j o hj ho k hk1 hk => (hT j o hj ho k hk).resolve_left (fun hm => by have := hfr k hm; omega)) ?_
    exact htail G g w a QQ hrel fun s' g' w' a' qs hr' he hd' _ => kk s' g' w' a' qs hr' (hev.trans he) (hd'.trans hdf)
  intro fuel
  induction fuel with
  | zero =>
    intro listed a g w hs hl h2 hF hc hsz hsr hsl hev hdf
    have h1 : ∀ j, j < q → listed.getD j true = true := fun j hj => by
      have : left listed q = 0 := by omega
      unfold left at this
      rw [List.length_eq_zero_iff, List.filter_eq_nil_iff] at this
      have := this j (List.mem_range.2 hj)
      simpa using this
    have := finish listed a g w hs h1 h2 hc hsz hsr hsl hev hdf
    rwa [show ops.size - q = 0 by omega] at this
  | succ fuel ih =>
    intro listed a g w hs hl h2 hF hc hsz hsr hsl hev hdf
    by_cases hall : ∀ j, j < q → listed.getD j true = true
    · have hz : left listed q = 0 := by
        unfold left
        rw [List.length_eq_zero_iff, List.filter_eq_nil_iff]
        intro j hj
        simp [hall j (List.mem_range.1 hj)]
      have := finish listed a g w hs hall h2 hc hsz hsr hsl hev hdf
      rwa [show ops.size - q = fuel + 1 by omega] at this
    · have hex : ∃ j, j < q ∧ listed.getD j true = false := by
        by_cases he : ∃ j, j < q ∧ listed.getD j true = false
        · exact he
        · exact absurd (fun j hj => by
            cases hb : listed.getD j true with
            | true => rfl
            | false => exact absurd ⟨j, hj, hb⟩ he) hall
      refine ⟨fun hnil => ?_, fun i hi => ?_⟩
      · exfalso
        -- the least one that has not come is ready
        have least : ∀ n j, j ≤ n → j < q → listed.getD j true = false → ∃ i, i < q ∧ listed.getD i true = false ∧ ∀ k, k < i → listed.getD k true = true := by
          intro n
          induction n with
          | zero =>
            intro j hj hjq hjl
            exact ⟨j, hjq, hjl, fun k hk => by omega⟩
          | succ n ihn =>
            intro j hj hjq hjl
            by_cases hk : ∃ k, k < j ∧ listed.getD k true = false
            · obtain ⟨k, hk1, hk2⟩ := hk
              exact ihn k (by omega) (by omega) hk2
            · refine ⟨j, hjq, hjl, fun k hk' => ?_⟩
              cases hb : listed.getD k true with
              | true => rfl
              | false => exact absurd ⟨k, hk', hb⟩ hk
        obtain ⟨j, hj1, hj2⟩ := hex
        obtain ⟨i, hi1, hi2, hi3⟩ := least j j (Nat.le_refl _) hj1 hj2
        have ho := Array.getElem?_eq_getElem (show i < ops.size by omega)
        have hmem := ready_of ho hi2 (fun e hem hb => by
          have := hE i _ ho e hem hb
          rw [getD_tf (by omega) false true]
          exact hi3 _ this)
        rw [hnil] at hmem
        exact List.not_mem_nil hmem
      · obtain ⟨hi1, hi2, o, ho, he⟩ := mem_ready hi
        have hiq : i < q := by
          rcases Nat.lt_or_ge i q with h | h
          · exact h
          · exfalso
            obtain ⟨j, hj1, hj2⟩ := hex
            rcases hT i o h ho j (by omega) with hm | hm
            · rw [hF j hm] at hj2
              simp at hj2
            · have := ahead_listed hc _ i j hm o ho he
              rw [getD_tf (by omega) false true, hj2] at this
              simp at this
        obtain ⟨d, hd, huniq⟩ := hD i o hiq ho
        have hrel : Rel G (restr T (o.looksAt ops)) g w a := by
          refine ⟨fun t => ?_, hsz, hsr⟩
          show AR G T.st g w (look ((o.looksAt ops).map fun t => (t, T.get t)) t) _
          rw [look_restr]
          split
          · rename_i hm
            refine hsl t fun j hj1 hj2 hj3 => ?_
            obtain ⟨e, hem, hb, rfl⟩ := hL i o hiq ho t hm j hj1 hj2
            rw [getD_tf (by omega) true false]
            exact he e hem hb
          · exact .any _
        have h := hops i o d hiq (fun hm => by rw [hF i hm] at hi2; simp at hi2) ho hd G g w a (fun e a' w' => match e with | .normal => wpAnyIn (FW r) 0 P .any ops QQ fuel (listed.setIfInBounds i true) a' w' | e => QQ e a' w') hrel ?_
        · exact wpOpIn_of h
        · rintro s' g' w' a' ⟨hget, hst', hnt'⟩ hr' hev' hdf' hfr
          have hev' : Evo T.st g w T.st g' w' := by rw [hst'] at hev'; exact hev'
          have hsr' : SR G T.st g' w' := by rw [← hst']; exact hr'.sr
          have hnt : a'.tmps.size = T.nt := hr'.size.trans hnt'
          refine ih _ a' g' w' (by simp [hs]) ?_ (fun j hj1 hj2 => ?_) (fun f hf => ?_) (closed_set hc ho (by omega) he) hnt hsr' (fun t ht => ?_) (hev.trans hev') (hdf'.trans hdf)
          · have := left_set (listed := listed) (by omega) hiq hi2
            omega
          · rw [getD_setB _ _ _ _ (by omega), if_neg (by omega)]
            exact h2 j hj1 hj2
          · rw [getD_setB _ _ _ _ (by omega)]
            split
            · rfl
            · exact hF f hf
          · by_cases e : t = d
            · subst e
              have := hr'.slots t
              rw [hget, hst'] at this
              exact this
            · have : a'.tmps.getD t undef = a.tmps.getD t undef := hfr t fun j hj p hp => by
                obtain rfl := List.mem_singleton.1 hj
                rw [ho] at hp
                obtain rfl := Option.some.inj hp
                rw [hd]
                intro e2
                exact e (Option.some.inj e2).symm
              rw [this]
              refine (hsl t fun j hj1 hj2 hj3 => ?_).evo hev'
              have := ht j hj1 hj2 hj3
              rw [getD_setB _ _ _ _ (by omega)] at this
              split at this
              · rename_i e2
                subst e2
                simp only [dstOf, ho, Option.bind_some, hd, Option.some.injEq] at hj2
                exact absurd hj2.symm e
              · exact this


theorem wpOpIn_monoQ {F : Fence} {n : Nat} {Q Q' : Exit → Act → World → Prop} (hQ : ∀ e a w, Q' e a w → Q e a w) {K : Act → World → Prop} {i : Nat} {a : Act} {w : World} (h : wpOpIn F n P ops Q' i K a w) : wpOpIn F n P ops Q i K a w := by
  have hL : LetsOut Q' → LetsOut Q := fun ⟨a, w, h⟩ => ⟨a, w, hQ _ _ _ h⟩
  unfold wpOpIn at *
  split
  · rename_i ho; simpa [ho] using h
  · rename_i o ho
    simp only [ho] at h
    split
    · rename_i hw
      simp only [hw, if_true] at h
      unfold Oper.wpIn at *
      refine ⟨h.1, ?_⟩
      have hh := h.2
      generalize (o.semAt F.round a.eval).run P w = r at *
      cases r with
      | ok x w' =>
        cases x <;> simp only [Oper.uponIn] at hh ⊢ <;>
          first
            | exact hh
            | exact ⟨hh.1, CallsIn.mono hh.2 (fun e w'' he => by cases e <;> first | exact he | exact hQ _ _ _ he | exact hL he)⟩
            | exact ⟨hh.1, RoundIn.mono hh.2 (fun e w'' he => by cases e <;> first | exact he | exact hQ _ _ _ he | exact hL he)⟩
      | halt x w' => cases x <;> simp only [Oper.uponIn] at hh ⊢ <;> first | exact hh | exact hQ _ _ _ hh
    · rename_i hw
      simp only [hw] at h
      exact h
theorem wpAnyIn_monoQ {F : Fence} {n : Nat} {Q Q' : Exit → Act → World → Prop} (hQ : ∀ e a w, Q' e a w → Q e a w) : ∀ (fuel : Nat) (listed : Array Bool) (a : Act) (w : World), wpAnyIn F n P .any ops Q' fuel listed a w → wpAnyIn F n P .any ops Q fuel listed a w
  | 0, listed, a, w, h => ⟨h.1, hQ _ _ _ h.2⟩
  | fuel + 1, listed, a, w, h => ⟨fun hr => hQ _ _ _ (h.1 hr), fun i hi => wpOpIn_mono (fun a' w' hw => wpAnyIn_monoQ hQ fuel _ a' w' hw) (wpOpIn_monoQ hQ (h.2 i hi))⟩

def mvOf (ops : Array Oper) (f : Nat) : Option (Nat × Operand) := match ops[f]? with
  | some o => match o.op, o.guard, o.dst with
    | .move x, none, some d => bif o.after.isEmpty then some (d, x) else none
    | _, _, _ => none
  | none => none
theorem mvOf_ok {ops : Array Oper} {f d : Nat} {x : Operand} (h : mvOf ops f = some (d, x)) : ∃ o, ops[f]? = some o ∧ o.op = .move x ∧ o.guard = none ∧ o.dst = some d ∧ o.after = #[] := by
  unfold mvOf at h
  split at h
  · rename_i o ho
    split at h
    · rename_i y d' h1 h2 h3
      cases hb : o.after.isEmpty with
      | false => rw [hb] at h; simp at h
      | true =>
        rw [hb] at h
        simp only [cond_true, Option.some.injEq, Prod.mk.injEq] at h
        obtain ⟨rfl, rfl⟩ := h
        exact ⟨o, ho, h1, h2, h3, by simpa using hb⟩
    · simp at h
  · simp at h
/-- The free moves may be taken first. -/
def takeB (nt : Nat) (ops : Array Oper) : List Nat → Array Bool → Bool
  | [], _ => true
  | f :: fr, listed => (match mvOf ops f with | some (d, _) => Nat.blt d nt | none => false) && !listed.getD f true && Region.free .any ops listed f && takeB nt ops fr (listed.setIfInBounds f true)
/-- .. and lead to this state. -/
def frS (ops : Array Oper) : List Nat → St → St
  | [], s => s
  | f :: fr, s => match mvOf ops f with
    | some (d, x) => frS ops fr ⟨s.nt, (d, s.ev x) :: s.env, s.st⟩
    | none => frS ops fr s

theorem takes {G : Nat → Prop} {g : Ghost} {w : World} {QQ : Exit → Act → World → Prop} (hs : Region.noSelect ops = true) {nt q : Nat} :
    ∀ (fr : List Nat) (s : St) (listed : Array Bool) (a : Act) (fuel : Nat), s.nt = nt → listed.size = ops.size → (∀ f ∈ fr, f < q) → q ≤ ops.size → takeB nt ops fr listed = true → Rel G s g w a → left listed q + (ops.size - q) = fuel →
      (∀ j, q ≤ j → j < ops.size → listed.getD j true = false) → Closed ops listed →
      (∀ listed' a' fuel', listed'.size = ops.size → left listed' q + (ops.size - q) = fuel' → (∀ j, q ≤ j → j < ops.size → listed'.getD j true = false) → (∀ f, f ∈ fr ∨ listed.getD f true = true ∧ f < ops.size → listed'.getD f true = true) → (∀ f, f < ops.size → listed'.getD f true = true → f ∈ fr ∨ listed.getD f true = true) →
        Closed ops listed' → Rel G (frS ops fr s) g w a' → a'.defers = a.defers → wpAnyIn (FW none) 0 P .any ops (fun e a w => e = .normal ∧ QQ e a w) fuel' listed' a' w) →
      wpAnyIn (FW none) 0 P .any ops (fun e a w => e = .normal ∧ QQ e a w) fuel listed a w
  | [], s, listed, a, fuel, hn, hsz, hfq, hqs, hb, hr, hl, h2, hc, k => k listed a fuel hsz hl h2 (fun f hf => by rcases hf with hf | hf; simp at hf; exact hf.1) (fun f _ hf => .inr hf) hc hr rfl
  | f :: fr, s, listed, a, fuel, hn, hsz, hfq, hqs, hb, hr, hl, h2, hc, k => by
    simp only [takeB, Bool.and_eq_true, Bool.not_eq_true'] at hb
    obtain ⟨⟨⟨hb1, hb2⟩, hb3⟩, hb4⟩ := hb
    cases hm : mvOf ops f with
    | none => simp [hm] at hb1
    | some p =>
      obtain ⟨d, x⟩ := p
      simp only [hm] at hb1
      have hd := Nat.le_of_ble_eq_true hb1
      obtain ⟨o, ho, hop, hg, hdst, haf⟩ := mvOf_ok hm
      have hfl : f < ops.size := (Array.getElem?_eq_some_iff.1 ho).1
      have hfq' := hfq f List.mem_cons_self
      have hleft := left_set (listed := listed) (i := f) (q := q) (by omega) hfq' hb2
      have hready : f ∈ Region.ready .any ops listed := ready_of ho hb2 (by rw [haf]; simp)
      have hy : YieldsFenced P ops o (a.eval x) a := by
        refine ⟨.inl ⟨by unfold Region.wanted; rw [hg], fun w => by simp [execOp, hop]⟩, fun w => by simp [Oper.about, hop]⟩
      obtain ⟨m, rfl⟩ : ∃ m, fuel = m + 1 := ⟨fuel - 1, by omega⟩
      refine wpAnyIn_take (i := f) rfl ho hs hb3 (by simpa using hready) (fun c a w h => by simp at h) hy ?_
      have hrel : Rel G ⟨s.nt, (d, s.ev x) :: s.env, s.st⟩ g w (a.put o.dst (a.eval x)) := by
        rw [hdst]
        exact hr.put d (by omega) (.refl _ _ _) hr.sr (hr.ev x)
      refine takes hs fr ⟨s.nt, (d, s.ev x) :: s.env, s.st⟩ (listed.setIfInBounds f true) (a.put o.dst (a.eval x)) m hn (by simpa using hsz) (fun f' hf' => hfq f' (List.mem_cons_of_mem _ hf')) hqs hb4 hrel (by omega) (fun j hj1 hj2 => ?_) (closed_set hc ho (by omega) (by rw [haf]; simp)) ?_
      · rw [getD_setB _ _ _ _ (by omega), if_neg (by omega)]
        exact h2 j hj1 hj2
      · intro listed' a' fuel' e1 e2 e3 e4 e5 e6 e7 e8
        refine k listed' a' fuel' e1 e2 e3 (fun f' hf' => ?_) (fun f' hf1 hf2 => ?_) e6 (by simpa only [frS, hm] using e7) (by rw [e8]; cases o.dst <;> rfl)
        · rcases hf' with hf' | hf'
          · rcases List.mem_cons.1 hf' with rfl | hf'
            · exact e4 f' (.inr ⟨by rw [getD_setB _ _ _ _ (by omega), if_pos rfl], hfl⟩)
            · exact e4 f' (.inl hf')
          · refine e4 f' (.inr ⟨?_, hf'.2⟩)
            rw [getD_setB _ _ _ _ (by omega)]
            split
            · rfl
            · exact hf'.1
        · rcases e5 f' hf1 hf2 with h | h
          · exact .inl (List.mem_cons_of_mem _ h)
          · rw [getD_setB _ _ _ _ (by omega)] at h
            split at h
            · rename_i e; subst e; exact .inl List.mem_cons_self
            · exact .inr h

/-- What is asked of the region's text. -/
def drawFB (ops : Array Oper) (q : Nat) (fr : List Nat) : Bool :=
  Nat.ble q ops.size && fr.all (fun f => Nat.blt f q) && Region.noSelect ops &&
  (List.range ops.size).all (fun i => match ops[i]? with
    | some o => o.after.all (fun e => !bindsE e || Nat.blt e.on i) &&
      (bif Nat.blt i q then
        (match o.dst with | some d => (List.range ops.size).all (fun j => Nat.beq i j || !(dstOf ops j == some d)) | none => false) &&
        (o.looksAt ops).all (fun t => (List.range ops.size).all (fun j => !(dstOf ops j == some t) || (Nat.blt j q && o.after.any (fun e => bindsE e && Nat.beq e.on j))))
      else (List.range i).all (fun j => fr.contains j || aheadB ops ops.size i j))
    | none => false)

theorem QS.collectF {q : Nat} (fr : List Nat) (hq : q ≤ ops.size) (hD : ∀ i o, i < q → ops[i]? = some o → ∃ d, o.dst = some d ∧ ∀ j, j < ops.size → dstOf ops j = some d → j = i)
    (hL : ∀ i o, i < q → ops[i]? = some o → ∀ t ∈ o.looksAt ops, ∀ j, j < ops.size → dstOf ops j = some t → j < i) {Q : St → Prop} :
    ∀ (n k : Nat) (s : St), k + n = q → QS P ops (((List.range n).map (k + ·)).filter fun i => !fr.contains i) s Q → ∃ env, Q ⟨s.nt, env ++ s.env, s.st⟩ ∧ (∀ p ∈ env, ∃ i, k ≤ i ∧ i < q ∧ dstOf ops i = some p.1) ∧
      (∀ t, (∀ j, k ≤ j → j < q → j ∉ fr → dstOf ops j ≠ some t) → look (env ++ s.env) t = s.get t) ∧
      ∀ i o d, k ≤ i → i < q → i ∉ fr → ops[i]? = some o → o.dst = some d → ∃ x, look (env ++ s.env) d = x ∧ One none P ops i (restr ⟨s.nt, env ++ s.env, s.st⟩ (o.looksAt ops)) x s.st
  | 0, k, s, hk, h => ⟨[], h, by simp, fun t _ => rfl, fun i o d h1 h2 => by omega⟩
  | n + 1, k, s, hk, h => by
    have hmap : (List.range (n + 1)).map (k + ·) = k :: (List.range n).map (k + 1 + ·) := by
      rw [List.range_succ_eq_map, List.map_cons, List.map_map]
      have : (List.range n).map ((fun x => k + x) ∘ Nat.succ) = (List.range n).map (k + 1 + ·) := List.map_congr_left fun j _ => by simp; omega
      rw [this]
      rfl
    rw [hmap, List.filter_cons] at h
    by_cases hkf : fr.contains k = true
    · simp only [hkf, Bool.not_true, Bool.false_eq_true, if_false] at h
      have hkm : k ∈ fr := by simpa using hkf
      obtain ⟨env, hQ, he, hl, ho⟩ := QS.collectF fr hq hD hL n (k + 1) s (by omega) h
      exact ⟨env, hQ, fun p hp => let ⟨i, a, b, c⟩ := he p hp; ⟨i, by omega, b, c⟩, fun t ht => hl t fun j h1 h2 h3 => ht j (by omega) h2 h3,
        fun i o d h1 h2 h3 => ho i o d (by rcases Nat.lt_or_ge k i with h | h; exact h; exact absurd (show k = i by omega) (fun e => h3 (e ▸ hkm))) h2 h3⟩
    · simp only [hkf, Bool.not_false, if_true, QS] at h
      obtain ⟨d, x, hd, hone, hrest⟩ := h
      obtain ⟨env, hQ, he, hl, ho⟩ := QS.collectF fr hq hD hL n (k + 1) _ (by omega) hrest
      refine ⟨env ++ [(d, x)], by simpa using hQ, fun p hp => ?_, fun t ht => ?_, fun i o d' h1 h2 h3 hoi hdi => ?_⟩
      · rcases List.mem_append.1 hp with hp | hp
        · obtain ⟨i, a, b, c⟩ := he p hp
          exact ⟨i, by omega, b, c⟩
        · obtain rfl := List.mem_singleton.1 hp
          exact ⟨k, Nat.le_refl _, by omega, hd⟩
      · have := hl t fun j hj1 hj2 hj3 => ht j (by omega) hj2 hj3
        simp only [List.append_assoc, List.singleton_append]
        rw [this]
        exact look_cons_ne fun e => ht k (Nat.le_refl _) (by omega) (by simpa using hkf) (by rw [hd, e])
      · simp only [List.append_assoc, List.singleton_append]
        by_cases e : i = k
        · subst e
          obtain ⟨d2, hd2, huniq⟩ := hD i o h2 hoi
          have hdo : dstOf ops i = some d2 := by simp [dstOf, hoi, hd2]
          rw [hd] at hdo
          obtain rfl := Option.some.inj hdo
          rw [hdi] at hd2
          obtain rfl := Option.some.inj hd2
          have hsame : look (env ++ (d', x) :: s.env) d' = x := by
            rw [hl d' fun j hj1 hj2 _ hjd => by have := huniq j (by omega) hjd; omega]
            exact look_cons_eq
          refine ⟨x, hsame, ?_⟩
          have hre : restr ⟨s.nt, env ++ (d', x) :: s.env, s.st⟩ (o.looksAt ops) = lookS ops i s := by
            unfold lookS
            rw [hoi]
            refine restr_congr rfl rfl fun t ht => ?_
            have hlt := hL i o h2 hoi t ht
            show look (env ++ (d', x) :: s.env) t = _
            rw [hl t fun j hj1 hj2 _ hjd => by have := hlt j (by omega) hjd; omega]
            refine look_cons_ne fun e => ?_
            subst e
            have := hlt i (by omega) hd
            omega
          rw [hre]
          exact hone
        · exact ho i o d' (by omega) h2 h3 hoi hdi

theorem frS_st (fr : List Nat) (s : St) : (frS ops fr s).st = s.st ∧ (frS ops fr s).nt = s.nt := by
  induction fr generalizing s with
  | nil => exact ⟨rfl, rfl⟩
  | cons f fr ih =>
    simp only [frS]
    split
    · exact ih _
    · exact ih _

/-- A region that draws its order: the moves fr may come at any time; the other ones of the first q are quiet; all behind stand behind them. -/
theorem AWp.drawF {id : Nat} {s : St} {Q : Exit → St → Prop} (q : Nat) (fr : List Nat) (hm : P.follows .mixedOrders = true) (hb : drawFB ops q fr = true) (ht : takeB s.nt ops fr (Array.replicate ops.size false) = true)
    (h : QS P ops ((List.range q).filter fun i => !fr.contains i) (frS ops fr s) fun T => AOL none P ops ((List.range (ops.size - q)).map (q + ·)) T (Q .normal)) : AWp none P (.region id ops true) s Q := fun G g w a B QQ hr hB hd k => by
  simp only [drawFB, Bool.and_eq_true, List.all_eq_true, List.mem_range] at hb
  obtain ⟨⟨⟨hq, hfr⟩, hsel⟩, hb⟩ := hb
  have hq := Nat.le_of_ble_eq_true hq
  have hfr : ∀ f ∈ fr, f < q := fun f hf => Nat.le_of_ble_eq_true (hfr f hf)
  have hE : ∀ i o, ops[i]? = some o → ∀ e ∈ o.after, bindsE e = true → e.on < i := fun i o ho e hem hbe => by
    have := hb i (Array.getElem?_eq_some_iff.1 ho).1
    simp only [ho, Bool.and_eq_true, Array.all_eq_true_iff_forall_mem] at this
    have := this.1 e hem
    rw [hbe] at this
    simp only [Bool.not_true, Bool.false_or] at this
    exact Nat.le_of_ble_eq_true this
  have hT : ∀ i o, q ≤ i → ops[i]? = some o → ∀ j, j < i → j ∈ fr ∨ aheadB ops ops.size i j = true := fun i o hi ho j hj => by
    have := hb i (Array.getElem?_eq_some_iff.1 ho).1
    simp only [ho, Bool.and_eq_true] at this
    have h2 := this.2
    have hf : Nat.blt i q = false := by
      cases h : Nat.blt i q with
      | false => rfl
      | true => have := Nat.le_of_ble_eq_true h; omega
    rw [hf] at h2
    simp only [cond_false, List.all_eq_true, List.mem_range, Bool.or_eq_true] at h2
    rcases h2 j hj with h | h
    · exact .inl (by simpa using h)
    · exact .inr h
  have hquiet : ∀ i o, i < q → ops[i]? = some o → (match o.dst with | some d => (List.range ops.size).all (fun j => Nat.beq i j || !(dstOf ops j == some d)) | none => false) = true ∧
      (o.looksAt ops).all (fun t => (List.range ops.size).all (fun j => !(dstOf ops j == some t) || (Nat.blt j q && o.after.any (fun e => bindsE e && Nat.beq e.on j)))) = true := fun i o hi ho => by
    have := hb i (Array.getElem?_eq_some_iff.1 ho).1
    simp only [ho, Bool.and_eq_true] at this
    have h2 := this.2
    have hf : Nat.blt i q = true := Nat.ble_eq_true_of_le hi
    rw [hf] at h2
    simp only [cond_true, Bool.and_eq_true] at h2
    exact h2
  have hD : ∀ i o, i < q → ops[i]? = some o → ∃ d, o.dst = some d ∧ ∀ j, j < ops.size → dstOf ops j = some d → j = i := fun i o hi ho => by
    have h1 := (hquiet i o hi ho).1
    cases hd : o.dst with
    | none => simp [hd] at h1
    | some d =>
      refine ⟨d, rfl, fun j hj hjd => ?_⟩
      simp only [hd, List.all_eq_true, List.mem_range] at h1
      have := h1 j hj
      simp only [hjd, beq_self_eq_true, Bool.not_true, Bool.or_false] at this
      exact (Nat.eq_of_beq_eq_true this).symm
  have hL : ∀ i o, i < q → ops[i]? = some o → ∀ t ∈ o.looksAt ops, ∀ j, j < ops.size → dstOf ops j = some t → ∃ e ∈ o.after, bindsE e = true ∧ e.on = j := fun i o hi ho t ht j hj hjt => by
    have h2 := (hquiet i o hi ho).2
    simp only [List.all_eq_true, List.mem_range] at h2
    have := h2 t ht j hj
    simp only [hjt, beq_self_eq_true, Bool.not_true, Bool.false_or, Bool.and_eq_true, Array.any_eq_true] at this
    obtain ⟨_, x, hx, e1, e2⟩ := this
    exact ⟨_, Array.getElem_mem hx, e1, Nat.eq_of_beq_eq_true e2⟩
  have hL' : ∀ i o, i < q → ops[i]? = some o → ∀ t ∈ o.looksAt ops, ∀ j, j < ops.size → dstOf ops j = some t → j < i := fun i o hi ho t ht j hj hjt => by
    obtain ⟨e, hem, hbe, rfl⟩ := hL i o hi ho t ht j hj hjt
    exact hE i o ho e hem hbe
  have h' : QS P ops (((List.range q).map (0 + ·)).filter fun i => !fr.contains i) (frS ops fr s) fun T => AOL none P ops ((List.range (ops.size - q)).map (q + ·)) T (Q .normal) := by
    have : (List.range q).map (0 + ·) = List.range q := by
      have : (List.range q).map (fun x => 0 + x) = (List.range q).map (fun x => x) := List.map_congr_left fun x _ => Nat.zero_add x
      rw [this, List.map_id']
    rw [this]
    exact h
  obtain ⟨env, hQ, he, hl, ho⟩ := QS.collectF fr hq hD hL' q 0 _ (by omega) h'
  obtain ⟨hst, hnt⟩ := frS_st (ops := ops) fr s
  have ev0 : Evo s.st g w s.st g { w with drawn := w.drawn + 1 } := .below ⟨rfl, rfl, rfl, Nat.le_refl _, fun _ _ => rfl⟩
  have sr0 : SR G s.st g { w with drawn := w.drawn + 1 } := hr.sr.below (w := w) (w' := { w with drawn := w.drawn + 1 }) ⟨rfl, rfl, rfl, Nat.le_refl _, fun _ _ => rfl⟩
  have hr0 : Rel G s g { w with drawn := w.drawn + 1 } a := ⟨fun t => (hr.slots t).evo ev0, hr.size, sr0⟩
  refine wpIn_region_any hm (wpAnyIn_monoQ (Q' := fun e a w => e = .normal ∧ QQ e a w) (fun e a w h => h.2) _ _ _ _ ?_)
  refine takes (nt := s.nt) (q := q) hsel fr s (Array.replicate ops.size false) a ops.size rfl (by simp) hfr hq ht hr0 ?_ (fun j _ hj => by simp [hj]) ?_ ?_
  · unfold left
    have : (List.range q).filter (fun j => !(Array.replicate ops.size false).getD j true) = List.range q := by
      rw [List.filter_eq_self]
      intro j hj
      have := List.mem_range.1 hj
      simp [show j < ops.size by omega]
    rw [this, List.length_range]
    omega
  · intro i o hi ho e hem hbe
    exfalso
    have := (Array.getElem?_eq_some_iff.1 ho).1
    simp [this] at hi
  · intro listed' a' fuel' e1 e2 e3 e4 e5 e6 e7 e8
    refine quiet_anyF (G := G) (s0 := s) (T := ⟨s.nt, env ++ (frS ops fr s).env, s.st⟩) (g0 := g) (w0 := w) (a0 := a) (q := q) (Q := Q .normal) fr hfr hq hE hT hD hL (fun i o d hi hif hoi hdi => ?_) rfl (by rw [hst, hnt] at hQ; exact hQ)
      (fun s' g' w' a' qs hr' he' hd' => ⟨rfl, k _ s' g' w' a' qs hr' he' (by rw [hd']; exact hd.evo hr.sr he')⟩) fuel' listed' a' g _ e1 e2 e3 (fun f hf => e4 f (.inl hf)) e6 (by rw [e7.size, hnt]) (by have := e7.sr; rw [hst] at this; exact this) (fun t ht => ?_) ev0 e8
    · obtain ⟨x, hx, hone⟩ := ho i o d (Nat.zero_le _) hi hif hoi hdi
      have hdo : dstOf ops i = some d := by simp [dstOf, hoi, hdi]
      rw [hst, hnt] at hone
      refine hone [] _ (AOL.nil ?_)
      rw [hdo]
      exact ⟨by show look ((d, x) :: _) d = _; rw [look_cons_eq]; exact hx.symm, rfl, rfl⟩
    · have hnone : ∀ j, 0 ≤ j → j < q → j ∉ fr → dstOf ops j ≠ some t := fun j _ hj hjf hjd => by
        have := ht j (by omega) hjd hj
        rcases e5 j (by omega) this with h | h
        · exact hjf h
        · simp [show j < ops.size by omega] at h
      show AR G s.st g _ (look (env ++ (frS ops fr s).env) t) _
      rw [hl t hnone]
      have := e7.slots t
      rw [hst] at this
      exact this
end draw
end Go.Proofs.Ytpphdaphbkepfaa.Aw
