/- The abstract walk, part 17: what was laid in a round is forgotten at its end. -/
import Derived.Test.YtpphdaphbkepfaaAw16
set_option linter.unusedVariables false
set_option linter.unusedSimpArgs false
namespace Go.Proofs.Ytpphdaphbkepfaa.Aw
open Go Go.RowKit

mutual
/-- The value names objects below n alone. -/
def closedB (n : Nat) : AV → Bool
  | .any => true
  | .ic _ => true
  | .own i _ => Nat.blt i n
  | .ptr i _ => Nat.blt i n
  | .at _ => true
  | .rat i _ _ _ => Nat.blt i n
  | .fn _ a b => closedBs n a && closedBs n b
  | .agg xs => closedBs n xs
  | .tup xs => closedBs n xs
  | .yl i => Nat.blt i n
def closedBs (n : Nat) : List AV → Bool
  | [] => true
  | x :: r => closedB n x && closedBs n r
end
def closedE (n : Nat) : List (Nat × AV) → Bool
  | [] => true
  | p :: r => closedB n p.2 && closedE n r
def closedO (n : Nat) : AObj → Bool
  | .dead => true
  | .var _ _ cs => closedBs n cs
  | .row _ _ _ _ _ => true
  | .lp c => closedE n c.env

theorem closedBs_get {n : Nat} {l : List AV} (h : closedBs n l = true) : ∀ (k : Nat) (x : AV), l[k]? = some x → closedB n x = true := by
  induction l with
  | nil => simp
  | cons y r ih =>
    simp only [closedBs, Bool.and_eq_true] at h
    intro k x hk
    cases k with
    | zero => simp at hk; subst hk; exact h.1
    | succ k => exact ih h.2 k x (by simpa using hk)
theorem closedBs_of {n : Nat} {l : List AV} (h : ∀ (k : Nat) (x : AV), l[k]? = some x → closedB n x = true) : closedBs n l = true := by
  induction l with
  | nil => rfl
  | cons y r ih => simp only [closedBs, Bool.and_eq_true]; exact ⟨h 0 y rfl, ih fun k x hk => h (k + 1) x (by simpa using hk)⟩
theorem closedE_look {n : Nat} {env : List (Nat × AV)} (h : closedE n env = true) (t : Nat) : closedB n (look env t) = true := by
  induction env with
  | nil => rfl
  | cons p r ih =>
    obtain ⟨k, x⟩ := p
    simp only [closedE, Bool.and_eq_true] at h
    simp only [look]
    cases Nat.beq k t with
    | true => exact h.1
    | false => exact ih h.2

/-- What stands for a value names objects that are there. -/
theorem AR.closed {G : Nat → Prop} {s : List AObj} {g : Ghost} {w : World} {x : AV} {v : Value} (h : AR G s g w x v) {n : Nat} (hn : s.length ≤ n) : closedB n x = true := by
  have lt : ∀ i, i < s.length → Nat.blt i n = true := fun i hi => Nat.ble_eq_true_of_le (show i + 1 ≤ n by omega)
  induction h with
  | any v => rfl
  | ic x v h => rfl
  | own i ver v hi hv h1 => exact lt i hi
  | ptr i off v hi hv h1 => exact lt i hi
  | «at» cs b o val hb hok hcell hin => rfl
  | rat i ver j off v hi hv h1 => exact lt i hi
  | fn f first cap vf vc h1 h2 h3 h4 ih3 ih4 =>
    simp only [closedB, Bool.and_eq_true]
    exact ⟨closedBs_of ih3, closedBs_of ih4⟩
  | agg xs vs h1 h2 h3 ih => exact closedBs_of ih
  | tup xs vs h1 h2 ih => exact closedBs_of ih
  | yl i v hi hv h1 => exact lt i hi

theorem own_take {s : List AObj} {g : Ghost} {b n : Nat} (h : Own (s.take n) g b) : Own s g b := by
  obtain ⟨i, o, hi, hm, hg⟩ := h
  rw [List.getElem?_take] at hi
  split at hi
  · exact ⟨i, o, hi, hm, hg⟩
  · simp at hi
theorem get_take {s : List AObj} {n i : Nat} {o : AObj} (h : (s.take n)[i]? = some o) : i < n ∧ s[i]? = some o := by
  rw [List.getElem?_take] at h
  split at h
  · exact ⟨by assumption, h⟩
  · simp at h

theorem IR.trim {G : Nat → Prop} {s : List AObj} {g : Ghost} {w : World} {x : IC} {v : Value} (h : IR w (Good G s g) x v) (n : Nat) : IR w (Good G (s.take n) g) x v :=
  h.mono (fun _ _ _ => rfl) (fun b _ hb => ⟨hb.1, fun ho => hb.2 (own_take ho)⟩) (Nat.le_refl _)

theorem AR.trim {G : Nat → Prop} {s : List AObj} {g : Ghost} {w : World} {x : AV} {v : Value} (h : AR G s g w x v) {n : Nat} (hc : closedB n x = true) (hl : n ≤ s.length) : AR G (s.take n) g w x v := by
  have lt : ∀ i, Nat.blt i n = true → i < (s.take n).length := fun i hi => by
    have := Nat.le_of_ble_eq_true hi
    rw [List.length_take]
    omega
  induction h with
  | any v => exact .any v
  | ic x v h => exact .ic x v (h.trim n)
  | own i ver v hi hv h1 => exact .own i ver v (lt i hc) (fun m v' e sz xs hs => hv m v' e sz xs (get_take hs).2) h1
  | ptr i off v hi hv h1 => exact .ptr i off v (lt i hc) (fun m t cs hs => hv m t cs (get_take hs).2) h1
  | «at» cs b o val hb hok hcell hin => exact .«at» cs b o val hb ⟨hok.1, fun ho => hok.2 (own_take ho)⟩ hcell (fun j x hj => (hin j x hj).trim n)
  | rat i ver j off v hi hv h1 => exact .rat i ver j off v (lt i hc) (fun m v' e sz xs hs => hv m v' e sz xs (get_take hs).2) h1
  | fn f first cap vf vc h1 h2 h3 h4 ih3 ih4 =>
    simp only [closedB, Bool.and_eq_true] at hc
    exact .fn f first cap vf vc h1 h2 (fun k x hk => ih3 k x hk (closedBs_get hc.1 k x hk)) (fun k x hk => ih4 k x hk (closedBs_get hc.2 k x hk))
  | agg xs vs h1 h2 h3 ih => exact .agg xs vs h1 (fun k x hk => ih k x hk (closedBs_get hc k x hk)) h3
  | tup xs vs h1 h2 ih => exact .tup xs vs h1 (fun k x hk => ih k x hk (closedBs_get hc k x hk))
  | yl i v hi hv h1 => exact .yl i v (lt i hc) (fun c hs => hv c (get_take hs).2) h1

def OClosed (n : Nat) : AObj → Prop
  | .var _ _ cs => closedBs n cs = true
  | .lp c => ∀ t, closedB n (look c.env t) = true
  | _ => True

theorem OR.closed {G : Nat → Prop} {s : List AObj} {g : Ghost} {w : World} {i : Nat} {o : AObj} (h : OR G s g w i o) {n : Nat} (hn : s.length ≤ n) : OClosed n o := by
  cases o with
  | dead => trivial
  | row => trivial
  | var m t cs =>
    obtain ⟨b, vs, h1, h2, h3, h4, h5, h6⟩ := h
    exact closedBs_of fun k x hk => (h6 k x hk).closed hn
  | lp c =>
    obtain ⟨b, r, h1, h2, h3, e1, e2, e3, e4, e5, e6, h4⟩ := h
    exact fun t => (h4 t).closed hn

theorem OR.trim {G : Nat → Prop} {s : List AObj} {g : Ghost} {w : World} {i : Nat} {o : AObj} (h : OR G s g w i o) {n : Nat} (hl : n ≤ s.length) (hc : OClosed n o) : OR G (s.take n) g w i o := by
  cases o with
  | dead => trivial
  | row m ver e sz xs =>
    obtain ⟨cells, h1, h2, h3⟩ := h
    exact ⟨cells, h1, h2, h3.mono fun x v hr => hr.trim n⟩
  | var m t cs =>
    obtain ⟨b, vs, h1, h2, h3, h4, h5, h6⟩ := h
    exact ⟨b, vs, h1, h2, h3, h4, h5, fun k x hk => (h6 k x hk).trim (closedBs_get hc k x hk) hl⟩
  | lp c =>
    obtain ⟨b, r, h1, h2, h3, e1, e2, e3, e4, e5, e6, h4⟩ := h
    exact ⟨b, r, h1, h2, h3, e1, e2, e3, e4, e5, e6, fun t => (h4 t).trim (hc t) hl⟩

/-- Each object is as it was, or names objects below n alone. -/
def trimOk (n : Nat) : List AObj → List AObj → Prop
  | o :: os, p :: ps => (p = o ∨ closedO n p = true) ∧ trimOk n os ps
  | [], ps => ps.all (closedO n) = true
  | _ :: _, [] => True
theorem trimOk_get {n : Nat} : ∀ {l l' : List AObj}, trimOk n l l' → ∀ (i : Nat) (p : AObj), l'[i]? = some p → l[i]? = some p ∨ closedO n p = true
  | [], l', h, i, p, hp => by
    simp only [trimOk, List.all_eq_true] at h
    exact .inr (h p (List.mem_of_getElem? hp))
  | o :: os, [], h, i, p, hp => by simp at hp
  | o :: os, q :: qs, h, i, p, hp => by
    cases i with
    | zero =>
      simp at hp
      subst hp
      rcases h.1 with h | h
      · exact .inl (by rw [h]; rfl)
      · exact .inr h
    | succ i =>
      have := trimOk_get h.2 i p (by simpa using hp)
      simpa using this

theorem trimS {G : Nat → Prop} {s s' : List AObj} {g g' : Ghost} {w w' : World} (h0 : SR G s g w) (h : SR G s' g' w') (k : Evo s g w s' g' w') {n : Nat} (h1 : s.length ≤ n) (h2 : n ≤ s'.length) (ht : trimOk n s (s'.take n)) :
    SR G (s'.take n) g' w' ∧ Evo s g w (s'.take n) g' w' := by
  refine ⟨⟨fun i o hi => ?_, fun i j o o' b hi hj => h.inj i j o o' b (get_take hi).2 (get_take hj).2, h.new⟩,
    ⟨k.os, k.tape, k.output, k.size, k.heap, fun b hb ho => k.own b hb (own_take ho), by rw [List.length_take]; omega, fun i m t cs hi hs => k.var i m t cs hi (get_take hs).2,
      fun i m ver e sz xs hi hs => k.row i m ver e sz xs hi (get_take hs).2, fun i c hi hs => k.lp i c hi (get_take hs).2⟩⟩
  refine (h.obj i o (get_take hi).2).trim h2 ?_
  rcases trimOk_get ht i o hi with ho | ho
  · exact (h0.obj i o ho).closed h1
  · cases o with
    | var m t cs => exact ho
    | lp c => exact fun t => closedE_look ho t
    | _ => trivial

/-- The state with the objects below n alone, and these slots. -/
def Trim (n : Nat) (st : List AObj) (env : List (Nat × AV)) (s' : St) : Prop := n ≤ s'.st.length ∧ trimOk n st (s'.st.take n) ∧ closedE n env = true ∧ ∀ p ∈ env, s'.get p.1 = p.2

theorem AWp.trim {r : Option Nat} {P : Program} {c : Code} {s : St} {Q : Exit → St → Prop} (n : Nat) (hn : s.st.length ≤ n) (h : AWp r P c s fun e s' => ∃ env, Trim n s.st env s' ∧ Q e ⟨s'.nt, env, s'.st.take n⟩) : AWp r P c s Q := fun G g w a B QQ hr hB hd kk => by
  refine h G g w a B QQ hr hB hd ?_
  rintro e s' g' w' a' ⟨env, ⟨h2, ht, hce, hget⟩, hQ⟩ hr' hev hd'
  obtain ⟨hsr, hev'⟩ := trimS hr.sr hr'.sr hev hn h2 ht
  refine kk e _ g' w' a' hQ ⟨fun t => ?_, hr'.size, hsr⟩ hev' hd'
  show AR G (s'.st.take n) g' w' (look env t) _
  rcases look_mem env t with e0 | ⟨p, hp, e1, e2⟩
  · rw [e0]; exact .any _
  · have hcl := closedE_look hce t
    rw [← e2] at hcl ⊢
    have hx := hr'.slots t
    rw [← e1] at hx
    rw [hget p hp] at hx
    rw [← e1]
    exact hx.trim hcl h2

def subE (s : St) : List (Nat × AV) → Prop
  | [] => True
  | p :: r => s.get p.1 = p.2 ∧ subE s r
theorem subE_mem {s : St} {env : List (Nat × AV)} (h : subE s env) : ∀ p ∈ env, s.get p.1 = p.2 := by
  induction env with
  | nil => simp
  | cons q r ih =>
    intro p hp
    rcases List.mem_cons.1 hp with rfl | hp
    · exact h.1
    · exact ih h.2 p hp
theorem subE.nil {s : St} : subE s [] := trivial
theorem subE.cons {s : St} {t : Nat} {x : AV} {r : List (Nat × AV)} (h : s.get t = x) (k : subE s r) : subE s ((t, x) :: r) := ⟨h, k⟩
theorem Sub.of {s : St} {nt : Nat} {env : List (Nat × AV)} {st : List AObj} (h1 : s.nt = nt) (h2 : s.st = st) (h : subE s env) : Sub ⟨nt, env, st⟩ s := by
  subst h1 h2
  exact ⟨rfl, rfl, subE_mem h⟩
theorem Blk.here {id : Nat} {Q : Exit → St → Prop} {s : St} (h : Q .normal s) : Blk id Q (.exit id) s := by simpa [Blk] using h
theorem Blk.other {id id' : Nat} {Q : Exit → St → Prop} {s : St} (hn : id' ≠ id) (h : Q (.exit id') s) : Blk id Q (.exit id') s := by simpa [Blk, hn] using h
theorem Thn.exit {Q1 : St → Prop} {Q : Exit → St → Prop} {id : Nat} {s : St} (h : Q (.exit id) s) : Thn Q1 Q (.exit id) s := h
theorem trimOk.nil {n : Nat} : trimOk n [] [] := rfl
theorem trimOk.same {n : Nat} {o : AObj} {os ps : List AObj} (k : trimOk n os ps) : trimOk n (o :: os) (o :: ps) := ⟨.inl rfl, k⟩
theorem trimOk.turn {n : Nat} {o p : AObj} {os ps : List AObj} (h : closedO n p = true) (k : trimOk n os ps) : trimOk n (o :: os) (p :: ps) := ⟨.inr h, k⟩
theorem Trim.of {n : Nat} {st : List AObj} {env : List (Nat × AV)} {s' : St} (h1 : Nat.ble n s'.st.length = true) (h2 : trimOk n st (s'.st.take n)) (h3 : closedE n env = true) (h4 : subE s' env) : Trim n st env s' := ⟨Nat.le_of_ble_eq_true h1, h2, h3, subE_mem h4⟩
end Go.Proofs.Ytpphdaphbkepfaa.Aw
