/- The abstract walk, part 12: copy; freezing; the evaluator of operations that call nothing. -/
import Derived.Test.YtpphdaphbkepfaaAw11
set_option linter.unusedVariables false
set_option linter.unusedSimpArgs false
namespace Go.Proofs.Ytpphdaphbkepfaa.Aw
open Go Go.RowKit

/-- copy(row, ys), as long as the row: one cell an element. -/
theorem does_copyOwn {P : Program} {s : St} (t t2 ty e : TypeId) (x y : Operand) (i ver : Nat) (ex : Bool) (xs ys : List (List IC)) (ht : (tyi P t).there = true) (hk : (tyi P t).k = .slice e) (hsz : (tyi P e).size = 1)
    (hx : s.ev x = .own i ver) (hs : s.st[i]? = some (.row true ver e 1 xs)) (hy : s.ev y = .ic (.sl 1 ex ys)) (hl : ys.length = xs.length) :
    Does P s (bcall (call1 .copy #[x, y] #[t, t2]) ty) (.ic (.lit (.int .i64 (xs.length : Int)))) (s.st.set i (.row true ver e 1 ys)) := fun G g w a hrel => by
  have h1 := hrel.ev x
  rw [hx] at h1
  have h2 := hrel.ev y
  rw [hy] at h2
  have hu := tk_slice hk
  obtain ⟨i0, hi0⟩ := info_there (there_elem ht hu)
  have hsize : i0.size = 1 := by have : P.cellsOf e = 1 := hsz; simpa [Program.cellsOf, hi0] using this
  obtain ⟨cells, hown, hG, hf⟩ := hrel.sr.obj i _ hs
  generalize hv : a.eval x = v at h1
  cases h1 with
  | own i ver v hi hv' hone =>
    obtain rfl := (hv' _ _ _ _ _ hs).2 rfl
    obtain ⟨A, c, ds, ev, hc1, hc2, _, hfd, hcell⟩ := h2.ic_inv.flat
    by_cases hys : ys = []
    · subst hys
      have hxs : xs = [] := List.length_eq_zero_iff.1 (by simpa using hl.symm)
      subst hxs
      have hset : s.st.set i (.row true ver e 1 []) = s.st := by
        apply List.ext_getElem?
        intro j
        by_cases e' : i = j
        · subst e'; rw [List.getElem?_set_self hi, hs]
        · rw [List.getElem?_set_ne e']
      rw [hset]
      refine ⟨.value (goInt 0), goInt 0, g, w, ?_, .inl rfl, .refl _ _ _, hrel.sr, .ic _ _ (.lit _ rfl)⟩
      have hfc : (Builtin.firstCells 1 0 (.slice A 0 c)).run P w = .ok #[] w := by
        cases A with
        | none => exact run_firstCells_none _ _ _ _ _
        | some ad => exact run_firstCells_some (P := P) w 1 0 ad 0 c [] (by simp) (by simp)
      simp only [List.length_nil] at ev
      rcases hown.2 with ⟨e1, _⟩ | ⟨g0, cap, cur, e1, _⟩
      · simp [bcall, resolve, invoke, builtin, hv, e1, ev, Builtin.copy_, run_underlying hu, sizeOf, typeInfo, hi0, hsize, Builtin.lenOf, hfc]
      · simp [bcall, resolve, invoke, builtin, hv, e1, ev, Builtin.copy_, run_underlying hu, sizeOf, typeInfo, hi0, hsize, Builtin.lenOf, hfc, storeCells]
    · have hdl := hfd.len
      have hypos : 0 < ys.length := List.length_pos_iff.2 hys
      have hdpos : 0 < ds.length := by omega
      obtain ⟨b, o, rfl, _⟩ := hcell 0 _ (List.getElem?_eq_getElem hdpos)
      rcases hown.2 with ⟨e1, e2⟩ | ⟨g0, cap, cur, e1, e3, e4, e5, e6, e7, e8⟩
      · omega
      · have hrun := run_copy_row (P := P) w t t2 ty e g0 0 xs.length cap ⟨b, o, none⟩ ys.length c cur e ds hu (by simp [hi0, hsize]) e4 (by rw [hdl, hl]; simp) (fun j u hj => by
          obtain ⟨b', o', he, hq⟩ := hcell j u hj
          simp only [Option.some.injEq, Addr.mk.injEq, and_true] at he
          obtain ⟨rfl, rfl⟩ := he
          rw [add_block]; exact hq) (by omega) hfd.one
        obtain ⟨k, hsr⟩ := row_store hs hrel.sr g0 cap cur e1 e4 e5 e6 e7 (hG g0 (by rw [e1]; rfl)) ys (cur.toList.take 0 ++ ds ++ cur.toList.drop (0 + ds.length)).toArray hl (by simp; omega) (fun w' s' g' k => by
          have : (cur.toList.take 0 ++ ds ++ cur.toList.drop (0 + ds.length)).toArray.toList.take (ys.length * 1) = ds := by
            simp only [List.take_zero, List.nil_append]
            rw [← hdl]
            exact List.take_left
          rw [this]
          exact hfd.mono fun x v h => h.evo k)
        refine ⟨.value (goInt ds.length), goInt ds.length, g, _, ?_, .inl rfl, k, hsr, ?_⟩
        · simp only [bcall, resolve, List.map_toArray, List.map_cons, List.map_nil, hv, e1, ev, Sem.run_bind, Sem.run_pure, Result.andThen_ok, invoke, builtin, hrun]
        · rw [show ds.length = xs.length by omega]
          exact .ic _ _ (.lit _ rfl)

/-- What was the call's own is data from now on. -/
def frz : AObj → AObj
  | .dead => .dead
  | .var _ t cs => .var false t cs
  | .row _ v e sz xs => .row false v e sz xs
  | .lp _ => .dead
theorem frz_live (o : AObj) (h : (frz o).live = true) : o.live = true := by cases o <;> first | rfl | exact h
theorem frz_mu (o : AObj) : (frz o).mu = false := by cases o <;> rfl
theorem SR.frz {G : Nat → Prop} {s : List AObj} {g : Ghost} {w : World} (h : SR G s g w) (i : Nat) (o : AObj) (hi : s[i]? = some o) : Evo s g w (s.set i (Aw.frz o)) g w ∧ SR G (s.set i (Aw.frz o)) g w := by
  have hil : i < s.length := (List.getElem?_eq_some_iff.1 hi).1
  have get : ∀ (j : Nat) (q : AObj), (s.set i (Aw.frz o))[j]? = some q → (j = i ∧ q = Aw.frz o) ∨ (j ≠ i ∧ s[j]? = some q) := fun j q hj => by
    by_cases e : j = i
    · subst e
      rw [List.getElem?_set_self hil] at hj
      exact .inl ⟨rfl, by simpa using hj.symm⟩
    · rw [List.getElem?_set_ne (Ne.symm e)] at hj
      exact .inr ⟨e, hj⟩
  have k : Evo s g w (s.set i (Aw.frz o)) g w := by
    refine ⟨rfl, rfl, rfl, Nat.le_refl _, fun _ _ _ => rfl, fun q hq ⟨j, p, hj, hpm, hpg⟩ => ?_, by simp, fun j m t cs hj hs => ?_, fun j m ver e sz xs hj hs => ?_, fun j c hj hs => ?_⟩
    · rcases get j p hj with ⟨rfl, rfl⟩ | ⟨hne, hj⟩
      · rw [frz_mu] at hpm; simp at hpm
      · exact ⟨j, p, hj, hpm, hpg⟩
    · rcases get j _ hs with ⟨rfl, e⟩ | ⟨hne, hs⟩
      · cases o <;> simp only [Aw.frz, reduceCtorEq, AObj.var.injEq] at e
        obtain ⟨_, rfl, rfl⟩ := e
        exact ⟨⟨_, _, hi⟩, rfl⟩
      · exact ⟨⟨m, cs, hs⟩, rfl⟩
    · rcases get j _ hs with ⟨rfl, e'⟩ | ⟨hne, hs⟩
      · cases o <;> simp only [Aw.frz, reduceCtorEq, AObj.row.injEq] at e'
        obtain ⟨_, rfl, rfl, rfl, rfl⟩ := e'
        exact ⟨_, _, _, hi, Nat.le_refl _, fun _ => rfl⟩
      · exact ⟨m, ver, xs, hs, Nat.le_refl _, fun _ => rfl⟩
    · rcases get j _ hs with ⟨rfl, e'⟩ | ⟨hne, hs⟩
      · cases o <;> simp only [Aw.frz, reduceCtorEq] at e'
      · exact ⟨⟨c, hs⟩, rfl⟩
  refine ⟨k, fun j q hj => ?_, fun j1 j2 o1 o2 b' hj1 hj2 l1 l2 b1 b2 => ?_, h.new⟩
  · rcases get j q hj with ⟨rfl, rfl⟩ | ⟨hne, hj⟩
    · have := (h.obj j o hi).evo (o := o) k rfl (fun _ _ => rfl)
      cases o <;> first | exact this | trivial
    · exact (h.obj j q hj).evo k rfl (fun _ _ => rfl)
  · have old : ∀ (j : Nat) (q : AObj), (s.set i (Aw.frz o))[j]? = some q → q.live = true → ∃ q' : AObj, s[j]? = some q' ∧ q'.live = true := by
      intro j q hj hl
      rcases get j q hj with ⟨rfl, rfl⟩ | ⟨hne, hj⟩
      · exact ⟨o, hi, frz_live _ hl⟩
      · exact ⟨q, hj, hl⟩
    obtain ⟨q1, a1, c1⟩ := old j1 o1 hj1 l1
    obtain ⟨q2, a2, c2⟩ := old j2 o2 hj2 l2
    exact h.inj j1 j2 q1 q2 b' a1 a2 c1 c2 b1 b2

/-- An object is data from now on; slots that held the row hold the data. -/
def thaw (i ver sz : Nat) (xs : List (List IC)) : AV → AV
  | .own j v => bif Nat.beq i j && Nat.beq ver v then .ic (.sl sz false xs) else .own j v
  | x => x
theorem AWp.freeze {r : Option Nat} {P : Program} {c : Code} {s : St} {Q : Exit → St → Prop} (i ver e sz : Nat) (m : Bool) (xs : List (List IC)) (hi : s.st[i]? = some (.row m ver e sz xs))
    (h : AWp r P c ⟨s.nt, s.env.map (fun p => (p.1, thaw i ver sz xs p.2)), s.st.set i (.row false ver e sz xs)⟩ Q) : AWp r P c s Q := fun G g w a B QQ hr hB hd k => by
  obtain ⟨hev, hsr⟩ := hr.sr.frz i _ hi
  have hil : i < s.st.length := (List.getElem?_eq_some_iff.1 hi).1
  have hset : (s.st.set i (Aw.frz (.row m ver e sz xs)))[i]? = some (.row false ver e sz xs) := by rw [List.getElem?_set_self hil]; rfl
  have hrow : IR w (Good G (s.st.set i (Aw.frz (.row m ver e sz xs))) g) (.sl sz false xs) (g i) := row_ir hset hsr _ (fun _ h => h) (fun b hb hG => ⟨hG, fun ⟨j, o, hj, hm, hgj⟩ => by
    have := hsr.inj i j _ o b hset hj rfl (by cases o <;> simp_all [AObj.mu, AObj.live]) hb hgj
    subst this
    rw [hset] at hj
    simp only [Option.some.injEq] at hj
    subst hj
    simp [AObj.mu] at hm⟩)
  have hmap : ∀ (env : List (Nat × AV)) (t : Nat), look (env.map fun p => (p.1, thaw i ver sz xs p.2)) t = thaw i ver sz xs (look env t) := fun env t => by
    induction env with
    | nil => rfl
    | cons p r ih =>
      obtain ⟨q, x⟩ := p
      simp only [List.map_cons, look]
      cases Nat.beq q t <;> simp [ih]
  have hrel : Rel G ⟨s.nt, s.env.map (fun p => (p.1, thaw i ver sz xs p.2)), s.st.set i (Aw.frz (.row m ver e sz xs))⟩ g w a := by
    refine ⟨fun t => ?_, hr.size, hsr⟩
    show AR G _ g w (look (s.env.map fun p => (p.1, thaw i ver sz xs p.2)) t) _
    rw [hmap]
    have hx := (hr.slots t).evo hev
    show AR G _ g w (thaw i ver sz xs (s.get t)) _
    generalize s.get t = x at hx
    generalize a.tmps.getD t undef = v at hx
    cases x with
    | own j v' =>
      simp only [thaw]
      cases hb : (Nat.beq i j && Nat.beq ver v') with
      | false => exact hx
      | true =>
        simp only [Bool.and_eq_true] at hb
        obtain rfl := Nat.eq_of_beq_eq_true hb.1
        obtain rfl := Nat.eq_of_beq_eq_true hb.2
        cases hx with
        | own i ver v hi' hv h1 =>
          obtain rfl := (hv _ _ _ _ _ hset).2 rfl
          exact .ic _ _ hrow
    | _ => exact hx
  exact h G g w a B QQ hrel hB hd fun e2 s2 g2 w2 a2 q r2 ev2 d2 => k e2 s2 g2 w2 a2 q r2 (hev.trans ev2) d2

/-! ### the evaluator -/
/-- Arithmetic, as names: the evaluator never looks into it. -/
inductive AO where
  | add | sub | mul | eq | lt | le | seq | wrap | len | slen | no | hid (α : Type)
@[reducible] def AO.T : AO → Type
  | .add => IntKind → Int → Int → Int
  | .sub => IntKind → Int → Int → Int
  | .mul => IntKind → Int → Int → Int
  | .eq => Int → Int → Bool
  | .lt => Int → Int → Bool
  | .le => Int → Int → Bool
  | .seq => ByteArray → ByteArray → Bool
  | .wrap => IntKind → Int → Int
  | .len => List (List IC) → Int
  | .slen => ByteArray → Int
  | .no => Bool → Bool
  | .hid α => (Unit → α) → α
abbrev Ar := (o : AO) → o.T
def real : Ar
  | .add => fun k a b => k.wrap (a + b)
  | .sub => fun k a b => k.wrap (a - b)
  | .mul => fun k a b => k.wrap (a * b)
  | .eq => fun a b => decide (a = b)
  | .lt => fun a b => decide (a < b)
  | .le => fun a b => decide (a ≤ b)
  | .seq => fun a b => decide (a.toList = b.toList)
  | .wrap => fun k a => k.wrap a
  | .len => fun xs => (xs.length : Int)
  | .slen => fun b => (b.size : Int)
  | .no => fun b => !b
  | .hid _ => fun f => f ()
def intV (A : Ar) : BinOp → IntKind → Int → Int → Option Value
  | .add, k, a, b => some (.int k (A .add k a b))
  | .sub, k, a, b => some (.int k (A .sub k a b))
  | .mul, k, a, b => some (.int k (A .mul k a b))
  | .eql, _, a, b => some (.bool (A .eq a b))
  | .neq, _, a, b => some (.bool (A .no (A .eq a b)))
  | .lss, _, a, b => some (.bool (A .lt a b))
  | .leq, _, a, b => some (.bool (A .le a b))
  | .gtr, _, a, b => some (.bool (A .lt b a))
  | .geq, _, a, b => some (.bool (A .le b a))
  | _, _, _, _ => none
def strV (A : Ar) : BinOp → ByteArray → ByteArray → Option Value
  | .eql, a, b => some (.bool (A .seq a b))
  | .neq, a, b => some (.bool (A .no (A .seq a b)))
  | _, _, _ => none
def binV (A : Ar) (op : BinOp) : Value → Value → Option Value
  | .int k a, .int k' b => bif decide (k = k') then intV A op k a b else none
  | .string a, .string b => strV A op a b
  | _, _ => none
theorem intV_real (op : BinOp) (k : IntKind) (a b : Int) : intV real op k a b = intA op k a b := by cases op <;> rfl
theorem strV_real (op : BinOp) (a b : ByteArray) : strV real op a b = strA op a b := by cases op <;> rfl
theorem binV_real (op : BinOp) (a b : Value) : binV real op a b = binA op a b := by
  unfold binV binA
  cases a <;> cases b <;> first | rfl | simp only [intV_real, strV_real]

def evLen (A : Ar) (tab : List TI) (s : St) (c : Call) : Option (AV × List AObj) := match c.callee with
  | .builtin .len => match c.args.toList, c.argTypes.toList with
    | [x], [t] => match tab[t]? with
      | some i => match i.k, s.ev x with
        | .slice _, .ic (.sl _ _ xs) => some (.ic (.lit (.int .i64 (A .len xs))), s.st)
        | .string, .ic (.lit (.string b)) => some (.ic (.lit (.int .i64 (A .slen b))), s.st)
        | _, _ => none
      | none => none
    | _, _ => none
  | _ => none

/-- One operation that calls nothing and cannot fail: what it leaves. -/
def ev1 (A : Ar) (tab : List TI) (s : St) (op : Op) : Option (AV × List AObj) := match op with
  | .move x => some (s.ev x, s.st)
  | .assign x => some (s.ev x, s.st)
  | .pick c x y => match s.ev c with
    | .ic (.lit (.bool t)) => some (bif t then s.ev x else s.ev y, s.st)
    | _ => none
  | .alloc t => match tab[t]? with
    | some i => match i.zero with
      | some z => bif z.all (·.oneCell') then some (.ptr s.st.length 0, s.st ++ [.var true t (z.map nilc)]) else none
      | none => none
    | none => none
  | .box t x => match cellsOk (s.ev x) with
    | some cs => some (.ptr s.st.length 0, s.st ++ [.var true t cs])
    | none => none
  | .extract x i => match s.ev x with
    | .tup xs => match xs[i]? with
      | some r => some (r, s.st)
      | none => none
    | _ => none
  | .fieldAddr t x f => match tab[t]? with
    | some i => match i.k with
      | .struct fs => match fs[f]? with
        | some (off, n, _) => bif i.there && !Nat.beq n 0 then (match s.ev x with
          | .ptr j o => match s.st[j]? with
            | some (.var _ _ _) => some (.ptr j (o + off), s.st)
            | _ => none
          | .at cs => some (.at (cs.drop off), s.st)
          | _ => none) else none
        | none => none
      | _ => none
    | none => none
  | .field t x f => match tab[t]? with
    | some i => match i.k with
      | .struct fs => match fs[f]? with
        | some (off, n, ag) => match s.ev x with
          | .agg xs => bif i.there then (bif ag then (bif Nat.ble (off + n) xs.length then some (.agg ((xs.drop off).take n), s.st) else none) else (match xs[off]? with | some r => some (r, s.st) | none => none)) else none
          | _ => none
        | none => none
      | _ => none
    | none => none
  | .load t x => match tab[t]? with
    | some i => bif i.there then (match s.ev x with
      | .ptr j o => match s.st[j]? with
        | some (.var _ _ cs) => bif i.agg then (bif Nat.ble (o + i.size) cs.length then some (.agg ((cs.drop o).take i.size), s.st) else none) else (match cs[o]? with | some r => some (r, s.st) | none => none)
        | _ => none
      | .at cs => bif i.agg then (bif Nat.ble i.size cs.length then some (.agg ((cs.take i.size).map .ic), s.st) else none) else (match cs[0]? with | some r => some (.ic r, s.st) | none => none)
      | _ => none) else none
    | none => none
  | .store t x y => match tab[t]? with
    | some i => bif i.there then (match s.ev x with
      | .ptr j o => match s.st[j]? with
        | some (.var true t' cs) => match cellsOk (s.ev y) with
          | some ys => bif Nat.beq ys.length i.size && Nat.ble (o + ys.length) cs.length then some (.any, s.st.set j (.var true t' (cs.take o ++ ys ++ cs.drop (o + ys.length)))) else none
          | none => none
        | _ => none
      | _ => none) else none
    | none => none
  | .nilCheck x => match s.ev x with
    | .ptr j o => match s.st[j]? with
      | some (.var _ _ _) => some (.ptr j o, s.st)
      | _ => none
    | .at cs => some (.at cs, s.st)
    | .fn (.func f) b c => some (.fn (.func f) b c, s.st)
    | _ => none
  | .binOp op t x y _ => match s.ev x, s.ev y with
    | .ic (.lit a), .ic (.lit b) => match binV A op a b with
      | some r => some (.ic (.lit r), s.st)
      | none => none
    | _, _ => none
  | .unOp .not _ x => match s.ev x with
    | .ic (.lit (.bool b)) => some (.ic (.lit (.bool (A .no b))), s.st)
    | _ => none
  | .unOp .neg _ x => match s.ev x with
    | .ic (.lit (.int k n)) => some (.ic (.lit (.int k (A .sub k 0 n))), s.st)
    | _ => none
  | .convert src dst x => match tab[src]?, tab[dst]? with
    | some i, some j => bif i.there then (match j.k, s.ev x with
      | .int k, .ic (.lit (.int _ n)) => some (.ic (.lit (.int k (A .wrap k n))), s.st)
      | .string, .ic (.lit (.string b)) => some (.ic (.lit (.string b)), s.st)
      | _, _ => none) else none
    | _, _ => none
  | .makeFunc f first cap => some (.fn f (first.toList.map s.ev) (cap.toList.map s.ev), s.st)
  | .build t parts => match tab[t]? with
    | some i => match i.k, i.zero with
      | .struct fs, some z => bif i.there && z.all (·.oneCell') then (match fillA (fun i => (fs[i]?).map fun q => (q.1, q.2.1)) (z.map nilc) (parts.toList.map fun q => (q.1, s.ev q.2)) with
        | some out => some (.agg out, s.st)
        | none => none) else none
      | _, _ => none
    | none => none
  | .buildSlice t len parts => match tab[t]? with
    | some i => match i.k with
      | .slice e => match tab[e]? with
        | some j => match j.zero with
          | some z => bif i.there && z.all (·.oneCell') && Nat.beq z.length j.size && Nat.blt 0 (len * j.size) && Nat.ble (len * j.size) 1000 then (match fillA (fun i => some (i * j.size, j.size)) ((List.range (len * j.size)).map fun q => nilc (z.getD (q % j.size) undef)) (parts.toList.map fun q => (q.1, s.ev q.2)) with
            | some out => match allIC out with
              | some flat => some (.ic (.sl j.size true (chunk j.size len flat)), s.st)
              | none => none
            | none => none) else none
          | none => none
        | none => none
      | _ => none
    | none => none
  | .call c => evLen A tab s c
  | _ => none

end Go.Proofs.Ytpphdaphbkepfaa.Aw
