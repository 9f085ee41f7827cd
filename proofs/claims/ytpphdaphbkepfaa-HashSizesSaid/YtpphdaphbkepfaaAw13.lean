/- The abstract walk, part 13: the evaluator is right; many operations at once. -/
import Derived.Test.YtpphdaphbkepfaaAw12
set_option linter.unusedVariables false
set_option linter.unusedSimpArgs false
namespace Go.Proofs.Ytpphdaphbkepfaa.Aw
open Go Go.RowKit

theorem Does.congr {P : Program} {s : St} {m m' : (Operand → Value) → Sem Next} {x : AV} {st' : List AObj} (h : Does P s m x st') (e : ∀ ρ, m' ρ = m ρ) : Does P s m' x st' := by
  have : m' = m := funext e
  rw [this]
  exact h

theorem tab_get {P : Program} {tab : List TI} (hT : TabOk P tab) {t : Nat} {i : TI} (h : tab[t]? = some i) : i = tyi P t := hT t i h

section ev
variable {P : Program} {tab : List TI} {s : St} {o : Oper} {x : AV} {st' : List AObj}

theorem ev1_mem {A : Ar} (hA : A = real) (hT : TabOk P tab) (h : ev1 A tab s o.op = some (x, st')) : Does P s (fun ρ => execOp ρ o) x st' := by
  subst hA
  cases hop : o.op with
  | move y =>
    rw [hop] at h
    simp only [ev1, Option.some.injEq, Prod.mk.injEq] at h
    obtain ⟨rfl, rfl⟩ := h
    exact (does_move y).congr fun ρ => by simp only [execOp, hop]
  | assign y =>
    rw [hop] at h
    simp only [ev1, Option.some.injEq, Prod.mk.injEq] at h
    obtain ⟨rfl, rfl⟩ := h
    exact (does_move y).congr fun ρ => by simp only [execOp, hop]
  | pick c y z =>
    rw [hop] at h
    simp only [ev1] at h
    split at h
    · rename_i t hc
      simp only [Option.some.injEq, Prod.mk.injEq] at h
      obtain ⟨rfl, rfl⟩ := h
      exact (does_pick c y z t hc).congr fun ρ => by simp only [execOp, hop]
    · simp at h
  | alloc t =>
    rw [hop] at h
    simp only [ev1] at h
    split at h
    · rename_i i hi
      obtain rfl := tab_get hT hi
      split at h
      · rename_i z hz
        cases hb : z.all (·.oneCell') with
        | false => rw [hb] at h; simp at h
        | true =>
          rw [hb] at h
          simp only [cond_true, Option.some.injEq, Prod.mk.injEq] at h
          obtain ⟨rfl, rfl⟩ := h
          exact (does_alloc t z hz hb).congr fun ρ => by simp only [execOp, hop]
      · simp at h
    · simp at h
  | box t y =>
    rw [hop] at h
    simp only [ev1] at h
    split at h
    · rename_i cs hc
      simp only [Option.some.injEq, Prod.mk.injEq] at h
      obtain ⟨rfl, rfl⟩ := h
      exact (does_box t y cs hc).congr fun ρ => by simp only [execOp, hop]
    · simp at h
  | extract y i =>
    rw [hop] at h
    simp only [ev1] at h
    split at h
    · rename_i xs hx
      split at h
      · rename_i r hr
        simp only [Option.some.injEq, Prod.mk.injEq] at h
        obtain ⟨rfl, rfl⟩ := h
        exact (does_extract y i xs r hx hr).congr fun ρ => by simp only [execOp, hop]
      · simp at h
    · simp at h
  | fieldAddr t y f =>
    rw [hop] at h
    simp only [ev1] at h
    split at h
    · rename_i i hi
      obtain rfl := tab_get hT hi
      split at h
      · rename_i fs hk
        split at h
        · rename_i off n ag hf
          cases hb : ((tyi P t).there && !Nat.beq n 0) with
          | false => rw [hb] at h; simp at h
          | true =>
            rw [hb] at h
            simp only [cond_true] at h
            simp only [Bool.and_eq_true, Bool.not_eq_true'] at hb
            have hn : n ≠ 0 := fun e => by subst e; simp [Nat.beq_refl] at hb
            split at h
            · rename_i j q hx
              split at h
              · rename_i m t' cs hs
                simp only [Option.some.injEq, Prod.mk.injEq] at h
                obtain ⟨rfl, rfl⟩ := h
                exact (does_fieldPtr t y f fs off n ag j q m t' cs hb.1 hk hf hn hx hs).congr fun ρ => by simp only [execOp, hop]
              · simp at h
            · rename_i cs hx
              simp only [Option.some.injEq, Prod.mk.injEq] at h
              obtain ⟨rfl, rfl⟩ := h
              exact (does_fieldAtc t y f fs off n ag cs hb.1 hk hf hn hx).congr fun ρ => by simp only [execOp, hop]
            · simp at h
        · simp at h
      · simp at h
    · simp at h
  | field t y f =>
    rw [hop] at h
    simp only [ev1] at h
    split at h
    · rename_i i hi
      obtain rfl := tab_get hT hi
      split at h
      · rename_i fs hk
        split at h
        · rename_i off n ag hf
          split at h
          · rename_i xs hx
            cases hb : (tyi P t).there with
            | false => rw [hb] at h; simp at h
            | true =>
              rw [hb] at h
              simp only [cond_true] at h
              cases ag with
              | true =>
                simp only [cond_true] at h
                cases hle : Nat.ble (off + n) xs.length with
                | false => rw [hle] at h; simp at h
                | true =>
                  rw [hle] at h
                  simp only [cond_true, Option.some.injEq, Prod.mk.injEq] at h
                  obtain ⟨rfl, rfl⟩ := h
                  exact (does_field t y f fs off n true xs _ hb hk hf hx ⟨hle, rfl⟩).congr fun ρ => by simp only [execOp, hop]
              | false =>
                simp only [cond_false] at h
                split at h
                · rename_i r hr
                  simp only [Option.some.injEq, Prod.mk.injEq] at h
                  obtain ⟨rfl, rfl⟩ := h
                  exact (does_field t y f fs off n false xs _ hb hk hf hx hr).congr fun ρ => by simp only [execOp, hop]
                · simp at h
          · simp at h
        · simp at h
      · simp at h
    · simp at h
  | load t y =>
    rw [hop] at h
    simp only [ev1] at h
    split at h
    · rename_i i hi
      obtain rfl := tab_get hT hi
      cases hb : (tyi P t).there with
      | false => rw [hb] at h; simp at h
      | true =>
        rw [hb] at h
        simp only [cond_true] at h
        split at h
        · rename_i j q hx
          split at h
          · rename_i m t' cs hs
            cases hag : (tyi P t).agg with
            | true =>
              rw [hag] at h
              simp only [cond_true] at h
              cases hle : Nat.ble (q + (tyi P t).size) cs.length with
              | false => rw [hle] at h; simp at h
              | true =>
                rw [hle] at h
                simp only [cond_true, Option.some.injEq, Prod.mk.injEq] at h
                obtain ⟨rfl, rfl⟩ := h
                exact (does_loadPtr t y j q m t' cs _ hb hx hs (by rw [hag]; exact ⟨hle, rfl⟩)).congr fun ρ => by simp only [execOp, hop]
            | false =>
              rw [hag] at h
              simp only [cond_false] at h
              split at h
              · rename_i r hr
                simp only [Option.some.injEq, Prod.mk.injEq] at h
                obtain ⟨rfl, rfl⟩ := h
                exact (does_loadPtr t y j q m t' cs _ hb hx hs (by rw [hag]; exact hr)).congr fun ρ => by simp only [execOp, hop]
              · simp at h
          · simp at h
        · rename_i cs hx
          cases hag : (tyi P t).agg with
          | true =>
            rw [hag] at h
            simp only [cond_true] at h
            cases hle : Nat.ble (tyi P t).size cs.length with
            | false => rw [hle] at h; simp at h
            | true =>
              rw [hle] at h
              simp only [cond_true, Option.some.injEq, Prod.mk.injEq] at h
              obtain ⟨rfl, rfl⟩ := h
              exact (does_loadAtc t y cs _ hb hx (by rw [hag]; exact ⟨hle, rfl⟩)).congr fun ρ => by simp only [execOp, hop]
          | false =>
            rw [hag] at h
            simp only [cond_false] at h
            split at h
            · rename_i r hr
              simp only [Option.some.injEq, Prod.mk.injEq] at h
              obtain ⟨rfl, rfl⟩ := h
              exact (does_loadAtc t y cs _ hb hx (by rw [hag]; simp [hr])).congr fun ρ => by simp only [execOp, hop]
            · simp at h
        · simp at h
    · simp at h
  | store t y z =>
    rw [hop] at h
    simp only [ev1] at h
    split at h
    · rename_i i hi
      obtain rfl := tab_get hT hi
      cases hb : (tyi P t).there with
      | false => rw [hb] at h; simp at h
      | true =>
        rw [hb] at h
        simp only [cond_true] at h
        split at h
        · rename_i j q hx
          split at h
          · rename_i t' cs hs
            split at h
            · rename_i ys hy
              cases hc : (Nat.beq ys.length (tyi P t).size && Nat.ble (q + ys.length) cs.length) with
              | false => rw [hc] at h; simp at h
              | true =>
                rw [hc] at h
                simp only [cond_true, Option.some.injEq, Prod.mk.injEq] at h
                obtain ⟨rfl, rfl⟩ := h
                simp only [Bool.and_eq_true] at hc
                exact (does_storePtr t y z j q t' cs ys hb hx hs hy hc.1 hc.2).congr fun ρ => by simp only [execOp, hop]
            · simp at h
          · simp at h
        · simp at h
    · simp at h
  | nilCheck y =>
    rw [hop] at h
    simp only [ev1] at h
    have e : ∀ ρ, execOp ρ o = execOp ρ ⟨none, .nilCheck y, 0, "", #[], none⟩ := fun ρ => by simp only [execOp, hop]
    split at h
    · rename_i j q hx
      split at h
      · rename_i m t' cs hs
        simp only [Option.some.injEq, Prod.mk.injEq] at h
        obtain ⟨rfl, rfl⟩ := h
        exact (does_nilPtr y j q m t' cs hx hs).congr e
      · simp at h
    · rename_i cs hx
      simp only [Option.some.injEq, Prod.mk.injEq] at h
      obtain ⟨rfl, rfl⟩ := h
      exact (does_nilAt y cs hx).congr e
    · rename_i f b c hx
      simp only [Option.some.injEq, Prod.mk.injEq] at h
      obtain ⟨rfl, rfl⟩ := h
      exact (does_nilFn y f b c hx).congr e
    · simp at h
  | binOp op t y z t2 =>
    rw [hop] at h
    simp only [ev1] at h
    split at h
    · rename_i a b hx hy
      split at h
      · rename_i r hr
        simp only [Option.some.injEq, Prod.mk.injEq] at h
        obtain ⟨rfl, rfl⟩ := h
        exact (does_bin op t y z a b r hx hy (by rw [← binV_real]; exact hr)).congr fun ρ => by simp only [execOp, hop]
      · simp at h
    · simp at h
  | unOp op t y =>
    rw [hop] at h
    cases op with
    | not =>
      simp only [ev1] at h
      split at h
      · rename_i b hx
        simp only [Option.some.injEq, Prod.mk.injEq] at h
        obtain ⟨rfl, rfl⟩ := h
        exact (does_not y b hx).congr fun ρ => by simp only [execOp, hop]
      · simp at h
    | neg =>
      simp only [ev1] at h
      split at h
      · rename_i k n hx
        simp only [Option.some.injEq, Prod.mk.injEq] at h
        obtain ⟨rfl, rfl⟩ := h
        exact (does_neg y k n hx).congr fun ρ => by simp only [execOp, hop]
      · simp at h
    | _ => simp [ev1] at h
  | convert src dst y =>
    rw [hop] at h
    simp only [ev1] at h
    split at h
    · rename_i i j hi hj
      obtain rfl := tab_get hT hi
      obtain rfl := tab_get hT hj
      cases hb : (tyi P src).there with
      | false => rw [hb] at h; simp at h
      | true =>
        rw [hb] at h
        simp only [cond_true] at h
        split at h
        · rename_i k k' n hk hx
          simp only [Option.some.injEq, Prod.mk.injEq] at h
          obtain ⟨rfl, rfl⟩ := h
          exact (does_convInt src dst y k k' n hb hk hx).congr fun ρ => by simp only [execOp, hop]
        · rename_i b hk hx
          simp only [Option.some.injEq, Prod.mk.injEq] at h
          obtain ⟨rfl, rfl⟩ := h
          exact (does_convStr src dst y b hb hk hx).congr fun ρ => by simp only [execOp, hop]
        · simp at h
    · simp at h
  | makeFunc f first cap =>
    rw [hop] at h
    simp only [ev1, Option.some.injEq, Prod.mk.injEq] at h
    obtain ⟨rfl, rfl⟩ := h
    exact (does_makeFunc f first cap).congr fun ρ => by simp only [execOp, hop]
  | build t parts =>
    rw [hop] at h
    simp only [ev1] at h
    split at h
    · rename_i i hi
      obtain rfl := tab_get hT hi
      split at h
      · rename_i fs z hk hz
        cases hb : ((tyi P t).there && z.all (·.oneCell')) with
        | false => rw [hb] at h; simp at h
        | true =>
          rw [hb] at h
          simp only [cond_true] at h
          simp only [Bool.and_eq_true] at hb
          split at h
          · rename_i out hf
            simp only [Option.some.injEq, Prod.mk.injEq] at h
            obtain ⟨rfl, rfl⟩ := h
            exact (does_build t parts fs z out hb.1 hk hz hb.2 hf).congr fun ρ => by simp only [execOp, hop]
          · simp at h
      · simp at h
    · simp at h
  | buildSlice t len parts =>
    rw [hop] at h
    simp only [ev1] at h
    split at h
    · rename_i i hi
      obtain rfl := tab_get hT hi
      split at h
      · rename_i e hk
        split at h
        · rename_i j hj
          obtain rfl := tab_get hT hj
          split at h
          · rename_i z hz
            cases hb : ((tyi P t).there && z.all (·.oneCell') && Nat.beq z.length (tyi P e).size && Nat.blt 0 (len * (tyi P e).size) && Nat.ble (len * (tyi P e).size) 1000) with
            | false => rw [hb] at h; simp at h
            | true =>
              rw [hb] at h
              simp only [cond_true] at h
              simp only [Bool.and_eq_true] at hb
              split at h
              · rename_i out hf
                split at h
                · rename_i flat hfl
                  simp only [Option.some.injEq, Prod.mk.injEq] at h
                  obtain ⟨rfl, rfl⟩ := h
                  exact (does_lit t e len parts _ z out flat hb.1.1.1.1 hk rfl hz hb.1.1.1.2 hb.1.1.2 hb.1.2 hb.2 hf hfl).congr fun ρ => by simp only [execOp, hop]
                · simp at h
              · simp at h
          · simp at h
        · simp at h
      · simp at h
    · simp at h
  | call c =>
    rw [hop] at h
    simp only [ev1, evLen] at h
    split at h
    · rename_i hcal
      split at h
      · rename_i y t ha ht
        have hc : c = call1 .len #[y] #[t] := by
          obtain ⟨callee, args, ts⟩ := c
          simp only at hcal ha ht
          subst hcal
          have e1 : args = #[y] := by apply Array.ext'; simpa using ha
          have e2 : ts = #[t] := by apply Array.ext'; simpa using ht
          rw [e1, e2]
        subst hc
        split at h
        · rename_i i hi
          obtain rfl := tab_get hT hi
          split at h
          · rename_i e sz ex xs hk hx
            simp only [Option.some.injEq, Prod.mk.injEq] at h
            obtain ⟨rfl, rfl⟩ := h
            exact (does_lenSl t o.type e y sz ex xs hk hx).congr fun ρ => by simp only [execOp, hop, bcall, call1]
          · rename_i b hk hx
            simp only [Option.some.injEq, Prod.mk.injEq] at h
            obtain ⟨rfl, rfl⟩ := h
            exact (does_lenStr t o.type y b hk hx).congr fun ρ => by simp only [execOp, hop, bcall, call1]
          · simp at h
        · simp at h
      · simp at h
    · simp at h
  | _ => rw [hop] at h; simp [ev1] at h
end ev

/-- On through the operations as far as they go. -/
def adv (A : Ar) (tab : List TI) (ops : Array Oper) : List Nat → St → List Nat × St
  | [], s => ([], s)
  | i :: rest, s => match ops[i]? with
    | some o => match gd ops s o.guard with
      | some true => match ev1 A tab s o.op with
        | some (x, st') => bif dstOk s o.dst then adv A tab ops rest (putS s o.dst x st') else (i :: rest, s)
        | none => (i :: rest, s)
      | some false => bif dstOk s o.dst then adv A tab ops rest (putS s o.dst (.tup []) s.st) else (i :: rest, s)
      | none => (i :: rest, s)
    | none => (i :: rest, s)

theorem ev1_nd {A : Ar} {tab : List TI} {s : St} {op : Op} {r : AV × List AObj} (h : ev1 A tab s op = some r) : notDefer op = true := by
  cases op <;> first | rfl | simp [ev1] at h

theorem AOL.adv {r : Option Nat} {P : Program} {A : Ar} {tab : List TI} (hA : A = real) (hT : TabOk P tab) {ops : Array Oper} {Q : St → Prop} : ∀ (l : List Nat) (s : St), AOL r P ops (Aw.adv A tab ops l s).1 (Aw.adv A tab ops l s).2 Q → AOL r P ops l s Q
  | [], s, h => h
  | i :: rest, s, h => by
    simp only [Aw.adv] at h
    cases ho : ops[i]? with
    | none => simp only [ho] at h; exact h
    | some o =>
      simp only [ho] at h
      cases hg : gd ops s o.guard with
      | none => simp only [hg] at h; exact h
      | some b =>
        cases b with
        | true =>
          simp only [hg] at h
          cases he : ev1 A tab s o.op with
          | none => simp only [he] at h; exact h
          | some p =>
            obtain ⟨x, st'⟩ := p
            simp only [he] at h
            cases hd : dstOk s o.dst with
            | false => rw [hd] at h; exact h
            | true =>
              rw [hd] at h
              exact AOL.step ho hg hd (ev1_nd he) (ev1_mem hA hT he) (AOL.adv hA hT rest _ h)
        | false =>
          simp only [hg] at h
          cases hd : dstOk s o.dst with
          | false => rw [hd] at h; exact h
          | true =>
            rw [hd] at h
            exact AOL.skip ho hg hd (AOL.adv hA hT rest _ h)

theorem AOL.to {r : Option Nat} {P : Program} {A : Ar} {tab : List TI} (hA : A = real) (hT : TabOk P tab) {ops : Array Oper} {Q : St → Prop} {l l' : List Nat} {s s' : St} (h : Aw.adv A tab ops l s = (l', s')) (k : AOL r P ops l' s' Q) : AOL r P ops l s Q :=
  AOL.adv hA hT l s (by rw [h]; exact k)

end Go.Proofs.Ytpphdaphbkepfaa.Aw
