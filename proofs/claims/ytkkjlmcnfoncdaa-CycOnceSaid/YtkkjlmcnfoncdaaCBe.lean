/- Texts of the proof, put together: the abstract walk, contracts of the functions that the statement reaches, plain laws, part 5 of 6. -/
import Derived.Test.YtkkjlmcnfoncdaaCBd
import Derived.Sort.OwnSortedInts
import Derived.Lib.OwnBridge
import Derived.Lib.SlicesCompact
import Derived.Shelf.Lays
import Derived.Shelf.Lays2
import Derived.Ground.NamesProg
import Derived.Ground.Names2Prog
import Derived.Test.YtkkjlmcnfoncdaaProg
import Derived.Shelf.Sort.Plain
import Derived.Shelf.Slices.In.SortNone
import Derived.Shelf.Slices.CompactI
import Derived.Shelf.Slices.Reverse
set_option linter.unusedVariables false
set_option linter.unusedSimpArgs false
set_option linter.unusedSectionVars false
namespace Go.Proofs.Ytkkjlmcnfoncdaa.Aw
open Go Go.RowKit Go.Sort
theorem lit_of {w : World} {ok : Nat → Prop} {x v : Value} (h : IR w ok (.lit x) v) : v = x := by
  cases h with | lit _ _ => rfl
theorem flat_ints {w : World} {ok : Nat → Prop} {zs : List Int} {cells : List Value} (h : Flat w ok 1 (zs.map encI) cells) : cells = zs.map (Value.int .i64) := by
  have hl := h.len
  apply List.ext_getElem?
  intro j
  by_cases hj : j < zs.length
  · obtain ⟨u, h1, h2⟩ := h.rel j [I zs[j]] 0 (I zs[j]) (by simp [hj, encI]) rfl
    rw [Nat.mul_one, Nat.add_zero] at h1
    rw [h1, lit_of h2, List.getElem?_map, List.getElem?_eq_getElem hj]
    rfl
  · rw [List.getElem?_eq_none (by simp at hl; omega), List.getElem?_eq_none (by simp; omega)]
theorem flat_ofInts (w : World) (ok : Nat → Prop) (zs : List Int) : Flat w ok 1 (zs.map encI) (zs.map (Value.int .i64)) := by
  refine ⟨by simp, fun j r hj => ?_, fun j r k x hj hk => ?_, fun u hu => ?_⟩
  · rw [List.getElem?_map] at hj
    obtain ⟨z, _, rfl⟩ := Option.map_eq_some_iff.1 hj
    rfl
  · rw [List.getElem?_map] at hj
    obtain ⟨z, hz, rfl⟩ := Option.map_eq_some_iff.1 hj
    match k, hk with
    | 0, hk =>
      obtain rfl := Option.some.inj hk
      exact ⟨.int .i64 z, by simp [hz], .lit _ rfl⟩
  · obtain ⟨z, _, rfl⟩ := List.mem_map.1 hu
    rfl
theorem args1 {vals : Array Value} (h : vals.size = 1) : vals = #[vals.getD 0 undef] := by
  apply Array.ext
  · exact h
  · intro i h2 h3
    match i, h3 with
    | 0, _ => simp [Array.getD, h2]
def sortZ (zs : List Int) : List Int := zs.mergeSort fun x y => decide (x ≤ y)
theorem set_same {α : Type} {l : List α} {i : Nat} {x : α} (h : l[i]? = some x) : l.set i x = l := by
  apply List.ext_getElem?
  intro j
  by_cases hj : j = i
  · subst hj; rw [List.getElem?_set_self (List.getElem?_eq_some_iff.1 h).1, h]
  · rw [List.getElem?_set_ne (Ne.symm hj)]
theorem turnOwn {P : Program} {f : FuncId} (he : entersB P f = true) (fz : List Int → List Int) (hfz : ∀ zs, (fz zs).length = zs.length)
    (h1 : ∀ (blk off cap : Nat) (zs : List Int) (w : World), Holds (Value.int .i64) w blk off zs.toArray → blk < w.heap.size → zs.length < 4611686018427387904 → Calls P f #[.slice (some ⟨blk, off, none⟩) zs.length cap] w fun e w' => e = .returned (.tuple #[]) ∧ ∃ n os, w' = Sort.grow (Sort.putRow (Value.int .i64) (Sort.ahead w n) blk off (fz zs).toArray) os)
    (h2 : ∀ (p : Option Addr) (cap : Nat) (w : World), Calls P f #[.slice p 0 cap] w fun e w' => e = .returned (.tuple #[]) ∧ w' = w)
    {st : List AObj} {i ver e : Nat} {zs : List Int} (hs : st[i]? = some (.row true ver e 1 (zs.map encI))) (hz62 : zs.length < 4611686018427387904) :
    ACalls P f [.own i ver] st (fun x st' => x = .tup [] ∧ st' = st.set i (.row true ver e 1 ((fz zs).map encI))) := by
  refine ⟨he, fun G g w vals hsz hsr har => ?_⟩
  have h0 := har 0 _ rfl
  rw [args1 hsz]
  generalize vals.getD 0 undef = v0 at h0
  obtain ⟨cells, hown, hG, hf⟩ := hsr.obj i _ hs
  have hil : i < st.length := (List.getElem?_eq_some_iff.1 hs).1
  obtain rfl := flat_ints hf
  cases h0 with
  | own _ _ v hi hv' hone =>
    obtain rfl := (hv' _ _ _ _ _ hs).2 rfl
    have hl : (zs.map encI).length = zs.length := by simp
    rw [hl] at hown
    rcases hown.2 with ⟨e1, e2⟩ | ⟨g0, cap, cur, e1, e3, e4, e5, e6, e7, e8⟩
    · have hz : zs = [] := List.length_eq_zero_iff.1 e2
      subst hz
      rw [e1]
      refine (h2 none 0 w).mono ?_
      rintro e w' ⟨rfl, rfl⟩
      refine ⟨.tuple #[], .tup [], st, g, rfl, ⟨rfl, ?_⟩, .tup _ _ rfl (by simp), hsr, .refl _ _ _⟩
      rw [List.length_eq_zero_iff.1 (hfz [])]
      exact (set_same hs).symm
    · rw [e1]
      rw [Nat.mul_one] at e8
      have hH := holds_of_blockI e4 e8
      have hlt : g0 < w.heap.size := (Array.getElem?_eq_some_iff.1 e4).1
      refine (h1 g0 0 cap zs w hH hlt (by omega)).mono ?_
      rintro e' w' ⟨rfl, n, os, rfl⟩
      have hsl := hfz zs
      have hgrow : w.grownBy (Sort.grow (Sort.putRow (Value.int .i64) (Sort.ahead w n) g0 0 (fz zs).toArray) os) (gb (g i)) := by rw [e1]; exact grownBy_sortedI _
      obtain ⟨k, hsr'⟩ := hsr.regrow i ver ver e 1 (zs.map encI) ((fz zs).map encI) (g i) hs hgrow (.inl rfl) (.inr ⟨rfl, rfl⟩) (fun k => ⟨(fz zs).map (Value.int .i64), by
        rw [gset_same, e1, List.length_map, hsl]
        exact ownsRow_sortedI hsl (Nat.zero_le _) e4 e5 e6 e7, fun b hb => by rw [gset_same] at hb; exact hG b hb, flat_ofInts _ _ _⟩)
      exact ⟨.tuple #[], .tup [], _, _, rfl, ⟨rfl, rfl⟩, .tup _ _ rfl (by simp), hsr', k⟩
theorem compactOwn {P : Program} {f : FuncId} (he : entersB P f = true)
    (h1 : ∀ (blk off cap : Nat) (zs : List Int) (w : World), Holds (Value.int .i64) w blk off zs.toArray → zs.length ≤ 9223372036854775807 → zs.length ≤ cap → Calls P f #[.slice (some ⟨blk, off, none⟩) zs.length cap] w fun e w' => e = .returned (.slice (some ⟨blk, off, none⟩) (Lib.compact zs).length cap) ∧ ∃ q, w' = Sort.putRow (Value.int .i64) (Sort.ahead w q) blk off (Lib.compact zs ++ List.replicate (zs.length - (Lib.compact zs).length) 0).toArray)
    (h2 : ∀ (a : Option Addr) (cap : Nat) (w : World), Calls P f #[.slice a 0 cap] w fun e w' => e = .returned (.slice a 0 cap) ∧ w' = w)
    {st : List AObj} {i ver e : Nat} {zs : List Int} (hs : st[i]? = some (.row true ver e 1 (zs.map encI))) (hc : (Lib.compact zs).length ≤ zs.length) (hz62 : zs.length < 4611686018427387904) :
    ACalls P f [.own i ver] st (fun x st' => x = .own i (ver + 1) ∧ st' = st.set i (.row true (ver + 1) e 1 ((Lib.compact zs).map encI))) := by
  refine ⟨he, fun G g w vals hsz hsr har => ?_⟩
  have h0 := har 0 _ rfl
  rw [args1 hsz]
  generalize vals.getD 0 undef = v0 at h0
  obtain ⟨cells, hown, hG, hf⟩ := hsr.obj i _ hs
  have hil : i < st.length := (List.getElem?_eq_some_iff.1 hs).1
  obtain rfl := flat_ints hf
  cases h0 with
  | own _ _ v hi hv' hone =>
    obtain rfl := (hv' _ _ _ _ _ hs).2 rfl
    have hl : (zs.map encI).length = zs.length := by simp
    rw [hl] at hown
    have arNew : ∀ g' w' v' (xs' : List (List IC)), v'.oneCell' = true → g' i = v' → AR G (st.set i (.row true (ver + 1) e 1 xs')) g' w' (.own i (ver + 1)) v' := fun g' w' v' xs' h1 hgv => by
      refine .own _ _ _ (by simpa using hil) (fun m v2 e2 sz2 xs2 h => ?_) h1
      rw [List.getElem?_set_self hil] at h
      simp only [Option.some.injEq, AObj.row.injEq] at h
      obtain ⟨_, rfl, _⟩ := h
      exact ⟨Nat.le_refl _, fun _ => hgv.symm⟩
    rcases hown.2 with ⟨e1, e2⟩ | ⟨g0, cap, cur, e1, e3, e4, e5, e6, e7, e8⟩
    · have hz : zs = [] := List.length_eq_zero_iff.1 e2
      subst hz
      rw [e1]
      refine (h2 none 0 w).mono ?_
      rintro e' w' ⟨rfl, rfl⟩
      have hcn : Lib.compact ([] : List Int) = [] := List.length_eq_zero_iff.1 (by simpa using hc)
      obtain ⟨k, hsr'⟩ := hsr.regrow (w' := w') i ver (ver + 1) e 1 ([].map encI) ((Lib.compact ([] : List Int)).map encI) (.slice none 0 0) hs ⟨rfl, rfl, rfl, Nat.le_refl _, fun _ _ _ => rfl⟩ (.inl (by rw [e1])) (.inl (by omega)) (fun k => ⟨[], by rw [gset_same, hcn]; exact World.ownsRow_nil _ _ _ _, fun b hb => by rw [gset_same] at hb; simp [gb] at hb, by rw [hcn]; exact .nil _ _ _⟩)
      exact ⟨_, _, _, _, rfl, ⟨rfl, rfl⟩, arNew _ _ _ _ rfl (gset_same _ _ _), hsr', k⟩
    · rw [e1]
      have hown' := hown
      rw [Nat.mul_one] at e8
      have hH := holds_of_blockI e4 e8
      have hlt : g0 < w.heap.size := (Array.getElem?_eq_some_iff.1 e4).1
      refine (h1 g0 0 cap zs w hH (by omega) (by omega)).mono ?_
      rintro e' w' ⟨rfl, q, rfl⟩
      have hgrow : w.grownBy (Sort.putRow (Value.int .i64) (Sort.ahead w q) g0 0 (Lib.compact zs ++ List.replicate (zs.length - (Lib.compact zs).length) 0).toArray) (gb (g i)) := by
        rw [e1]
        have := grownBy_sortedI (w := w) (g := g0) (n := q) (os := #[]) (Lib.compact zs ++ List.replicate (zs.length - (Lib.compact zs).length) 0).toArray
        rw [grow_empty] at this
        exact this
      have hrow := Lib.ownsRow_putRow (q := q) (k := (Lib.compact zs).length) (ys := Lib.compact zs ++ List.replicate (zs.length - (Lib.compact zs).length) 0) (by rw [e1] at hown'; exact hown') (by simp; omega) hc
      rw [List.take_left] at hrow
      obtain ⟨k, hsr'⟩ := hsr.regrow i ver (ver + 1) e 1 (zs.map encI) ((Lib.compact zs).map encI) (.slice (some ⟨g0, 0, none⟩) (Lib.compact zs).length cap) hs hgrow (.inl (by rw [e1]; rfl)) (.inl (by omega)) (fun k => ⟨(Lib.compact zs).map (Value.int .i64), by
        rw [gset_same, List.length_map]; exact hrow, fun b hb => by rw [gset_same] at hb; exact hG b (by rw [e1]; exact hb), flat_ofInts _ _ _⟩)
      exact ⟨_, _, _, _, rfl, ⟨rfl, rfl⟩, arNew _ _ _ _ rfl (gset_same _ _ _), hsr', k⟩
end Go.Proofs.Ytkkjlmcnfoncdaa.Aw

namespace Go.Proofs
open Go.Shelf
def Try.laysSort_ren : Go.Shelf.Ren := ⟨fun | 189 => 47 | 125 => 87 | 257 => 86 | 128 => 115 | 129 => 116 | 294 => 107 | 295 => 108 | 296 => 109 | 297 => 110 | 298 => 111 | 299 => 112 | 216 => 97 | 300 => 113 | 301 => 114 | 328 => 131 | 329 => 132 | 330 => 133 | 331 => 134 | 332 => 135 | 215 => 125 | 343 => 141 | n => n, fun | 28 => 24 | 3 => 3 | 46 => 124 | 0 => 0 | 51 => 120 | 53 => 143 | 4 => 4 | 183 => 146 | 182 => 145 | 131 => 79 | 5 => 5 | 9 => 9 | 218 => 161 | 222 => 165 | 228 => 175 | 229 => 176 | n => n, fun | n => n⟩
theorem Try.laysSort : Go.Proofs.Lays.n189 Try.prog Try.laysSort_ren := {
  mixed := by kernel_rfl
  f125 := Try.func87.trans (congrArg some (by kernel_rfl))
  f128 := Try.func115.trans (congrArg some (by kernel_rfl))
  f129 := Try.func116.trans (congrArg some (by kernel_rfl))
  f189 := Try.func47.trans (congrArg some (by kernel_rfl))
  f215 := Try.func125.trans (congrArg some (by kernel_rfl))
  f216 := Try.func97.trans (congrArg some (by kernel_rfl))
  f257 := Try.func86.trans (congrArg some (by kernel_rfl))
  f294 := Try.func107.trans (congrArg some (by kernel_rfl))
  f295 := Try.func108.trans (congrArg some (by kernel_rfl))
  f296 := Try.func109.trans (congrArg some (by kernel_rfl))
  f297 := Try.func110.trans (congrArg some (by kernel_rfl))
  f298 := Try.func111.trans (congrArg some (by kernel_rfl))
  f299 := Try.func112.trans (congrArg some (by kernel_rfl))
  f300 := Try.func113.trans (congrArg some (by kernel_rfl))
  f301 := Try.func114.trans (congrArg some (by kernel_rfl))
  f328 := Try.func131.trans (congrArg some (by kernel_rfl))
  f329 := Try.func132.trans (congrArg some (by kernel_rfl))
  f330 := Try.func133.trans (congrArg some (by kernel_rfl))
  f331 := Try.func134.trans (congrArg some (by kernel_rfl))
  f332 := Try.func135.trans (congrArg some (by kernel_rfl))
  f343 := Try.func141.trans (congrArg some (by kernel_rfl))
  t0 := Try.underlying0
  a0 := Try.isAgg0
  z0 := Try.sizeOf0
  v0 := Try.zeroValue0
  t3 := Try.underlying3
  a3 := Try.isAgg3
  z3 := Try.sizeOf3
  v3 := Try.zeroValue3
  t4 := Try.underlying4
  a4 := Try.isAgg4
  z4 := Try.sizeOf4
  v4 := Try.zeroValue4
  t5 := Try.underlying5
  a5 := Try.isAgg5
  z5 := Try.sizeOf5
  v5 := Try.zeroValue5
  t9 := Try.underlying9
  a9 := Try.isAgg9
  z9 := Try.sizeOf9
  v9 := Try.zeroValue9
  t28 := Try.underlying24
  a28 := Try.isAgg24
  z28 := Try.sizeOf24
  v28 := Try.zeroValue24
  t46 := Try.underlying124
  a46 := Try.isAgg124
  z46 := Try.sizeOf124
  v46 := Try.zeroValue124
  t51 := Try.underlying120
  a51 := Try.isAgg120
  z51 := Try.sizeOf120
  v51 := Try.zeroValue120
  t53 := Try.underlying143
  a53 := Try.isAgg143
  z53 := Try.sizeOf143
  v53 := Try.zeroValue143
  t131 := Try.underlying79
  a131 := Try.isAgg79
  z131 := Try.sizeOf79
  v131 := Try.zeroValue79
  t182 := Try.underlying145
  a182 := Try.isAgg145
  z182 := Try.sizeOf145
  v182 := Try.zeroValue145
  t183 := Try.underlying146
  a183 := Try.isAgg146
  z183 := Try.sizeOf146
  v183 := Try.zeroValue146
  t218 := Try.underlying161
  a218 := Try.isAgg161
  z218 := Try.sizeOf161
  v218 := Try.zeroValue161
  t222 := Try.underlying165
  a222 := Try.isAgg165
  z222 := Try.sizeOf165
  v222 := Try.zeroValue165
  t228 := Try.underlying175
  a228 := Try.isAgg175
  z228 := Try.sizeOf175
  v228 := Try.zeroValue175
  t229 := Try.underlying176
  a229 := Try.isAgg176
  z229 := Try.sizeOf176
  v229 := Try.zeroValue176 }
def Try.laysReverse_ren : Go.Shelf.Ren := ⟨fun | 112 => 48 | n => n, fun | 28 => 24 | 3 => 3 | 4 => 4 | 0 => 0 | n => n, fun | n => n⟩
theorem Try.laysReverse : Go.Proofs.Lays.n112 Try.prog Try.laysReverse_ren := {
  mixed := by kernel_rfl
  f112 := Try.func48.trans (congrArg some (by kernel_rfl))
  t0 := Try.underlying0
  a0 := Try.isAgg0
  z0 := Try.sizeOf0
  v0 := Try.zeroValue0
  t3 := Try.underlying3
  a3 := Try.isAgg3
  z3 := Try.sizeOf3
  v3 := Try.zeroValue3
  t4 := Try.underlying4
  a4 := Try.isAgg4
  z4 := Try.sizeOf4
  v4 := Try.zeroValue4
  t28 := Try.underlying24
  a28 := Try.isAgg24
  z28 := Try.sizeOf24
  v28 := Try.zeroValue24 }
def Try.laysCompact_ren : Go.Shelf.Ren := ⟨fun | 20 => 50 | n => n, fun | 22 => 24 | 3 => 3 | 4 => 4 | 0 => 0 | n => n, fun | n => n⟩
theorem Try.laysCompact : Go.Proofs.Lays2.n20 Try.prog Try.laysCompact_ren := {
  mixed := by kernel_rfl
  f20 := Try.func50.trans (congrArg some (by kernel_rfl))
  t0 := Try.underlying0
  a0 := Try.isAgg0
  z0 := Try.sizeOf0
  v0 := Try.zeroValue0
  t3 := Try.underlying3
  a3 := Try.isAgg3
  z3 := Try.sizeOf3
  v3 := Try.zeroValue3
  t4 := Try.underlying4
  a4 := Try.isAgg4
  z4 := Try.sizeOf4
  v4 := Try.zeroValue4
  t22 := Try.underlying24
  a22 := Try.isAgg24
  z22 := Try.sizeOf24
  v22 := Try.zeroValue24
  i3 := by kernel_rfl }
end Go.Proofs

namespace Go.Proofs.Ytkkjlmcnfoncdaa.Aw
open Go Go.RowKit
set_option maxRecDepth 10000
attribute [local irreducible] AWp AOL QS One AOLg QSg NX QX TRg TX AllO Fin3
def outM (E : List (Int × Int)) (v : Int) : List Int := (E.filter fun p => decide (p.1 = v ∧ p.2 ≠ v)).map (·.2)
def nextM (K : List (List Int)) (V : List Int) (P Q : List (List Int)) (v : Int) : List Int := Lib.compact (sortZ (outM (edgesM K V P Q V.length) v))
theorem outM_succ (E : List (Int × Int)) (v x y : Int) : outM (E ++ [(x, y)]) v = outM E v ++ if x = v ∧ y ≠ v then [y] else [] := by
  unfold outM
  rw [List.filter_append, List.map_append]
  congr 1
  by_cases h : x = v ∧ y ≠ v
  · rw [if_pos h]; simp [h]
  · rw [if_neg h, List.filter_cons_of_neg (by simpa using h)]; rfl
theorem outM_len (E : List (Int × Int)) (v : Int) : (outM E v).length ≤ E.length := by
  unfold outM; rw [List.length_map]; exact List.length_filter_le _ _
theorem compact_len (zs : List Int) : (Lib.compact zs).length ≤ zs.length := by
  unfold Lib.compact Lib.compactUpTo
  rw [List.length_map]
  exact Nat.le_trans (List.length_filter_le _ _) (by simp)
theorem sortZ_len (l : List Int) : (sortZ l).length = l.length := by simp [sortZ]
variable {A : Ar} (hA : A = real)
include hA
theorem sort_c (st : List AObj) (i ver : Nat) (zs : List Int) (hs : st[i]? = some (.row true ver 3 1 (hid A (zs.map encI)))) (hz : zs.length < 4611686018427387904) : ACalls Try.prog 47 [.own i ver] st (fun x st' => x = .tup [] ∧ st' = st.set i (.row true ver 3 1 (hid A ((sortZ zs).map encI)))) := by
  rw [hid_eq hA] at hs
  rw [hid_eq hA]
  exact turnOwn rfl sortZ sortZ_len (fun blk off cap zs w hH hb hl => Any.slices_Sort_int Try.laysSort blk off cap zs w hH hb hl) (fun p cap w => Any.slices_Sort_int_none Try.laysSort p cap w) hs hz
theorem turn_c (st : List AObj) (i ver : Nat) (zs : List Int) (hs : st[i]? = some (.row true ver 3 1 (hid A (zs.map encI)))) (hz : zs.length < 4611686018427387904) : ACalls Try.prog 48 [.own i ver] st (fun x st' => x = .tup [] ∧ st' = st.set i (.row true ver 3 1 (hid A (zs.reverse.map encI)))) := by
  rw [hid_eq hA] at hs
  rw [hid_eq hA]
  exact turnOwn rfl List.reverse (fun zs => List.length_reverse) (fun blk off cap zs w hH hb hl => (Any.slices_Reverse_int Try.laysReverse blk off cap zs w hH (by omega)).mono (by
    rintro e w' ⟨rfl, n, rfl⟩
    exact ⟨rfl, n, #[], (Sort.grow_empty _).symm⟩)) (fun p cap w => Any.slices_Reverse_int_empty Try.laysReverse p cap w) hs hz
theorem comp_c (st : List AObj) (i ver : Nat) (zs : List Int) (hs : st[i]? = some (.row true ver 3 1 (hid A (zs.map encI)))) (hz : zs.length < 4611686018427387904) : ACalls Try.prog 50 [.own i ver] st (fun x st' => x = .own i (ver + 1) ∧ st' = st.set i (.row true (ver + 1) 3 1 (hid A ((Lib.compact zs).map encI)))) := by
  rw [hid_eq hA] at hs
  rw [hid_eq hA]
  exact compactOwn rfl (fun blk off cap zs w hH h1 h2 => Any.slices_Compact_int Try.laysCompact blk off cap zs w hH h1 h2) (fun p cap w => Any.slices_Compact_int_empty Try.laysCompact p cap w) hs (compact_len zs) hz
theorem next_c (K : List (List Int)) (S : List Int) (hst : StK K S) (R V : List Int) (N : List (Int × Int)) (M : List Int) (P Q : List (List Int)) (hR : RightU V R) (hV : V.length ≤ 1000000) (hP : P.length = V.length) (hQ : Q.length = V.length) (hPl : ∀ x ∈ P, x.length ≤ 1000000) (hQl : ∀ x ∈ Q, x.length ≤ 1000000) (x : Int) (x0 : 0 ≤ x) (x1 : x < V.length) :
    PureCalls Try.prog 22 [keyedPV A K S, grP A R V N M P Q, IP x] (intsP A (nextM K V P Q (findU V x))) := by
  have fx := ufind_c hA V N M R hR x x0 x1
  refine PureCalls.of Try.func22 rfl (by kernel_rfl) rfl ?_
  generalize findU V x = v at *
  try first | refine AOLg.of [7] ?_ | refine QSg.of [7] ?_
  repeat' (first | (refine AWp.pass ?_; first | refine AWp.seq ?_ | refine AWp.block ?_ | refine AWp.skip ?_ | refine AWp.regG [7] Zc ?_ | refine AWp.cond_t rfl ?_ | refine AWp.cond_f rfl ?_ | (refine AWp.cond rfl ?_ ?_ <;> intro hc <;> (try rw [hc]) <;> ((try simp only [zn] at hc) <;> (try simp (disch := omega) only [zz hA, zb, zy, reduceCtorEq, Bool.false_eq_true, Int.reduceLT, Int.reduceLE, Int.reduceNeg] at hc) <;> (try simp only [zw] at hc)) <;> (try (exfalso; omega))) | refine AWp.exit ?_ | refine AWp.ret ⟨.inr rfl, _, RetOk.ev tabOk Zc, ?_⟩) | (refine AOLg.pass ?_; refine AOLg.nx hA tabOk Zc ?_; first | refine NX.done ?_ | refine NX.gt ?_ | refine NX.gf ?_ | (refine NX.gs ?_ ?_ <;> intro hc <;> rw [hc] <;> ((try simp only [zn] at hc) <;> (try simp (disch := omega) only [zz hA, zb, zy, reduceCtorEq, Bool.false_eq_true, Int.reduceLT, Int.reduceLE, Int.reduceNeg] at hc) <;> (try simp only [zw] at hc)) <;> (try (exfalso; omega))) | (refine NX.kC ?_; first | (with_reducible refine NX.call (fx) ?_) | ((first | refine NX.call (fx) ?_)) | fail) | (refine NX.kO ?_; (first | refine NX.callO (fx) (by simp [allEq]) rfl ?_)) | refine NX.k 8 (NX.one Z8 ?_) | refine NX.k 9 (NX.one Z9 ?_) | refine NX.k 11 (NX.one Z11 ?_) | refine NX.k 14 (NX.one Z14 ?_) | refine NX.k 15 (NX.one Z15 ?_) | refine NX.k 17 (NX.one Z17 ?_) | refine NX.k 18 (NX.one Z18 ?_) | (refine NX.one (One.allocNil tabOk rfl rfl rfl rfl) ?_) | refine NX.raw ?_) | refine Thn.exit ?_ | refine Blk.here ?_ | refine Blk.other (by decide) ?_ | refine ⟨.inl rfl, _, RetOk.ev tabOk Zc, ?_⟩ | fail)
  have e1 : (A (.hid Int) fun _ => v) = v := rhid hA _
  rw [e1]
  refine AOL.scall rfl rfl (edges_5 hA _ _ _ _ _ K S R V N M P Q) ?_
  rintro y st' ⟨rfl, rfl⟩
  try first | refine AOLg.of [] ?_ | refine QSg.of [] ?_
  repeat' (first | (refine AWp.pass ?_; first | refine AWp.seq ?_ | refine AWp.block ?_ | refine AWp.skip ?_ | refine AWp.regG [] Zc ?_ | refine AWp.cond_t rfl ?_ | refine AWp.cond_f rfl ?_ | (refine AWp.cond rfl ?_ ?_ <;> intro hc <;> (try rw [hc]) <;> ((try simp only [zn] at hc) <;> (try simp (disch := omega) only [zz hA, zb, zy, reduceCtorEq, Bool.false_eq_true, Int.reduceLT, Int.reduceLE, Int.reduceNeg] at hc) <;> (try simp only [zw] at hc)) <;> (try (exfalso; omega))) | refine AWp.exit ?_ | refine AWp.ret ⟨.inr rfl, _, RetOk.ev tabOk Zc, ?_⟩) | (refine AOLg.pass ?_; refine AOLg.nx hA tabOk Zc ?_; first | refine NX.done ?_ | refine NX.gt ?_ | refine NX.gf ?_ | (refine NX.gs ?_ ?_ <;> intro hc <;> rw [hc] <;> ((try simp only [zn] at hc) <;> (try simp (disch := omega) only [zz hA, zb, zy, reduceCtorEq, Bool.false_eq_true, Int.reduceLT, Int.reduceLE, Int.reduceNeg] at hc) <;> (try simp only [zw] at hc)) <;> (try (exfalso; omega))) | refine NX.k 8 (NX.one Z8 ?_) | refine NX.k 9 (NX.one Z9 ?_) | refine NX.k 11 (NX.one Z11 ?_) | refine NX.k 14 (NX.one Z14 ?_) | refine NX.k 15 (NX.one Z15 ?_) | refine NX.k 17 (NX.one Z17 ?_) | refine NX.k 18 (NX.one Z18 ?_) | refine NX.raw ?_) | refine Thn.exit ?_ | refine Blk.here ?_ | refine Blk.other (by decide) ?_ | refine ⟨.inl rfl, _, RetOk.ev tabOk Zc, ?_⟩ | fail)
  refine AWp.norm (by conv => lhs; cbv) ?_
  refine AWp.rangeFunc' rfl ?_
  intro c hcr
  refine ⟨_, edgeIter hA K S hst R V N M P Q hR hV hP hQ hPl hQl (fun E st => ∃ k, st = [.var true 26 [.ic (.sl 1 false (hid A (List.map (encK A) K))), .ic (.sl 1 false (hid A (List.map encI S)))], .var true 31 [.ic (.sl 1 false (hid A (List.map encI R))), .ic (.sl 1 false (hid A (List.map encI V))), .ic (.sl 2 false (hid A (List.map encN N))), .ic (.sl 1 false (hid A (List.map encI M))), .ic (.sl 1 false (hid A (List.map (encK A) P))), .ic (.sl 1 false (hid A (List.map (encK A) Q)))], .var true 3 [.ic (.lit (.int .i64 v))], .row true k 3 1 (hid A (List.map encI (outM E v))), .var true 24 [.own 3 k], .var true 26 [.ic (.sl 1 false (hid A (List.map (encK A) K))), .ic (.sl 1 false (hid A (List.map encI S)))], .var true 31 [.ic (.sl 1 false (hid A (List.map encI R))), .ic (.sl 1 false (hid A (List.map encI V))), .ic (.sl 2 false (hid A (List.map encN N))), .ic (.sl 1 false (hid A (List.map encI M))), .ic (.sl 1 false (hid A (List.map (encK A) P))), .ic (.sl 1 false (hid A (List.map (encK A) Q)))], .lp c]) ?_ ?_ _ ?_, ?_⟩
  · rintro E st ⟨k, rfl⟩
    exact ⟨_, _, _, _, _, _, rfl⟩
  · rintro E st x y ⟨k, rfl⟩ hlen
    have hol := outM_len E v
    have hos := outM_succ E v x y
    refine AYield.of' 8 hcr rfl (Nat.le_refl _) rfl rfl ?_
    intro l
    simp only []
    try first | refine AOLg.of [] ?_ | refine QSg.of [] ?_
    repeat' (first | (refine AWp.pass ?_; first | refine AWp.seq ?_ | refine AWp.block ?_ | refine AWp.skip ?_ | refine AWp.regG [] Zc ?_ | refine AWp.cond_t rfl ?_ | refine AWp.cond_f rfl ?_ | (refine AWp.cond rfl ?_ ?_ <;> intro hc <;> (try rw [hc]) <;> ((try simp only [zn] at hc) <;> (try simp (disch := omega) only [zz hA, zb, zy, reduceCtorEq, Bool.false_eq_true, Int.reduceLT, Int.reduceLE, Int.reduceNeg] at hc) <;> (try simp only [zw] at hc)) <;> (try (exfalso; omega))) | refine AWp.exit ?_ | refine AWp.ret ⟨.inr rfl, _, RetOk.ev tabOk Zc, ?_⟩) | (refine AOLg.pass ?_; refine AOLg.nx hA tabOk Zc ?_; first | refine NX.done ?_ | refine NX.gt ?_ | refine NX.gf ?_ | (refine NX.gs ?_ ?_ <;> intro hc <;> rw [hc] <;> ((try simp only [zn] at hc) <;> (try simp (disch := omega) only [zz hA, zb, zy, reduceCtorEq, Bool.false_eq_true, Int.reduceLT, Int.reduceLE, Int.reduceNeg] at hc) <;> (try simp only [zw] at hc)) <;> (try (exfalso; omega))) | refine NX.k 8 (NX.one Z8 ?_) | refine NX.k 9 (NX.one Z9 ?_) | refine NX.k 11 (NX.one Z11 ?_) | refine NX.k 14 (NX.one Z14 ?_) | refine NX.k 15 (NX.one Z15 ?_) | refine NX.k 17 (NX.one Z17 ?_) | refine NX.k 18 (NX.one Z18 ?_) | refine NX.raw ?_) | refine Thn.exit ?_ | refine Blk.here ?_ | refine Blk.other (by decide) ?_ | refine ⟨.inl rfl, _, RetOk.ev tabOk Zc, ?_⟩ | fail)
    refine ⟨rfl, rfl, ?_⟩
    intro bz hbz
    try first | refine AOLg.of [] ?_ | refine QSg.of [] ?_
    repeat' (first | (refine AWp.pass ?_; first | refine AWp.seq ?_ | refine AWp.block ?_ | refine AWp.skip ?_ | refine AWp.regG [] Zc ?_ | refine AWp.cond_t rfl ?_ | refine AWp.cond_f rfl ?_ | (refine AWp.cond rfl ?_ ?_ <;> intro hc <;> (try rw [hc]) <;> ((try simp only [zn] at hc) <;> (try simp (disch := omega) only [zz hA, zb, zy, reduceCtorEq, Bool.false_eq_true, Int.reduceLT, Int.reduceLE, Int.reduceNeg] at hc) <;> (try simp only [zw] at hc)) <;> (try (exfalso; omega))) | refine AWp.exit ?_ | refine AWp.ret ⟨.inr rfl, _, RetOk.ev tabOk Zc, ?_⟩) | (refine AOLg.pass ?_; refine AOLg.nx hA tabOk Zc ?_; first | refine NX.done ?_ | refine NX.gt ?_ | refine NX.gf ?_ | (refine NX.gs ?_ ?_ <;> intro hc <;> rw [hc] <;> ((try simp only [zn] at hc) <;> (try simp (disch := omega) only [zz hA, zb, zy, reduceCtorEq, Bool.false_eq_true, Int.reduceLT, Int.reduceLE, Int.reduceNeg] at hc) <;> (try simp only [zw] at hc)) <;> (try (exfalso; omega))) | refine NX.k 8 (NX.one Z8 ?_) | refine NX.k 9 (NX.one Z9 ?_) | refine NX.k 11 (NX.one Z11 ?_) | refine NX.k 14 (NX.one Z14 ?_) | refine NX.k 15 (NX.one Z15 ?_) | refine NX.k 17 (NX.one Z17 ?_) | refine NX.k 18 (NX.one Z18 ?_) | refine NX.raw ?_) | refine Thn.exit ?_ | refine Blk.here ?_ | refine Blk.other (by decide) ?_ | refine ⟨.inl rfl, _, RetOk.ev tabOk Zc, ?_⟩ | fail)
    all_goals refine ⟨rfl, Nat.le_of_ble_eq_true rfl, Zt, ?_⟩
    · refine ⟨rfl, k + 1, ?_⟩
      rw [hos, if_pos ⟨by assumption, by assumption⟩]
      rfl
    · refine ⟨rfl, k, ?_⟩
      rw [hos, if_neg (by omega), List.append_nil]
      rfl
    · refine ⟨rfl, k, ?_⟩
      rw [hos, if_neg (by omega), List.append_nil]
      rfl
  · exact ⟨0, by simp [outM, hid_eq hA]⟩
  · rintro y st' ⟨rfl, k, rfl⟩
    have hel := edges_len K V P Q V.length (fun v hv => hPl _ (by rw [List.getD_eq_getElem?_getD, List.getElem?_eq_getElem (by omega)]; exact List.getElem_mem _)) (fun v hv => hQl _ (by rw [List.getD_eq_getElem?_getD, List.getElem?_eq_getElem (by omega)]; exact List.getElem_mem _)) V.length (Nat.le_refl _)
    have hol := outM_len (edgesM K V P Q V.length) v
    have hnx : nextM K V P Q v = Lib.compact (sortZ (outM (edgesM K V P Q V.length) v)) := rfl
    generalize edgesM K V P Q V.length = E at *
    refine .inl ⟨rfl, fun x => ?_⟩
    try first | refine AOLg.of [] ?_ | refine QSg.of [] ?_
    repeat' (first | (refine AWp.pass ?_; first | refine AWp.seq ?_ | refine AWp.block ?_ | refine AWp.skip ?_ | refine AWp.regG [] Zc ?_ | refine AWp.cond_t rfl ?_ | refine AWp.cond_f rfl ?_ | (refine AWp.cond rfl ?_ ?_ <;> intro hc <;> (try rw [hc]) <;> ((try simp only [zn] at hc) <;> (try simp (disch := omega) only [zz hA, zb, zy, reduceCtorEq, Bool.false_eq_true, Int.reduceLT, Int.reduceLE, Int.reduceNeg] at hc) <;> (try simp only [zw] at hc)) <;> (try (exfalso; omega))) | refine AWp.exit ?_ | refine AWp.ret ⟨.inr rfl, _, RetOk.ev tabOk Zc, ?_⟩) | (refine AOLg.pass ?_; refine AOLg.nx hA tabOk Zc ?_; first | refine NX.done ?_ | refine NX.gt ?_ | refine NX.gf ?_ | (refine NX.gs ?_ ?_ <;> intro hc <;> rw [hc] <;> ((try simp only [zn] at hc) <;> (try simp (disch := omega) only [zz hA, zb, zy, reduceCtorEq, Bool.false_eq_true, Int.reduceLT, Int.reduceLE, Int.reduceNeg] at hc) <;> (try simp only [zw] at hc)) <;> (try (exfalso; omega))) | refine NX.k 8 (NX.one Z8 ?_) | refine NX.k 9 (NX.one Z9 ?_) | refine NX.k 11 (NX.one Z11 ?_) | refine NX.k 14 (NX.one Z14 ?_) | refine NX.k 15 (NX.one Z15 ?_) | refine NX.k 17 (NX.one Z17 ?_) | refine NX.k 18 (NX.one Z18 ?_) | refine NX.raw ?_) | refine Thn.exit ?_ | refine Blk.here ?_ | refine Blk.other (by decide) ?_ | refine ⟨.inl rfl, _, RetOk.ev tabOk Zc, ?_⟩ | fail)
    have hsl := sortZ_len (outM E v)
    refine AOL.scall rfl rfl (sort_c hA _ 3 k _ rfl (by omega)) ?_
    rintro y st' ⟨rfl, rfl⟩
    try first | refine AOLg.of [] ?_ | refine QSg.of [] ?_
    repeat' (first | (refine AWp.pass ?_; first | refine AWp.seq ?_ | refine AWp.block ?_ | refine AWp.skip ?_ | refine AWp.regG [] Zc ?_ | refine AWp.cond_t rfl ?_ | refine AWp.cond_f rfl ?_ | (refine AWp.cond rfl ?_ ?_ <;> intro hc <;> (try rw [hc]) <;> ((try simp only [zn] at hc) <;> (try simp (disch := omega) only [zz hA, zb, zy, reduceCtorEq, Bool.false_eq_true, Int.reduceLT, Int.reduceLE, Int.reduceNeg] at hc) <;> (try simp only [zw] at hc)) <;> (try (exfalso; omega))) | refine AWp.exit ?_ | refine AWp.ret ⟨.inr rfl, _, RetOk.ev tabOk Zc, ?_⟩) | (refine AOLg.pass ?_; refine AOLg.nx hA tabOk Zc ?_; first | refine NX.done ?_ | refine NX.gt ?_ | refine NX.gf ?_ | (refine NX.gs ?_ ?_ <;> intro hc <;> rw [hc] <;> ((try simp only [zn] at hc) <;> (try simp (disch := omega) only [zz hA, zb, zy, reduceCtorEq, Bool.false_eq_true, Int.reduceLT, Int.reduceLE, Int.reduceNeg] at hc) <;> (try simp only [zw] at hc)) <;> (try (exfalso; omega))) | refine NX.k 8 (NX.one Z8 ?_) | refine NX.k 9 (NX.one Z9 ?_) | refine NX.k 11 (NX.one Z11 ?_) | refine NX.k 14 (NX.one Z14 ?_) | refine NX.k 15 (NX.one Z15 ?_) | refine NX.k 17 (NX.one Z17 ?_) | refine NX.k 18 (NX.one Z18 ?_) | refine NX.raw ?_) | refine Thn.exit ?_ | refine Blk.here ?_ | refine Blk.other (by decide) ?_ | refine ⟨.inl rfl, _, RetOk.ev tabOk Zc, ?_⟩ | fail)
    refine AOL.scall rfl rfl (comp_c hA _ 3 k _ rfl (by omega)) ?_
    rintro y st' ⟨rfl, rfl⟩
    try first | refine AOLg.of [] ?_ | refine QSg.of [] ?_
    repeat' (first | (refine AWp.pass ?_; first | refine AWp.seq ?_ | refine AWp.block ?_ | refine AWp.skip ?_ | refine AWp.regG [] Zc ?_ | refine AWp.cond_t rfl ?_ | refine AWp.cond_f rfl ?_ | (refine AWp.cond rfl ?_ ?_ <;> intro hc <;> (try rw [hc]) <;> ((try simp only [zn] at hc) <;> (try simp (disch := omega) only [zz hA, zb, zy, reduceCtorEq, Bool.false_eq_true, Int.reduceLT, Int.reduceLE, Int.reduceNeg] at hc) <;> (try simp only [zw] at hc)) <;> (try (exfalso; omega))) | refine AWp.exit ?_ | refine AWp.ret ⟨.inr rfl, _, RetOk.ev tabOk Zc, ?_⟩) | (refine AOLg.pass ?_; refine AOLg.nx hA tabOk Zc ?_; first | refine NX.done ?_ | refine NX.gt ?_ | refine NX.gf ?_ | (refine NX.gs ?_ ?_ <;> intro hc <;> rw [hc] <;> ((try simp only [zn] at hc) <;> (try simp (disch := omega) only [zz hA, zb, zy, reduceCtorEq, Bool.false_eq_true, Int.reduceLT, Int.reduceLE, Int.reduceNeg] at hc) <;> (try simp only [zw] at hc)) <;> (try (exfalso; omega))) | refine NX.k 8 (NX.one Z8 ?_) | refine NX.k 9 (NX.one Z9 ?_) | refine NX.k 11 (NX.one Z11 ?_) | refine NX.k 14 (NX.one Z14 ?_) | refine NX.k 15 (NX.one Z15 ?_) | refine NX.k 17 (NX.one Z17 ?_) | refine NX.k 18 (NX.one Z18 ?_) | refine NX.raw ?_) | refine Thn.exit ?_ | refine Blk.here ?_ | refine Blk.other (by decide) ?_ | refine ⟨.inl rfl, _, RetOk.ev tabOk Zc, ?_⟩ | fail)
    show rPV _ _ = some _
    rw [rPV_own (i := 3) rfl, hnx]
end Go.Proofs.Ytkkjlmcnfoncdaa.Aw

namespace Go.Proofs.Ytkkjlmcnfoncdaa.Aw
open Go Go.RowKit
theorem does_mkMap {P : Program} {s : St} (t : TypeId) : Does P s (fun ρ => do pure (.value (← Instr.makeMap t none))) (.mo s.st.length) (s.st ++ [.mpo []]) := fun G g w a hr => by
  have h5 : ∀ b, b < w.heap.size → (w.alloc (.map #[] 0)).heap[b]? = w.heap[b]? := fun b hb => Below.heap_alloc _ _ _ hb
  have hv : ∀ b, gb (.map (some w.heap.size)) = some b → w.heap.size ≤ b := fun b hb => by simp [gb] at hb; omega
  have k : Evo s.st g w (s.st ++ [.mpo []]) (gput g s.st.length (.map (some w.heap.size))) (w.alloc (.map #[] 0)) := .push _ _ rfl rfl rfl (by simp) h5 hv
  have hs := hr.sr.push (.mpo []) (.map (some w.heap.size)) k h5 hv ⟨w.heap.size, #[], 0, gput_new _ _ _, hr.sr.new _ (Nat.le_refl _), heap_alloc_new _ _, rfl⟩
  refine ⟨.value (.map (some w.heap.size)), .map (some w.heap.size), _, _, by simp [Instr.makeMap, Result.andThen], .inl rfl, k, hs, .mo _ _ (by simp) (fun es he => (gput_new _ _ _).symm) rfl⟩
theorem mo_inv {G : Nat → Prop} {s : List AObj} {g : Ghost} {w : World} {i : Nat} {v : Value} {es : List (Int × Int)} (h : AR G s g w (.mo i) v) (hs : s[i]? = some (.mpo es)) (hr : SR G s g w) :
    ∃ b ents clk, v = .map (some b) ∧ g i = .map (some b) ∧ G b ∧ w.heap[b]? = some (.map ents clk) ∧ ents.toList.map (fun e => (e.key, e.val)) = es.map (fun p => (Value.int .i64 p.1, Value.int .i64 p.2)) := by
  cases h with
  | mo i v hi hv h1 =>
    obtain ⟨b, ents, clk, e1, e2, e3, e4⟩ := hr.obj i _ hs
    exact ⟨b, ents, clk, (hv _ hs).trans e1, e1, e2, e3, e4⟩
theorem mapF_none {l : List (Int × Int)} {n : Int} (h : mapF l n = none) : ∀ p ∈ l, p.1 ≠ n := by
  induction l with
  | nil => simp
  | cons q r ih =>
    obtain ⟨a, b⟩ := q
    simp only [mapF] at h
    split at h
    · cases h
    · rename_i hne
      intro p hp
      rcases List.mem_cons.1 hp with rfl | hp
      · exact fun e => hne e.symm
      · exact ih h p hp
theorem does_putMap {P : Program} {s : St} {t : TypeId} {x y z : Operand} {i : Nat} {es : List (Int × Int)} {n v : Int} (hx : s.ev x = .mo i) (hs : s.st[i]? = some (.mpo es)) (hy : s.ev y = .ic (.lit (.int .i64 n))) (hz : s.ev z = .ic (.lit (.int .i64 v))) (hB : mapIB P t .i64 .i64 = true) (hn : mapF es n = none) :
    Does P s (fun ρ => do let _ ← Instr.mapUpdate t (ρ x) (ρ y) (ρ z); pure .skip) .any (s.st.set i (.mpo (es ++ [(n, v)]))) := fun G g w a hrel => by
  obtain ⟨kt, et, hm, hk, hzo⟩ := mapIB_ok hB
  have h1 := hrel.ev x
  rw [hx] at h1
  have h2 := hrel.ev y
  rw [hy] at h2
  have h3 := hrel.ev z
  rw [hz] at h3
  obtain ⟨b, ents, clk, e1, e2, e3, e4, e5⟩ := mo_inv h1 hs hrel.sr
  have hrun := run_insert (P := P) (n := n) (val := .int .i64 v) hm hk e4 (fun e he => by
    have h6 : (e.key, e.val) ∈ ents.toList.map (fun e => (e.key, e.val)) := List.mem_map.2 ⟨e, he, rfl⟩
    rw [e5] at h6
    obtain ⟨p, hp, hpe⟩ := List.mem_map.1 h6
    simp only [Prod.mk.injEq] at hpe
    exact ⟨p.1, hpe.1.symm, mapF_none hn p hp⟩)
  have hbl : b < w.heap.size := (Array.getElem?_eq_some_iff.1 e4).1
  obtain ⟨k, hsr⟩ := hrel.sr.turn (w' := { w with heap := w.heap.setIfInBounds b (.map (ents.push { key := .int .i64 n, val := .int .i64 v, born := clk }) (clk + 1)) }) i (.mpo es) (.mpo (es ++ [(n, v)])) b hs rfl (by rw [e2]; rfl) rfl (by simp) (by simp) rfl rfl rfl (by simp) (fun q hq => by simp [Array.getElem?_setIfInBounds, Ne.symm hq]) (fun k => ⟨b, ents.push { key := .int .i64 n, val := .int .i64 v, born := clk }, clk + 1, e2, e3, by simp [hbl], by simp [e5]⟩) (by simp) (fun c hc => ⟨_, rfl⟩)
  exact ⟨.skip, undef, g, _, by simp only [e1, h2.lit_inv, h3.lit_inv, Sem.run_bind, hrun, Result.andThen_ok, Sem.run_pure], .inr ⟨rfl, rfl⟩, k, hsr, .any _⟩
theorem does_getMap {P : Program} {s : St} {t : TypeId} {x y : Operand} {i : Nat} {es : List (Int × Int)} {n : Int} (hx : s.ev x = .mo i) (hs : s.st[i]? = some (.mpo es)) (hy : s.ev y = .ic (.lit (.int .i64 n))) (hB : mapIB P t .i64 .i64 = true) (ok : Bool) :
    Does P s (fun ρ => do pure (.value (← Instr.lookup t (ρ x) (ρ y) ok))) (match ok with | true => .tup [.ic (.lit (.int .i64 ((mapF es n).getD 0))), .ic (.lit (.bool (mapF es n).isSome))] | false => .ic (.lit (.int .i64 ((mapF es n).getD 0)))) s.st :=
  .pure fun G g w a hrel => by
    have h := hrel.ev x
    rw [hx] at h
    have h2 := hrel.ev y
    rw [hy] at h2
    have e2 := h2.lit_inv
    obtain ⟨kt, et, hm, hk, hz⟩ := mapIB_ok hB
    obtain ⟨b, ents, clk, f1, f2, f3, f4, f5⟩ := mo_inv h hs hrel.sr
    have hrun := run_lookup (f := fun z : Int => Value.int .i64 z) (d := 0) (n := n) hm hk hz f4 f5 ok
    refine ⟨_, by simp only [f1, e2, Sem.run_bind, hrun]; rfl, ?_⟩
    cases ok with
    | true =>
      refine .tup _ _ rfl fun j z hj => ?_
      match j, hj with
      | 0, hj => simp only [List.getElem?_cons_zero, Option.some.injEq] at hj; subst hj; exact .ic _ _ (.lit _ rfl)
      | 1, hj => simp only [List.getElem?_cons_succ, List.getElem?_cons_zero, Option.some.injEq] at hj; subst hj; exact .ic _ _ (.lit _ rfl)
    | false => exact .ic _ _ (.lit _ rfl)
section
variable {A : Ar} (hA : A = real) {r : Option Nat} {P : Program} {ops : Array Oper} {i q : Nat} {s : St} {t : TypeId} {x y z : Operand} {es : List (Int × Int)} {n v : Int}
include hA
theorem One.mkMap (h : opAt ops i s = some (.makeMap t none)) : One r P ops i s (.mo s.st.length) (s.st ++ [.mpo (A (.hid _) fun _ => [])]) := by
  rw [rhid hA]
  exact .does h rfl fun o hop => (does_mkMap t).congr fun ρ => by simp only [execOp, hop]; rfl
theorem One.insMap (h : opAt ops i s = some (.insert t x y z)) (hx : s.ev x = .mo q) (hs : s.st[q]? = some (.mpo (A (.hid _) fun _ => es))) (hy : s.ev y = .ic (.lit (.int .i64 n))) (hz : s.ev z = .ic (.lit (.int .i64 v))) (hB : mapIB P t .i64 .i64 = true) (hn : mapF es n = none) :
    One r P ops i s .any (s.st.set q (.mpo (A (.hid _) fun _ => es ++ [(n, v)]))) := by
  rw [rhid hA] at hs ⊢
  exact .does h rfl fun o hop => (does_putMap hx hs hy hz hB hn).congr fun ρ => by simp only [execOp, hop]
theorem One.putMap (h : opAt ops i s = some (.mapUpdate t x y z)) (hx : s.ev x = .mo q) (hs : s.st[q]? = some (.mpo (A (.hid _) fun _ => es))) (hy : s.ev y = .ic (.lit (.int .i64 n))) (hz : s.ev z = .ic (.lit (.int .i64 v))) (hB : mapIB P t .i64 .i64 = true) (hn : mapF es n = none) :
    One r P ops i s .any (s.st.set q (.mpo (A (.hid _) fun _ => es ++ [(n, v)]))) := by
  rw [rhid hA] at hs ⊢
  exact .does h rfl fun o hop => (does_putMap hx hs hy hz hB hn).congr fun ρ => by simp only [execOp, hop]
theorem One.getMap (h : opAt ops i s = some (.lookup t x y true)) (hx : s.ev x = .mo q) (hs : s.st[q]? = some (.mpo (A (.hid _) fun _ => es))) (hy : s.ev y = .ic (.lit (.int .i64 n))) (hB : mapIB P t .i64 .i64 = true) :
    One r P ops i s (.tup [.ic (.lit (.int .i64 (A (.hid _) fun _ => (mapF es n).getD 0))), .ic (.lit (.bool (A (.hid _) fun _ => (mapF es n).isSome)))]) s.st := by
  rw [rhid hA] at hs
  rw [rhid hA, rhid hA]
  exact .does h rfl fun o hop => (does_getMap hx hs hy hB true).congr fun ρ => by simp only [execOp, hop]
theorem One.getMap1 (h : opAt ops i s = some (.lookup t x y false)) (hx : s.ev x = .mo q) (hs : s.st[q]? = some (.mpo (A (.hid _) fun _ => es))) (hy : s.ev y = .ic (.lit (.int .i64 n))) (hB : mapIB P t .i64 .i64 = true) :
    One r P ops i s (.ic (.lit (.int .i64 (A (.hid _) fun _ => (mapF es n).getD 0)))) s.st := by
  rw [rhid hA] at hs
  rw [rhid hA]
  exact .does h rfl fun o hop => (does_getMap hx hs hy hB false).congr fun ρ => by simp only [execOp, hop]
theorem One.getMapN (h : opAt ops i s = some (.lookup t x y true)) (hx : s.ev x = .mo q) (hs : s.st[q]? = some (.mpo (A (.hid _) fun _ => es))) (hy : s.ev y = .ic (.lit (.int .i64 n))) (hB : mapIB P t .i64 .i64 = true) (hn : mapF es n = none) :
    One r P ops i s (.tup [.ic (.lit (.int .i64 0)), .ic (.lit (.bool false))]) s.st := by
  have := One.getMap (r := r) hA h hx hs hy hB
  rw [rhid hA, rhid hA, hn] at this
  exact this
theorem One.getMapS (h : opAt ops i s = some (.lookup t x y true)) (hx : s.ev x = .mo q) (hs : s.st[q]? = some (.mpo (A (.hid _) fun _ => es))) (hy : s.ev y = .ic (.lit (.int .i64 n))) (hB : mapIB P t .i64 .i64 = true) (hn : (mapF es n).isSome = true) :
    One r P ops i s (.tup [.ic (.lit (.int .i64 (A (.hid _) fun _ => (mapF es n).getD 0))), .ic (.lit (.bool true))]) s.st := by
  have := One.getMap (r := r) hA h hx hs hy hB
  rw [hn] at this
  rw [show (A (.hid Bool) fun _ => true) = true from rhid hA _] at this
  exact this
end
end Go.Proofs.Ytkkjlmcnfoncdaa.Aw

namespace Go.Proofs.Ytkkjlmcnfoncdaa.Aw
open Go Go.RowKit
theorem foldl_take {α β : Type} [Inhabited α] (f : β → α → β) (s : β) (l : List α) (j : Nat) (h : j < l.length) : (l.take (j + 1)).foldl f s = f ((l.take j).foldl f s) (l.getD j default) := by
  rw [List.take_add_one, List.foldl_append, List.getD_eq_getElem?_getD, List.getElem?_eq_getElem h]
  rfl
def inP (v : Int) (s : List (Int × Int) × List Int) (w : Int) : List (Int × Int) × List Int := if (mapF s.1 w).isSome then s else (s.1 ++ [(w, v)], s.2 ++ [w])
def visP (nx : Int → List Int) (s : List (Int × Int) × List Int) (v : Int) : List (Int × Int) × List Int := (nx v).foldl (inP v) s
def levP (nx : Int → List Int) (x : Int) : Nat → List (Int × Int) × List Int
  | 0 => ([(x, x)], [x])
  | k + 1 => (((levP nx x k).2.foldl (visP nx) ((levP nx x k).1, [])).1, sortZ ((levP nx x k).2.foldl (visP nx) ((levP nx x k).1, [])).2)
def goesP (nx : Int → List Int) (x y : Int) (depth : Int) (k : Nat) : Bool := decide ((k : Int) < depth) && decide ((levP nx x k).2.length ≠ 0) && !(mapF (levP nx x k).1 y).isSome
def stopP (nx : Int → List Int) (x y : Int) (depth : Int) : Nat → Nat → Nat
  | 0, k => k
  | f + 1, k => if goesP nx x y depth k then stopP nx x y depth f (k + 1) else k
def restP (F : List (Int × Int)) (x : Int) : Nat → Int → List Int
  | 0, _ => []
  | f + 1, y => if y = x then [] else (mapF F y).getD 0 :: restP F x f ((mapF F y).getD 0)
def finP (nx : Int → List Int) (x y depth : Int) : List (Int × Int) := (levP nx x (stopP nx x y depth depth.toNat 0)).1
def pathM (nx : Int → List Int) (x y depth : Int) : List Int := if (mapF (finP nx x y depth) y).isSome then ([y] ++ restP (finP nx x y depth) x (finP nx x y depth).length y).reverse else []
theorem mapF_some {F : List (Int × Int)} {w : Int} : (mapF F w).isSome = true ↔ w ∈ F.map (·.1) := by
  induction F with
  | nil => simp [mapF]
  | cons p r ih =>
    obtain ⟨a, b⟩ := p
    simp only [mapF, List.map_cons, List.mem_cons]
    split
    · simp_all
    · simp_all
theorem mapF_idx {F : List (Int × Int)} {w : Int} (h : w ∈ F.map (·.1)) : mapF F w = some (F.getD ((F.map (·.1)).idxOf w) default).2 ∧ (F.map (·.1)).idxOf w < F.length ∧ (F.getD ((F.map (·.1)).idxOf w) default).1 = w := by
  induction F with
  | nil => simp at h
  | cons p r ih =>
    obtain ⟨a, b⟩ := p
    simp only [mapF, List.map_cons, List.idxOf_cons]
    by_cases hw : w = a
    · subst hw; simp
    · rw [if_neg hw]
      have hb : (a == w) = false := by simp [Ne.symm hw]
      rw [hb]
      simp only [cond_false, List.length_cons, List.getD_cons_succ]
      simp only [List.map_cons, List.mem_cons] at h
      obtain ⟨h1, h2, h3⟩ := ih (h.resolve_left hw)
      exact ⟨h1, by omega, h3⟩
theorem nodup_len : ∀ (n : Nat) (l : List Int), l.Nodup → (∀ x ∈ l, 0 ≤ x ∧ x < (n : Int)) → l.length ≤ n
  | 0, [], _, _ => Nat.le_refl _
  | 0, x :: l, _, h => by have := h x List.mem_cons_self; omega
  | n + 1, l, hd, h => by
    have h1 := nodup_len n (l.erase (n : Int)) (hd.erase _) (fun x hx => by
      have h2 := (hd.mem_erase_iff).1 hx
      have := h x h2.2
      omega)
    rw [List.length_erase] at h1
    split at h1 <;> omega
structure OkF (n x : Int) (F : List (Int × Int)) : Prop where
  nodup : (F.map (·.1)).Nodup
  rng : ∀ w ∈ F.map (·.1), 0 ≤ w ∧ w < n
  pos : 0 < F.length
  par : ∀ i : Nat, i < F.length → (i = 0 ∧ F.getD i default = (x, x)) ∨ ∃ j : Nat, j < i ∧ (F.getD j default).1 = (F.getD i default).2
theorem getD_appF (F : List (Int × Int)) (p : Int × Int) (i : Nat) : (F ++ [p]).getD i default = if i < F.length then F.getD i default else if i = F.length then p else default := by
  rw [List.getD_eq_getElem?_getD, List.getD_eq_getElem?_getD]
  by_cases h : i < F.length
  · rw [if_pos h, List.getElem?_append_left h]
  · rw [if_neg h, List.getElem?_append_right (by omega)]
    by_cases h2 : i = F.length
    · subst h2; simp
    · rw [if_neg h2, List.getElem?_eq_none (by simp; omega)]; rfl
theorem OkF.add {n x : Int} {F : List (Int × Int)} (h : OkF n x F) {w v : Int} (hw : w ∉ F.map (·.1)) (hr : 0 ≤ w ∧ w < n) (hv : v ∈ F.map (·.1)) : OkF n x (F ++ [(w, v)]) := by
  obtain ⟨h1, h2, h3, h4⟩ := h
  refine ⟨?_, fun z hz => ?_, by simp, fun i hi => ?_⟩
  · rw [List.map_append, List.nodup_append]
    refine ⟨h1, by simp, fun a ha b hb => ?_⟩
    simp at hb
    rintro rfl
    exact hw (hb ▸ ha)
  · rw [List.map_append, List.mem_append] at hz
    rcases hz with hz | hz
    · exact h2 z hz
    · simp at hz; subst hz; exact hr
  · rw [List.length_append] at hi
    simp only [List.length_cons, List.length_nil] at hi
    simp only [getD_appF]
    by_cases hl : i < F.length
    · rw [if_pos hl]
      rcases h4 i hl with h | ⟨j, hj, he⟩
      · exact .inl h
      · exact .inr ⟨j, hj, by rw [if_pos (by omega)]; exact he⟩
    · obtain rfl : i = F.length := by omega
      rw [if_neg hl, if_pos rfl]
      obtain ⟨_, e2, e3⟩ := mapF_idx hv
      exact .inr ⟨_, e2, by rw [if_pos e2]; exact e3⟩
structure OkS (n x : Int) (s : List (Int × Int) × List Int) : Prop where
  f : OkF n x s.1
  key : ∀ w ∈ s.2, w ∈ s.1.map (·.1)
  len : s.2.length ≤ s.1.length
theorem OkF.len {n : Nat} {x : Int} {F : List (Int × Int)} (h : OkF n x F) : F.length ≤ n := by
  have := nodup_len n _ h.nodup h.rng
  rwa [List.length_map] at this
theorem inP_ok {n x v w : Int} {s : List (Int × Int) × List Int} (h : OkS n x s) (hv : v ∈ s.1.map (·.1)) (hw : 0 ≤ w ∧ w < n) : OkS n x (inP v s w) ∧ (∀ z ∈ s.1.map (·.1), z ∈ (inP v s w).1.map (·.1)) := by
  unfold inP
  split
  · exact ⟨h, fun z hz => hz⟩
  · rename_i hn
    have hn : w ∉ s.1.map (·.1) := fun hm => hn (mapF_some.2 hm)
    refine ⟨⟨h.f.add hn hw hv, fun z hz => ?_, by simp; exact h.len⟩, fun z hz => by simp only [List.map_append, List.mem_append]; exact .inl hz⟩
    simp only [List.map_append, List.mem_append]
    rcases List.mem_append.1 hz with hz | hz
    · exact .inl (h.key z hz)
    · simp at hz; subst hz; exact .inr (by simp)
theorem visF_ok {n x v : Int} : ∀ (l : List Int) {s : List (Int × Int) × List Int}, OkS n x s → v ∈ s.1.map (·.1) → (∀ w ∈ l, 0 ≤ w ∧ w < n) → OkS n x (l.foldl (inP v) s) ∧ (∀ z ∈ s.1.map (·.1), z ∈ (l.foldl (inP v) s).1.map (·.1))
  | [], s, h, hv, hl => ⟨h, fun z hz => hz⟩
  | w :: l, s, h, hv, hl => by
    have h1 := inP_ok h hv (hl w List.mem_cons_self)
    have h2 := visF_ok l h1.1 (h1.2 v hv) (fun z hz => hl z (List.mem_cons_of_mem _ hz))
    exact ⟨h2.1, fun z hz => h2.2 z (h1.2 z hz)⟩
theorem levF_ok {n x : Int} {nx : Int → List Int} (hnx : ∀ v, 0 ≤ v → v < n → ∀ w ∈ nx v, 0 ≤ w ∧ w < n) : ∀ (l : List Int) {s : List (Int × Int) × List Int}, OkS n x s → (∀ v ∈ l, v ∈ s.1.map (·.1)) → OkS n x (l.foldl (visP nx) s) ∧ (∀ z ∈ s.1.map (·.1), z ∈ (l.foldl (visP nx) s).1.map (·.1))
  | [], s, h, hl => ⟨h, fun z hz => hz⟩
  | v :: l, s, h, hl => by
    have hv := hl v List.mem_cons_self
    have hr := h.f.rng v hv
    have h1 := visF_ok (nx v) h hv (hnx v hr.1 hr.2)
    have h2 := levF_ok hnx l (s := visP nx s v) h1.1 (fun z hz => h1.2 z (hl z (List.mem_cons_of_mem _ hz)))
    exact ⟨h2.1, fun z hz => h2.2 z (h1.2 z hz)⟩
theorem sortZ_mem {l : List Int} {x : Int} : x ∈ sortZ l ↔ x ∈ l := by unfold sortZ; exact List.mem_mergeSort
theorem levP_ok {n x : Int} {nx : Int → List Int} (hnx : ∀ v, 0 ≤ v → v < n → ∀ w ∈ nx v, 0 ≤ w ∧ w < n) (hx : 0 ≤ x ∧ x < n) : ∀ k, OkS n x (levP nx x k)
  | 0 => by
    refine ⟨⟨by simp [levP], by simp [levP]; exact hx, by simp [levP], fun i hi => ?_⟩, by simp [levP], by simp [levP]⟩
    simp [levP] at hi
    subst hi
    exact .inl ⟨rfl, rfl⟩
  | k + 1 => by
    have ih := levP_ok hnx hx k
    have h := levF_ok hnx (levP nx x k).2 (s := ((levP nx x k).1, [])) ⟨ih.f, by simp, by simp⟩ ih.key
    exact ⟨h.1.f, fun w hw => h.1.key w (sortZ_mem.1 hw), by simp only [levP, sortZ_len]; exact h.1.len⟩
theorem back_step {n x : Int} {F : List (Int × Int)} (h : OkF n x F) {y : Int} (hy : y ∈ F.map (·.1)) (hne : y ≠ x) : (mapF F y).getD 0 ∈ F.map (·.1) ∧ (F.map (·.1)).idxOf ((mapF F y).getD 0) < (F.map (·.1)).idxOf y := by
  obtain ⟨e1, e2, e3⟩ := mapF_idx hy
  rw [e1]
  simp only [Option.getD_some]
  rcases h.par _ e2 with ⟨h1, h2⟩ | ⟨j, hj, he⟩
  · rw [h2] at e3; exact absurd e3.symm hne
  · have hjl : j < F.length := by omega
    have hm : (F.getD j default).1 ∈ F.map (·.1) := by
      rw [List.getD_eq_getElem?_getD, List.getElem?_eq_getElem hjl]
      exact List.mem_map.2 ⟨_, List.getElem_mem _, rfl⟩
    rw [← he]
    refine ⟨hm, ?_⟩
    have e4 := mapF_idx hm
    have : (F.map (·.1)).idxOf (F.getD j default).1 = j := by
      refine (List.getElem_inj h.nodup (h₀ := by rw [List.length_map]; exact e4.2.1) (h₁ := by rw [List.length_map]; exact hjl)).1 ?_
      rw [List.getElem_idxOf, List.getElem_map, List.getD_eq_getElem?_getD, List.getElem?_eq_getElem hjl]
      rfl
    omega
theorem restP_stop (F : List (Int × Int)) (x : Int) (f : Nat) : restP F x f x = [] := by
  cases f with
  | zero => rfl
  | succ f => simp [restP]
end Go.Proofs.Ytkkjlmcnfoncdaa.Aw

namespace Go.Proofs.Ytkkjlmcnfoncdaa.Aw
open Go Go.RowKit
set_option maxRecDepth 10000
attribute [local irreducible] AWp AOL QS One AOLg QSg NX QX TRg TX AllO Fin3
theorem compact_mem {zs : List Int} {w : Int} (h : w ∈ Lib.compact zs) : w ∈ zs := by
  unfold Lib.compact Lib.compactUpTo at h
  obtain ⟨i, hi, rfl⟩ := List.mem_map.1 h
  have := List.mem_range.1 (List.mem_filter.1 hi).1
  simp [getElem!_pos, this]
section
variable {K : List (List Int)} {V R : List Int} (hK : OkK K) (hR : RightU V R)
include hK hR
theorem fstM_range {id : Int} (h : 0 ≤ numM K V.length id) : 0 ≤ fstM K V id ∧ fstM K V id < V.length := by
  have hc := num_cases K V.length id hK
  unfold fstM
  rw [if_neg (by omega)]
  exact find_range hR (by omega) (by omega)
theorem edges_range (P Q : List (List Int)) : ∀ n, n ≤ V.length → ∀ p ∈ edgesM K V P Q n, (0 ≤ p.1 ∧ p.1 < V.length) ∧ (0 ≤ p.2 ∧ p.2 < V.length)
  | 0, _, p, hp => by simp [edgesM] at hp
  | n + 1, h, p, hp => by
    simp only [edgesM, List.mem_append] at hp
    rcases hp with (hp | hp) | hp
    · exact edges_range P Q n (by omega) p hp
    · unfold sucE at hp
      obtain ⟨id, hi, rfl⟩ := List.mem_map.1 hp
      have := fstM_range hK hR (id := id) (by simpa using (List.mem_filter.1 hi).2)
      exact ⟨⟨by simp only; omega, by simp only; omega⟩, this⟩
    · unfold preE at hp
      obtain ⟨id, hi, rfl⟩ := List.mem_map.1 hp
      have := fstM_range hK hR (id := id) (by simpa using (List.mem_filter.1 hi).2)
      exact ⟨this, ⟨by simp only; omega, by simp only; omega⟩⟩
theorem next_range (P Q : List (List Int)) (v w : Int) (hw : w ∈ nextM K V P Q v) : 0 ≤ w ∧ w < V.length := by
  unfold nextM at hw
  have h1 := sortZ_mem.1 (compact_mem hw)
  unfold outM at h1
  obtain ⟨p, hp, rfl⟩ := List.mem_map.1 h1
  exact (edges_range hK hR P Q V.length (Nat.le_refl _) p (List.mem_filter.1 hp).1).2
end
def nxG (K : List (List Int)) (V : List Int) (P Q : List (List Int)) (v : Int) : List Int := nextM K V P Q (findU V v)
theorem next_len (K : List (List Int)) (V : List Int) (P Q : List (List Int)) (v : Int) (hp : ∀ v : Nat, v < V.length → (P.getD v default).length ≤ 1000000) (hq : ∀ v : Nat, v < V.length → (Q.getD v default).length ≤ 1000000) (hV : V.length ≤ 1000000) : (nextM K V P Q v).length ≤ 2000000000000 := by
  unfold nextM
  have h1 := compact_len (sortZ (outM (edgesM K V P Q V.length) v))
  have h2 := sortZ_len (outM (edgesM K V P Q V.length) v)
  have h3 := outM_len (edgesM K V P Q V.length) v
  have h4 := edges_len K V P Q V.length hp hq V.length (Nat.le_refl _)
  omega
variable {A : Ar} (hA : A = real)
include hA
set_option maxHeartbeats 4000000 in
theorem path_c (K : List (List Int)) (S : List Int) (hst : StK K S) (R V : List Int) (N : List (Int × Int)) (M : List Int) (P Q : List (List Int)) (hR : RightU V R) (hV : V.length ≤ 1000000) (hP : P.length = V.length) (hQ : Q.length = V.length) (hPl : ∀ x ∈ P, x.length ≤ 1000000) (hQl : ∀ x ∈ Q, x.length ≤ 1000000) (x y : Int) (x0 : 0 ≤ x) (x1 : x < V.length) (y0 : 0 ≤ y) (y1 : y < V.length) (depth : Int) (d0 : -9223372036854775808 ≤ depth) (d1 : depth ≤ 9223372036854775807) :
    PureCalls Try.prog 21 [keyedPV A K S, grP A R V N M P Q, IP x, IP y, IP depth] (intsP A (pathM (nxG K V P Q) (findU V x) (findU V y) depth)) := by
  have fx := ufind_c hA V N M R hR x x0 x1
  have fy := ufind_c hA V N M R hR y y0 y1
  have rx := find_range hR x0 x1
  have ry := find_range hR y0 y1
  have hnx : ∀ v, 0 ≤ v → v < (V.length : Int) → ∀ w ∈ nxG K V P Q v, 0 ≤ w ∧ w < (V.length : Int) := fun v _ _ w hw => next_range hst.ok hR P Q _ w hw
  have hok := fun k => levP_ok hnx rx k
  have hnl : ∀ v, (nxG K V P Q v).length ≤ 2000000000000 := fun v => next_len K V P Q _ (fun v hv => hPl _ (by rw [List.getD_eq_getElem?_getD, List.getElem?_eq_getElem (by omega)]; exact List.getElem_mem _)) (fun v hv => hQl _ (by rw [List.getD_eq_getElem?_getD, List.getElem?_eq_getElem (by omega)]; exact List.getElem_mem _)) hV
  have hn : ∀ v : Int, 0 ≤ v → v < V.length → PureCalls Try.prog 22 [keyedPV A K S, grP A R V N M P Q, IP v] (intsP A (nxG K V P Q v)) := fun v v0 v1 => next_c hA K S hst R V N M P Q hR hV hP hQ hPl hQl v v0 v1
  generalize nxG K V P Q = nx at *
  generalize findU V x = p at *
  generalize findU V y = q at *
  obtain ⟨D, hD⟩ : ∃ D, D = depth.toNat := ⟨_, rfl⟩
  refine PureCalls.ofLe Try.func21 rfl (by kernel_rfl) rfl ?_
  try first | refine AOLg.of [34, 39] ?_ | refine QSg.of [34, 39] ?_
  repeat' (first | (refine AWp.pass ?_; first | refine AWp.seq ?_ | refine AWp.block ?_ | refine AWp.skip ?_ | refine AWp.regG [34, 39] Zc ?_ | refine AWp.cond_t rfl ?_ | refine AWp.cond_f rfl ?_ | (refine AWp.cond rfl ?_ ?_ <;> intro hc <;> (try rw [hc]) <;> ((try simp only [zn] at hc) <;> (try simp (disch := omega) only [zz hA, zb, zy, reduceCtorEq, Bool.false_eq_true, Int.reduceLT, Int.reduceLE, Int.reduceNeg] at hc) <;> (try simp only [zw] at hc)) <;> (try (exfalso; omega))) | refine AWp.exit ?_ | refine AWp.ret ⟨.inr rfl, _, RetOk.ev tabOk Zc, ?_⟩ | refine AWp.drawVG [34, 39] rfl (by decide +kernel) Zc ?_) | (refine AOLg.pass ?_; refine AOLg.nx hA tabOk Zc ?_; first | refine NX.done ?_ | refine NX.gt ?_ | refine NX.gf ?_ | (refine NX.gs ?_ ?_ <;> intro hc <;> rw [hc] <;> ((try simp only [zn] at hc) <;> (try simp (disch := omega) only [zz hA, zb, zy, reduceCtorEq, Bool.false_eq_true, Int.reduceLT, Int.reduceLE, Int.reduceNeg] at hc) <;> (try simp only [zw] at hc)) <;> (try (exfalso; omega))) | (refine NX.kC ?_; first | (with_reducible refine NX.call (fx) ?_) | (with_reducible refine NX.call (fy) ?_) | ((first | refine NX.call (fx) ?_ | refine NX.call (fy) ?_)) | fail) | (refine NX.kO ?_; (first | refine NX.callO (fx) (by simp [allEq]) rfl ?_ | refine NX.callO (fy) (by simp [allEq]) rfl ?_)) | refine NX.k 1 (NX.one Z1 ?_) | refine NX.k 7 (NX.one Z7 ?_) | refine NX.k 9 (NX.one Z9 ?_) | refine NX.k 10 (NX.one Z10 ?_) | refine NX.k 11 (NX.one Z11 ?_) | refine NX.k 14 (NX.one Z14 ?_) | refine NX.k 17 (NX.one Z17 ?_) | refine NX.k 18 (NX.one Z18 ?_) | ((first | (refine NX.k 23 ?_; first | refine NX.one (One.lookupI (q := .i64) hA rfl rfl rfl Zc (by decide +kernel)) ?_ | refine NX.one (One.lookupI (q := .u8) hA rfl rfl rfl Zc (by decide +kernel)) ?_ | refine NX.one (One.lookupI1 (q := .i64) hA rfl rfl rfl Zc (by decide +kernel)) ?_ | refine NX.one (One.lookupI1 (q := .u8) hA rfl rfl rfl Zc (by decide +kernel)) ?_) | (refine NX.k 26 ?_; first | refine NX.mapLit .i64 Zc (by decide +kernel) ?_ | refine NX.mapLit .u8 Zc (by decide +kernel) ?_)) <;> (first | refine AOLg.pass ?_ | exact Zd)) | (refine NX.one (One.mkMap hA rfl) ?_) | (refine NX.one (One.insMap hA rfl rfl rfl rfl rfl (by kernel_rfl) rfl) ?_) | (refine NX.one (One.weakE (One.ev hA tabOk Zc)) ?_) | refine NX.raw ?_) | (refine TRg.pass ?_; refine TRg.nx hA tabOk Zc ?_; first | refine TX.done ?_ | refine TX.gt ?_ | refine TX.gf ?_ | (refine TX.gs ?_ ?_ <;> intro hc <;> rw [hc] <;> ((try simp only [zn] at hc) <;> (try simp (disch := omega) only [zz hA, zb, zy, reduceCtorEq, Bool.false_eq_true, Int.reduceLT, Int.reduceLE, Int.reduceNeg] at hc) <;> (try simp only [zw] at hc)) <;> (try (exfalso; omega))) | (refine TX.kC ?_; first | (with_reducible refine TX.call (fx) ?_) | (with_reducible refine TX.call (fy) ?_) | ((first | refine TX.call (fx) ?_ | refine TX.call (fy) ?_)) | fail) | (refine TX.kO ?_; (first | refine TX.callO (fx) (by simp [allEq]) rfl ?_ | refine TX.callO (fy) (by simp [allEq]) rfl ?_)) | refine TX.k 1 (TX.one Z1 ?_) | refine TX.k 7 (TX.one Z7 ?_) | refine TX.k 9 (TX.one Z9 ?_) | refine TX.k 10 (TX.one Z10 ?_) | refine TX.k 11 (TX.one Z11 ?_) | refine TX.k 14 (TX.one Z14 ?_) | refine TX.k 17 (TX.one Z17 ?_) | refine TX.k 18 (TX.one Z18 ?_) | ((first | (refine TX.k 23 ?_; first | refine TX.one (One.lookupI (q := .i64) hA rfl rfl rfl Zc (by decide +kernel)) ?_ | refine TX.one (One.lookupI (q := .u8) hA rfl rfl rfl Zc (by decide +kernel)) ?_ | refine TX.one (One.lookupI1 (q := .i64) hA rfl rfl rfl Zc (by decide +kernel)) ?_ | refine TX.one (One.lookupI1 (q := .u8) hA rfl rfl rfl Zc (by decide +kernel)) ?_)) <;> (first | refine TRg.pass ?_ | exact Zd)) | (refine TX.one (One.mkMap hA rfl) ?_) | (refine TX.one (One.insMap hA rfl rfl rfl rfl rfl (by kernel_rfl) rfl) ?_) | (refine TX.one (One.weakE (One.ev hA tabOk Zc)) ?_) | refine TX.raw ?_) | refine Fin3.of Zc (by repeat' (first | exact True.intro | exact rfl | refine And.intro ?_ ?_)) ?_ ?_ | (refine AllO.pass ?_; first | exact AllO.nil | (refine AllO.cons (One.ev hA tabOk ?_) ?_ <;> (first | refine AllO.pass ?_ | ((conv => lhs; cbv); done))) | (refine AllO.cons (One.skipB ?_) ?_ <;> (first | refine AllO.pass ?_ | ((conv => lhs; cbv); done))) | ((with_reducible refine AllO.call Zc (fx) ?_ ?_) <;> (first | refine AllO.pass ?_ | exact rfl | exact Zd)) | ((with_reducible refine AllO.call Zc (fy) ?_ ?_) <;> (first | refine AllO.pass ?_ | exact rfl | exact Zd)) | refine AllO.consX ZX rfl rfl ?_ | ((refine AllO.consX (One.mkMap hA rfl) rfl rfl ?_) <;> (first | refine AllO.pass ?_ | exact Zd)) | ((refine AllO.consX (One.insMap hA rfl rfl rfl rfl rfl (by kernel_rfl) rfl) rfl rfl ?_) <;> (first | refine AllO.pass ?_ | exact Zd)) | ((refine AllO.consX (One.weakE (One.ev hA tabOk Zc)) rfl rfl ?_) <;> (first | refine AllO.pass ?_ | exact Zd))) | refine Thn.exit ?_ | refine Blk.here ?_ | refine Blk.other (by decide) ?_ | refine ⟨.inl rfl, _, RetOk.ev tabOk Zc, ?_⟩ | fail)
  refine AWp.loopT 3 (fun k : Nat => [(13, .ic (.lit (.int .i64 (hid A (cN k))))), (12, .ic (.sl 1 false (hid A (List.map encI (levP nx p k).2))))]) (fun k => [.var true 26 [.ic (.sl 1 false (hid A (List.map (encK A) K))), .ic (.sl 1 false (hid A (List.map encI S)))], .var true 31 [.ic (.sl 1 false (hid A (List.map encI R))), .ic (.sl 1 false (hid A (List.map encI V))), .ic (.sl 2 false (hid A (List.map encN N))), .ic (.sl 1 false (hid A (List.map encI M))), .ic (.sl 1 false (hid A (List.map (encK A) P))), .ic (.sl 1 false (hid A (List.map (encK A) Q)))], .mpo (hid A (levP nx p k).1)]) (fun k => D - k) (fun k => k ≤ D ∧ stopP nx p q depth (D - k) k = stopP nx p q depth D 0) 0 (by conv => lhs; cbv) ⟨Nat.zero_le _, rfl⟩ (by ((repeat' (first | exact subE.nil | refine subE.cons rfl ?_ | refine subE.int rfl ?_ ?_ | refine subE.bool rfl ?_ ?_ | refine subE.str rfl ?_ ?_ | refine subE.sl rfl ?_ ?_))) <;> simp [hA, real, hid, cN, levP, encI]) (by simp [hA, real, hid, levP]) (fun _ => rfl) (fun _ => rfl) ?_
  rintro k ⟨hk, hstop⟩
  have hs := hok k
  have hnext : levP nx p (k + 1) = (((levP nx p k).2.foldl (visP nx) ((levP nx p k).1, [])).1, sortZ ((levP nx p k).2.foldl (visP nx) ((levP nx p k).1, [])).2) := rfl
  have hgo : goesP nx p q depth k = (decide ((k : Int) < depth) && decide ((levP nx p k).2.length ≠ 0) && !(mapF (levP nx p k).1 q).isSome) := rfl
  have hfl := hs.f.len
  obtain ⟨F, hF⟩ : ∃ F, F = (levP nx p k).1 := ⟨_, rfl⟩
  obtain ⟨L, hL⟩ : ∃ L, L = (levP nx p k).2 := ⟨_, rfl⟩
  have hsl := hs.len
  have hkey := hs.key
  have hrng := hs.f.rng
  have hff := hs.f
  rw [← hF, ← hL] at hnext hgo hsl hkey
  rw [← hF] at hfl hrng hff
  by_cases hg : goesP nx p q depth k = true
  · have hg0 := hg
    rw [hgo] at hg
    simp only [Bool.and_eq_true, decide_eq_true_eq, Bool.not_eq_true'] at hg
    obtain ⟨⟨g1, g2⟩, g3⟩ := hg
    have g4 : mapF F q = none := by cases h : mapF F q <;> simp_all
    rw [← hF, ← hL]
    try first | refine AOLg.of [16] ?_ | refine QSg.of [16] ?_
    repeat' (first | (refine AWp.pass ?_; first | refine AWp.seq ?_ | refine AWp.block ?_ | refine AWp.skip ?_ | refine AWp.regG [16] Zc ?_ | refine AWp.cond_t rfl ?_ | refine AWp.cond_f rfl ?_ | (refine AWp.cond rfl ?_ ?_ <;> intro hc <;> (try rw [hc]) <;> ((try simp only [zn] at hc) <;> (try simp (disch := omega) only [zz hA, zb, zy, reduceCtorEq, Bool.false_eq_true, Int.reduceLT, Int.reduceLE, Int.reduceNeg] at hc) <;> (try simp only [zw] at hc)) <;> (try (exfalso; omega))) | refine AWp.exit ?_ | refine AWp.ret ⟨.inr rfl, _, RetOk.ev tabOk Zc, ?_⟩ | refine AWp.drawVG [16] rfl (by decide +kernel) Zc ?_) | (refine AOLg.pass ?_; refine AOLg.nx hA tabOk Zc ?_; first | refine NX.done ?_ | refine NX.gt ?_ | refine NX.gf ?_ | (refine NX.gs ?_ ?_ <;> intro hc <;> rw [hc] <;> ((try simp only [zn] at hc) <;> (try simp (disch := omega) only [zz hA, zb, zy, reduceCtorEq, Bool.false_eq_true, Int.reduceLT, Int.reduceLE, Int.reduceNeg] at hc) <;> (try simp only [zw] at hc)) <;> (try (exfalso; omega))) | refine NX.k 1 (NX.one Z1 ?_) | refine NX.k 7 (NX.one Z7 ?_) | refine NX.k 9 (NX.one Z9 ?_) | refine NX.k 10 (NX.one Z10 ?_) | refine NX.k 11 (NX.one Z11 ?_) | refine NX.k 14 (NX.one Z14 ?_) | refine NX.k 17 (NX.one Z17 ?_) | refine NX.k 18 (NX.one Z18 ?_) | ((first | (refine NX.k 23 ?_; first | refine NX.one (One.lookupI (q := .i64) hA rfl rfl rfl Zc (by decide +kernel)) ?_ | refine NX.one (One.lookupI (q := .u8) hA rfl rfl rfl Zc (by decide +kernel)) ?_ | refine NX.one (One.lookupI1 (q := .i64) hA rfl rfl rfl Zc (by decide +kernel)) ?_ | refine NX.one (One.lookupI1 (q := .u8) hA rfl rfl rfl Zc (by decide +kernel)) ?_) | (refine NX.k 26 ?_; first | refine NX.mapLit .i64 Zc (by decide +kernel) ?_ | refine NX.mapLit .u8 Zc (by decide +kernel) ?_)) <;> (first | refine AOLg.pass ?_ | exact Zd)) | (refine NX.one (One.getMapN hA rfl rfl rfl rfl (by kernel_rfl) (by simp only [rhid hA, hid_eq hA, cN, Int.toNat_natCast]; assumption)) ?_) | (refine NX.one (One.nilOwn tabOk 16 24 rfl rfl rfl) ?_) | refine NX.raw ?_) | (refine TRg.pass ?_; refine TRg.nx hA tabOk Zc ?_; first | refine TX.done ?_ | refine TX.gt ?_ | refine TX.gf ?_ | (refine TX.gs ?_ ?_ <;> intro hc <;> rw [hc] <;> ((try simp only [zn] at hc) <;> (try simp (disch := omega) only [zz hA, zb, zy, reduceCtorEq, Bool.false_eq_true, Int.reduceLT, Int.reduceLE, Int.reduceNeg] at hc) <;> (try simp only [zw] at hc)) <;> (try (exfalso; omega))) | refine TX.k 1 (TX.one Z1 ?_) | refine TX.k 7 (TX.one Z7 ?_) | refine TX.k 9 (TX.one Z9 ?_) | refine TX.k 10 (TX.one Z10 ?_) | refine TX.k 11 (TX.one Z11 ?_) | refine TX.k 14 (TX.one Z14 ?_) | refine TX.k 17 (TX.one Z17 ?_) | refine TX.k 18 (TX.one Z18 ?_) | ((first | (refine TX.k 23 ?_; first | refine TX.one (One.lookupI (q := .i64) hA rfl rfl rfl Zc (by decide +kernel)) ?_ | refine TX.one (One.lookupI (q := .u8) hA rfl rfl rfl Zc (by decide +kernel)) ?_ | refine TX.one (One.lookupI1 (q := .i64) hA rfl rfl rfl Zc (by decide +kernel)) ?_ | refine TX.one (One.lookupI1 (q := .u8) hA rfl rfl rfl Zc (by decide +kernel)) ?_)) <;> (first | refine TRg.pass ?_ | exact Zd)) | (refine TX.one (One.getMapN hA rfl rfl rfl rfl (by kernel_rfl) (by simp only [rhid hA, hid_eq hA, cN, Int.toNat_natCast]; assumption)) ?_) | (refine TX.one (One.nilOwn tabOk 16 24 rfl rfl rfl) ?_) | refine TX.raw ?_) | refine Fin3.of Zc (by repeat' (first | exact True.intro | exact rfl | refine And.intro ?_ ?_)) ?_ ?_ | (refine AllO.pass ?_; first | exact AllO.nil | (refine AllO.cons (One.ev hA tabOk ?_) ?_ <;> (first | refine AllO.pass ?_ | ((conv => lhs; cbv); done))) | (refine AllO.cons (One.skipB ?_) ?_ <;> (first | refine AllO.pass ?_ | ((conv => lhs; cbv); done))) | refine AllO.consX ZX rfl rfl ?_ | ((refine AllO.consX (One.getMapN hA rfl rfl rfl rfl (by kernel_rfl) (by simp only [rhid hA, hid_eq hA, cN, Int.toNat_natCast]; assumption)) rfl rfl ?_) <;> (first | refine AllO.pass ?_ | exact Zd))) | refine Thn.exit ?_ | refine Blk.here ?_ | refine Blk.other (by decide) ?_ | refine ⟨.inl rfl, _, RetOk.ev tabOk Zc, ?_⟩ | fail)
    all_goals try (exfalso; omega)
    refine AWp.loopU (fun x : Nat × Nat => [(59, .ic (.lit (.int .i64 (hid A (cN x.1))))), (16, .own 3 x.2)]) (fun x => [.var true 26 [.ic (.sl 1 false (hid A (List.map (encK A) K))), .ic (.sl 1 false (hid A (List.map encI S)))], .var true 31 [.ic (.sl 1 false (hid A (List.map encI R))), .ic (.sl 1 false (hid A (List.map encI V))), .ic (.sl 2 false (hid A (List.map encN N))), .ic (.sl 1 false (hid A (List.map encI M))), .ic (.sl 1 false (hid A (List.map (encK A) P))), .ic (.sl 1 false (hid A (List.map (encK A) Q)))], .mpo (hid A ((L.take x.1).foldl (visP nx) (F, [])).1), .row true x.2 3 1 (hid A (List.map encI ((L.take x.1).foldl (visP nx) (F, [])).2))]) (fun x => L.length - x.1) (fun x => x.1 ≤ L.length) (0, 0) (by conv => lhs; cbv) (Nat.zero_le _) (by ((repeat' (first | exact subE.nil | refine subE.cons rfl ?_ | refine subE.int rfl ?_ ?_ | refine subE.bool rfl ?_ ?_ | refine subE.str rfl ?_ ?_ | refine subE.sl rfl ?_ ?_))) <;> first | rfl | simp [hA, real, hid, cN]) (by simp [hA, real, hid]) ?_
    rintro ⟨j, ver⟩ hj
    simp only at hj ⊢
    have hs2 := (levF_ok hnx (L.take j) (s := (F, [])) ⟨hff, by simp, by simp⟩ (fun v hv => hkey v (List.mem_of_mem_take hv)))
    by_cases hlt : j < L.length
    · have hfold := foldl_take (visP nx) (F, []) L j hlt
      obtain ⟨v, hv⟩ : ∃ v, v = L.getD j default := ⟨_, rfl⟩
      have hvm : v ∈ F.map (·.1) := hkey v (by rw [hv, List.getD_eq_getElem?_getD, List.getElem?_eq_getElem hlt]; exact List.getElem_mem _)
      have hvr := hrng v hvm
      have hnv := hn v hvr.1 hvr.2
      have hnr := hnx v hvr.1 hvr.2
      have hnl2 := hnl v
      have hvk := hs2.2 v hvm
      have hs3 := hs2.1
      rw [← hv] at hfold
      generalize hfd : (L.take (j + 1)).foldl (visP nx) (F, []) = sn at *
      generalize (L.take j).foldl (visP nx) (F, []) = s at *
      obtain ⟨F1, M1⟩ := s
      simp only at hvk ⊢
      have hnc : ∀ z : Int, z = L.getD j default → PureCalls Try.prog 22 [keyedPV A K S, grP A R V N M P Q, IP z] (intsP A (nx v)) := by rintro z rfl; rw [← hv]; exact hnv
      try first | refine AOLg.of [] ?_ | refine QSg.of [] ?_
      repeat' (first | (refine AWp.pass ?_; first | refine AWp.seq ?_ | refine AWp.block ?_ | refine AWp.skip ?_ | refine AWp.regG [] Zc ?_ | refine AWp.cond_t rfl ?_ | refine AWp.cond_f rfl ?_ | (refine AWp.cond rfl ?_ ?_ <;> intro hc <;> (try rw [hc]) <;> ((try simp only [zn] at hc) <;> (try simp (disch := omega) only [zz hA, zb, zy, reduceCtorEq, Bool.false_eq_true, Int.reduceLT, Int.reduceLE, Int.reduceNeg] at hc) <;> (try simp only [zw] at hc)) <;> (try (exfalso; omega))) | refine AWp.exit ?_ | refine AWp.ret ⟨.inr rfl, _, RetOk.ev tabOk Zc, ?_⟩ | refine AWp.drawVG [] rfl (by decide +kernel) Zc ?_) | (refine AOLg.pass ?_; refine AOLg.nx hA tabOk Zc ?_; first | refine NX.done ?_ | refine NX.gt ?_ | refine NX.gf ?_ | (refine NX.gs ?_ ?_ <;> intro hc <;> rw [hc] <;> ((try simp only [zn] at hc) <;> (try simp (disch := omega) only [zz hA, zb, zy, reduceCtorEq, Bool.false_eq_true, Int.reduceLT, Int.reduceLE, Int.reduceNeg] at hc) <;> (try simp only [zw] at hc)) <;> (try (exfalso; omega))) | (refine NX.kC ?_; first | (with_reducible refine NX.call (hnc _ (by simp only [rhid hA, hid_eq hA, cN, Int.toNat_natCast])) ?_) | ((first | refine NX.call (hnc _ (by simp only [rhid hA, hid_eq hA, cN, Int.toNat_natCast])) ?_)) | fail) | (refine NX.kO ?_; (first | refine NX.callO (hnc _ (by simp only [rhid hA, hid_eq hA, cN, Int.toNat_natCast])) (by simp [allEq]) rfl ?_)) | refine NX.k 1 (NX.one Z1 ?_) | refine NX.k 7 (NX.one Z7 ?_) | refine NX.k 9 (NX.one Z9 ?_) | refine NX.k 10 (NX.one Z10 ?_) | refine NX.k 11 (NX.one Z11 ?_) | refine NX.k 14 (NX.one Z14 ?_) | refine NX.k 17 (NX.one Z17 ?_) | refine NX.k 18 (NX.one Z18 ?_) | ((first | (refine NX.k 23 ?_; first | refine NX.one (One.lookupI (q := .i64) hA rfl rfl rfl Zc (by decide +kernel)) ?_ | refine NX.one (One.lookupI (q := .u8) hA rfl rfl rfl Zc (by decide +kernel)) ?_ | refine NX.one (One.lookupI1 (q := .i64) hA rfl rfl rfl Zc (by decide +kernel)) ?_ | refine NX.one (One.lookupI1 (q := .u8) hA rfl rfl rfl Zc (by decide +kernel)) ?_) | (refine NX.k 26 ?_; first | refine NX.mapLit .i64 Zc (by decide +kernel) ?_ | refine NX.mapLit .u8 Zc (by decide +kernel) ?_)) <;> (first | refine AOLg.pass ?_ | exact Zd)) | refine NX.raw ?_) | (refine TRg.pass ?_; refine TRg.nx hA tabOk Zc ?_; first | refine TX.done ?_ | refine TX.gt ?_ | refine TX.gf ?_ | (refine TX.gs ?_ ?_ <;> intro hc <;> rw [hc] <;> ((try simp only [zn] at hc) <;> (try simp (disch := omega) only [zz hA, zb, zy, reduceCtorEq, Bool.false_eq_true, Int.reduceLT, Int.reduceLE, Int.reduceNeg] at hc) <;> (try simp only [zw] at hc)) <;> (try (exfalso; omega))) | (refine TX.kC ?_; first | (with_reducible refine TX.call (hnc _ (by simp only [rhid hA, hid_eq hA, cN, Int.toNat_natCast])) ?_) | ((first | refine TX.call (hnc _ (by simp only [rhid hA, hid_eq hA, cN, Int.toNat_natCast])) ?_)) | fail) | (refine TX.kO ?_; (first | refine TX.callO (hnc _ (by simp only [rhid hA, hid_eq hA, cN, Int.toNat_natCast])) (by simp [allEq]) rfl ?_)) | refine TX.k 1 (TX.one Z1 ?_) | refine TX.k 7 (TX.one Z7 ?_) | refine TX.k 9 (TX.one Z9 ?_) | refine TX.k 10 (TX.one Z10 ?_) | refine TX.k 11 (TX.one Z11 ?_) | refine TX.k 14 (TX.one Z14 ?_) | refine TX.k 17 (TX.one Z17 ?_) | refine TX.k 18 (TX.one Z18 ?_) | ((first | (refine TX.k 23 ?_; first | refine TX.one (One.lookupI (q := .i64) hA rfl rfl rfl Zc (by decide +kernel)) ?_ | refine TX.one (One.lookupI (q := .u8) hA rfl rfl rfl Zc (by decide +kernel)) ?_ | refine TX.one (One.lookupI1 (q := .i64) hA rfl rfl rfl Zc (by decide +kernel)) ?_ | refine TX.one (One.lookupI1 (q := .u8) hA rfl rfl rfl Zc (by decide +kernel)) ?_)) <;> (first | refine TRg.pass ?_ | exact Zd)) | refine TX.raw ?_) | refine Fin3.of Zc (by repeat' (first | exact True.intro | exact rfl | refine And.intro ?_ ?_)) ?_ ?_ | (refine AllO.pass ?_; first | exact AllO.nil | (refine AllO.cons (One.ev hA tabOk ?_) ?_ <;> (first | refine AllO.pass ?_ | ((conv => lhs; cbv); done))) | (refine AllO.cons (One.skipB ?_) ?_ <;> (first | refine AllO.pass ?_ | ((conv => lhs; cbv); done))) | ((with_reducible refine AllO.call Zc (hnc _ (by simp only [rhid hA, hid_eq hA, cN, Int.toNat_natCast])) ?_ ?_) <;> (first | refine AllO.pass ?_ | exact rfl | exact Zd)) | refine AllO.consX ZX rfl rfl ?_) | refine Thn.exit ?_ | refine Blk.here ?_ | refine Blk.other (by decide) ?_ | refine ⟨.inl rfl, _, RetOk.ev tabOk Zc, ?_⟩ | fail)
      all_goals try (exfalso; omega)
      rw [show (A (.hid Int) fun _ => L.getD (A (.hid Int) fun _ => cN j).toNat default) = v from by simp only [rhid hA, cN, Int.toNat_natCast]; exact hv.symm]
      have hvs : sn = (nx v).foldl (inP v) (F1, M1) := hfold
      generalize nx v = W at *
      refine AWp.loopU (fun x : Nat × Nat => [(68, .ic (.lit (.int .i64 (hid A (cN x.1))))), (16, .own 3 x.2)]) (fun x => [.var true 26 [.ic (.sl 1 false (hid A (List.map (encK A) K))), .ic (.sl 1 false (hid A (List.map encI S)))], .var true 31 [.ic (.sl 1 false (hid A (List.map encI R))), .ic (.sl 1 false (hid A (List.map encI V))), .ic (.sl 2 false (hid A (List.map encN N))), .ic (.sl 1 false (hid A (List.map encI M))), .ic (.sl 1 false (hid A (List.map (encK A) P))), .ic (.sl 1 false (hid A (List.map (encK A) Q)))], .mpo (hid A ((W.take x.1).foldl (inP v) (F1, M1)).1), .row true x.2 3 1 (hid A (List.map encI ((W.take x.1).foldl (inP v) (F1, M1)).2))]) (fun x => W.length - x.1) (fun x => x.1 ≤ W.length) (0, ver) (by conv => lhs; cbv) (Nat.zero_le _) (by ((repeat' (first | exact subE.nil | refine subE.cons rfl ?_ | refine subE.int rfl ?_ ?_ | refine subE.bool rfl ?_ ?_ | refine subE.str rfl ?_ ?_ | refine subE.sl rfl ?_ ?_))) <;> first | rfl | simp [hA, real, hid, cN]) (by simp [hA, real, hid]) ?_
      rintro ⟨i, u⟩ hi
      simp only at hi ⊢
      have hs4 := (visF_ok (W.take i) hs3 hvk (fun z hz => hnr z (List.mem_of_mem_take hz))).1
      have hl4 := hs4.f.len
      have hl5 := hs4.len
      by_cases hlt2 : i < W.length
      · have hfold2 := foldl_take (inP v) (F1, M1) W i hlt2
        obtain ⟨w, hw⟩ : ∃ w, w = W.getD i default := ⟨_, rfl⟩
        rw [← hw] at hfold2
        generalize hfd2 : (W.take (i + 1)).foldl (inP v) (F1, M1) = tn at *
        generalize (W.take i).foldl (inP v) (F1, M1) = t at *
        obtain ⟨F2, M2⟩ := t
        simp only at hl4 hl5 ⊢
        unfold inP at hfold2
        by_cases hm : (mapF F2 w).isSome = true
        · rw [if_pos hm] at hfold2
          try first | refine AOLg.of [] ?_ | refine QSg.of [] ?_
          repeat' (first | (refine AWp.pass ?_; first | refine AWp.seq ?_ | refine AWp.block ?_ | refine AWp.skip ?_ | refine AWp.regG [] Zc ?_ | refine AWp.cond_t rfl ?_ | refine AWp.cond_f rfl ?_ | (refine AWp.cond rfl ?_ ?_ <;> intro hc <;> (try rw [hc]) <;> ((try simp only [zn] at hc) <;> (try simp (disch := omega) only [zz hA, zb, zy, reduceCtorEq, Bool.false_eq_true, Int.reduceLT, Int.reduceLE, Int.reduceNeg] at hc) <;> (try simp only [zw] at hc)) <;> (try (exfalso; omega))) | refine AWp.exit ?_ | refine AWp.ret ⟨.inr rfl, _, RetOk.ev tabOk Zc, ?_⟩ | refine AWp.drawVG [] rfl (by decide +kernel) Zc ?_) | (refine AOLg.pass ?_; refine AOLg.nx hA tabOk Zc ?_; first | refine NX.done ?_ | refine NX.gt ?_ | refine NX.gf ?_ | (refine NX.gs ?_ ?_ <;> intro hc <;> rw [hc] <;> ((try simp only [zn] at hc) <;> (try simp (disch := omega) only [zz hA, zb, zy, reduceCtorEq, Bool.false_eq_true, Int.reduceLT, Int.reduceLE, Int.reduceNeg] at hc) <;> (try simp only [zw] at hc)) <;> (try (exfalso; omega))) | refine NX.k 1 (NX.one Z1 ?_) | refine NX.k 7 (NX.one Z7 ?_) | refine NX.k 9 (NX.one Z9 ?_) | refine NX.k 10 (NX.one Z10 ?_) | refine NX.k 11 (NX.one Z11 ?_) | refine NX.k 14 (NX.one Z14 ?_) | refine NX.k 17 (NX.one Z17 ?_) | refine NX.k 18 (NX.one Z18 ?_) | ((first | (refine NX.k 23 ?_; first | refine NX.one (One.lookupI (q := .i64) hA rfl rfl rfl Zc (by decide +kernel)) ?_ | refine NX.one (One.lookupI (q := .u8) hA rfl rfl rfl Zc (by decide +kernel)) ?_ | refine NX.one (One.lookupI1 (q := .i64) hA rfl rfl rfl Zc (by decide +kernel)) ?_ | refine NX.one (One.lookupI1 (q := .u8) hA rfl rfl rfl Zc (by decide +kernel)) ?_) | (refine NX.k 26 ?_; first | refine NX.mapLit .i64 Zc (by decide +kernel) ?_ | refine NX.mapLit .u8 Zc (by decide +kernel) ?_)) <;> (first | refine AOLg.pass ?_ | exact Zd)) | (refine NX.one (One.getMapS hA rfl rfl rfl rfl (by kernel_rfl) (by simp only [rhid hA, hid_eq hA, cN, Int.toNat_natCast]; rw [← hw]; assumption)) ?_) | refine NX.raw ?_) | (refine TRg.pass ?_; refine TRg.nx hA tabOk Zc ?_; first | refine TX.done ?_ | refine TX.gt ?_ | refine TX.gf ?_ | (refine TX.gs ?_ ?_ <;> intro hc <;> rw [hc] <;> ((try simp only [zn] at hc) <;> (try simp (disch := omega) only [zz hA, zb, zy, reduceCtorEq, Bool.false_eq_true, Int.reduceLT, Int.reduceLE, Int.reduceNeg] at hc) <;> (try simp only [zw] at hc)) <;> (try (exfalso; omega))) | refine TX.k 1 (TX.one Z1 ?_) | refine TX.k 7 (TX.one Z7 ?_) | refine TX.k 9 (TX.one Z9 ?_) | refine TX.k 10 (TX.one Z10 ?_) | refine TX.k 11 (TX.one Z11 ?_) | refine TX.k 14 (TX.one Z14 ?_) | refine TX.k 17 (TX.one Z17 ?_) | refine TX.k 18 (TX.one Z18 ?_) | ((first | (refine TX.k 23 ?_; first | refine TX.one (One.lookupI (q := .i64) hA rfl rfl rfl Zc (by decide +kernel)) ?_ | refine TX.one (One.lookupI (q := .u8) hA rfl rfl rfl Zc (by decide +kernel)) ?_ | refine TX.one (One.lookupI1 (q := .i64) hA rfl rfl rfl Zc (by decide +kernel)) ?_ | refine TX.one (One.lookupI1 (q := .u8) hA rfl rfl rfl Zc (by decide +kernel)) ?_)) <;> (first | refine TRg.pass ?_ | exact Zd)) | (refine TX.one (One.getMapS hA rfl rfl rfl rfl (by kernel_rfl) (by simp only [rhid hA, hid_eq hA, cN, Int.toNat_natCast]; rw [← hw]; assumption)) ?_) | refine TX.raw ?_) | refine Fin3.of Zc (by repeat' (first | exact True.intro | exact rfl | refine And.intro ?_ ?_)) ?_ ?_ | (refine AllO.pass ?_; first | exact AllO.nil | (refine AllO.cons (One.ev hA tabOk ?_) ?_ <;> (first | refine AllO.pass ?_ | ((conv => lhs; cbv); done))) | (refine AllO.cons (One.skipB ?_) ?_ <;> (first | refine AllO.pass ?_ | ((conv => lhs; cbv); done))) | refine AllO.consX ZX rfl rfl ?_ | ((refine AllO.consX (One.getMapS hA rfl rfl rfl rfl (by kernel_rfl) (by simp only [rhid hA, hid_eq hA, cN, Int.toNat_natCast]; rw [← hw]; assumption)) rfl rfl ?_) <;> (first | refine AllO.pass ?_ | exact Zd))) | refine Thn.exit ?_ | refine Blk.here ?_ | refine Blk.other (by decide) ?_ | refine ⟨.inl rfl, _, RetOk.ev tabOk Zc, ?_⟩ | fail)
          all_goals try (exfalso; omega)
          refine ⟨(i + 1, u), by simp only; omega, by simp only; omega, rfl, ?_, ?_, Zk⟩
          · simp only [hfd2, hfold2]
          · (repeat' (first | exact subE.nil | refine subE.cons rfl ?_ | refine subE.int rfl ?_ ?_ | refine subE.bool rfl ?_ ?_ | refine subE.str rfl ?_ ?_ | refine subE.sl rfl ?_ ?_))
            all_goals first | rfl | exact Zd
        · rw [if_neg hm] at hfold2
          have hm2 : mapF F2 w = none := by cases h : mapF F2 w <;> simp_all
          try first | refine AOLg.of [] ?_ | refine QSg.of [] ?_
          repeat' (first | (refine AWp.pass ?_; first | refine AWp.seq ?_ | refine AWp.block ?_ | refine AWp.skip ?_ | refine AWp.regG [] Zc ?_ | refine AWp.cond_t rfl ?_ | refine AWp.cond_f rfl ?_ | (refine AWp.cond rfl ?_ ?_ <;> intro hc <;> (try rw [hc]) <;> ((try simp only [zn] at hc) <;> (try simp (disch := omega) only [zz hA, zb, zy, reduceCtorEq, Bool.false_eq_true, Int.reduceLT, Int.reduceLE, Int.reduceNeg] at hc) <;> (try simp only [zw] at hc)) <;> (try (exfalso; omega))) | refine AWp.exit ?_ | refine AWp.ret ⟨.inr rfl, _, RetOk.ev tabOk Zc, ?_⟩ | refine AWp.drawVG [] rfl (by decide +kernel) Zc ?_) | (refine AOLg.pass ?_; refine AOLg.nx hA tabOk Zc ?_; first | refine NX.done ?_ | refine NX.gt ?_ | refine NX.gf ?_ | (refine NX.gs ?_ ?_ <;> intro hc <;> rw [hc] <;> ((try simp only [zn] at hc) <;> (try simp (disch := omega) only [zz hA, zb, zy, reduceCtorEq, Bool.false_eq_true, Int.reduceLT, Int.reduceLE, Int.reduceNeg] at hc) <;> (try simp only [zw] at hc)) <;> (try (exfalso; omega))) | refine NX.k 1 (NX.one Z1 ?_) | refine NX.k 7 (NX.one Z7 ?_) | refine NX.k 9 (NX.one Z9 ?_) | refine NX.k 10 (NX.one Z10 ?_) | refine NX.k 11 (NX.one Z11 ?_) | refine NX.k 14 (NX.one Z14 ?_) | refine NX.k 17 (NX.one Z17 ?_) | refine NX.k 18 (NX.one Z18 ?_) | ((first | (refine NX.k 23 ?_; first | refine NX.one (One.lookupI (q := .i64) hA rfl rfl rfl Zc (by decide +kernel)) ?_ | refine NX.one (One.lookupI (q := .u8) hA rfl rfl rfl Zc (by decide +kernel)) ?_ | refine NX.one (One.lookupI1 (q := .i64) hA rfl rfl rfl Zc (by decide +kernel)) ?_ | refine NX.one (One.lookupI1 (q := .u8) hA rfl rfl rfl Zc (by decide +kernel)) ?_) | (refine NX.k 26 ?_; first | refine NX.mapLit .i64 Zc (by decide +kernel) ?_ | refine NX.mapLit .u8 Zc (by decide +kernel) ?_)) <;> (first | refine AOLg.pass ?_ | exact Zd)) | (refine NX.one (One.getMapN hA rfl rfl rfl rfl (by kernel_rfl) (by simp only [rhid hA, hid_eq hA, cN, Int.toNat_natCast]; rw [← hw]; assumption)) ?_) | (refine NX.one (One.putMap hA rfl rfl rfl rfl rfl (by kernel_rfl) (by simp only [rhid hA, hid_eq hA, cN, Int.toNat_natCast]; rw [← hw]; assumption)) ?_) | refine NX.raw ?_) | (refine TRg.pass ?_; refine TRg.nx hA tabOk Zc ?_; first | refine TX.done ?_ | refine TX.gt ?_ | refine TX.gf ?_ | (refine TX.gs ?_ ?_ <;> intro hc <;> rw [hc] <;> ((try simp only [zn] at hc) <;> (try simp (disch := omega) only [zz hA, zb, zy, reduceCtorEq, Bool.false_eq_true, Int.reduceLT, Int.reduceLE, Int.reduceNeg] at hc) <;> (try simp only [zw] at hc)) <;> (try (exfalso; omega))) | refine TX.k 1 (TX.one Z1 ?_) | refine TX.k 7 (TX.one Z7 ?_) | refine TX.k 9 (TX.one Z9 ?_) | refine TX.k 10 (TX.one Z10 ?_) | refine TX.k 11 (TX.one Z11 ?_) | refine TX.k 14 (TX.one Z14 ?_) | refine TX.k 17 (TX.one Z17 ?_) | refine TX.k 18 (TX.one Z18 ?_) | ((first | (refine TX.k 23 ?_; first | refine TX.one (One.lookupI (q := .i64) hA rfl rfl rfl Zc (by decide +kernel)) ?_ | refine TX.one (One.lookupI (q := .u8) hA rfl rfl rfl Zc (by decide +kernel)) ?_ | refine TX.one (One.lookupI1 (q := .i64) hA rfl rfl rfl Zc (by decide +kernel)) ?_ | refine TX.one (One.lookupI1 (q := .u8) hA rfl rfl rfl Zc (by decide +kernel)) ?_)) <;> (first | refine TRg.pass ?_ | exact Zd)) | (refine TX.one (One.getMapN hA rfl rfl rfl rfl (by kernel_rfl) (by simp only [rhid hA, hid_eq hA, cN, Int.toNat_natCast]; rw [← hw]; assumption)) ?_) | (refine TX.one (One.putMap hA rfl rfl rfl rfl rfl (by kernel_rfl) (by simp only [rhid hA, hid_eq hA, cN, Int.toNat_natCast]; rw [← hw]; assumption)) ?_) | refine TX.raw ?_) | refine Fin3.of Zc (by repeat' (first | exact True.intro | exact rfl | refine And.intro ?_ ?_)) ?_ ?_ | (refine AllO.pass ?_; first | exact AllO.nil | (refine AllO.cons (One.ev hA tabOk ?_) ?_ <;> (first | refine AllO.pass ?_ | ((conv => lhs; cbv); done))) | (refine AllO.cons (One.skipB ?_) ?_ <;> (first | refine AllO.pass ?_ | ((conv => lhs; cbv); done))) | refine AllO.consX ZX rfl rfl ?_ | ((refine AllO.consX (One.getMapN hA rfl rfl rfl rfl (by kernel_rfl) (by simp only [rhid hA, hid_eq hA, cN, Int.toNat_natCast]; rw [← hw]; assumption)) rfl rfl ?_) <;> (first | refine AllO.pass ?_ | exact Zd)) | ((refine AllO.consX (One.putMap hA rfl rfl rfl rfl rfl (by kernel_rfl) (by simp only [rhid hA, hid_eq hA, cN, Int.toNat_natCast]; rw [← hw]; assumption)) rfl rfl ?_) <;> (first | refine AllO.pass ?_ | exact Zd))) | refine Thn.exit ?_ | refine Blk.here ?_ | refine Blk.other (by decide) ?_ | refine ⟨.inl rfl, _, RetOk.ev tabOk Zc, ?_⟩ | fail)
          all_goals try (exfalso; omega)
          refine ⟨(i + 1, u + 1), by simp only; omega, by simp only; omega, rfl, ?_, ?_, Zk⟩
          · simp only [hfd2, hfold2, rhid hA, hid_eq hA, cN, Int.toNat_natCast, ← hw]
          · (repeat' (first | exact subE.nil | refine subE.cons rfl ?_ | refine subE.int rfl ?_ ?_ | refine subE.bool rfl ?_ ?_ | refine subE.str rfl ?_ ?_ | refine subE.sl rfl ?_ ?_))
            all_goals first | rfl | exact Zd
      · rw [show W.take i = W from List.take_of_length_le (by omega), ← hvs]
        try first | refine AOLg.of [] ?_ | refine QSg.of [] ?_
        repeat' (first | (refine AWp.pass ?_; first | refine AWp.seq ?_ | refine AWp.block ?_ | refine AWp.skip ?_ | refine AWp.regG [] Zc ?_ | refine AWp.cond_t rfl ?_ | refine AWp.cond_f rfl ?_ | (refine AWp.cond rfl ?_ ?_ <;> intro hc <;> (try rw [hc]) <;> ((try simp only [zn] at hc) <;> (try simp (disch := omega) only [zz hA, zb, zy, reduceCtorEq, Bool.false_eq_true, Int.reduceLT, Int.reduceLE, Int.reduceNeg] at hc) <;> (try simp only [zw] at hc)) <;> (try (exfalso; omega))) | refine AWp.exit ?_ | refine AWp.ret ⟨.inr rfl, _, RetOk.ev tabOk Zc, ?_⟩ | refine AWp.drawVG [] rfl (by decide +kernel) Zc ?_) | (refine AOLg.pass ?_; refine AOLg.nx hA tabOk Zc ?_; first | refine NX.done ?_ | refine NX.gt ?_ | refine NX.gf ?_ | (refine NX.gs ?_ ?_ <;> intro hc <;> rw [hc] <;> ((try simp only [zn] at hc) <;> (try simp (disch := omega) only [zz hA, zb, zy, reduceCtorEq, Bool.false_eq_true, Int.reduceLT, Int.reduceLE, Int.reduceNeg] at hc) <;> (try simp only [zw] at hc)) <;> (try (exfalso; omega))) | refine NX.k 1 (NX.one Z1 ?_) | refine NX.k 7 (NX.one Z7 ?_) | refine NX.k 9 (NX.one Z9 ?_) | refine NX.k 10 (NX.one Z10 ?_) | refine NX.k 11 (NX.one Z11 ?_) | refine NX.k 14 (NX.one Z14 ?_) | refine NX.k 17 (NX.one Z17 ?_) | refine NX.k 18 (NX.one Z18 ?_) | ((first | (refine NX.k 23 ?_; first | refine NX.one (One.lookupI (q := .i64) hA rfl rfl rfl Zc (by decide +kernel)) ?_ | refine NX.one (One.lookupI (q := .u8) hA rfl rfl rfl Zc (by decide +kernel)) ?_ | refine NX.one (One.lookupI1 (q := .i64) hA rfl rfl rfl Zc (by decide +kernel)) ?_ | refine NX.one (One.lookupI1 (q := .u8) hA rfl rfl rfl Zc (by decide +kernel)) ?_) | (refine NX.k 26 ?_; first | refine NX.mapLit .i64 Zc (by decide +kernel) ?_ | refine NX.mapLit .u8 Zc (by decide +kernel) ?_)) <;> (first | refine AOLg.pass ?_ | exact Zd)) | refine NX.raw ?_) | (refine TRg.pass ?_; refine TRg.nx hA tabOk Zc ?_; first | refine TX.done ?_ | refine TX.gt ?_ | refine TX.gf ?_ | (refine TX.gs ?_ ?_ <;> intro hc <;> rw [hc] <;> ((try simp only [zn] at hc) <;> (try simp (disch := omega) only [zz hA, zb, zy, reduceCtorEq, Bool.false_eq_true, Int.reduceLT, Int.reduceLE, Int.reduceNeg] at hc) <;> (try simp only [zw] at hc)) <;> (try (exfalso; omega))) | refine TX.k 1 (TX.one Z1 ?_) | refine TX.k 7 (TX.one Z7 ?_) | refine TX.k 9 (TX.one Z9 ?_) | refine TX.k 10 (TX.one Z10 ?_) | refine TX.k 11 (TX.one Z11 ?_) | refine TX.k 14 (TX.one Z14 ?_) | refine TX.k 17 (TX.one Z17 ?_) | refine TX.k 18 (TX.one Z18 ?_) | ((first | (refine TX.k 23 ?_; first | refine TX.one (One.lookupI (q := .i64) hA rfl rfl rfl Zc (by decide +kernel)) ?_ | refine TX.one (One.lookupI (q := .u8) hA rfl rfl rfl Zc (by decide +kernel)) ?_ | refine TX.one (One.lookupI1 (q := .i64) hA rfl rfl rfl Zc (by decide +kernel)) ?_ | refine TX.one (One.lookupI1 (q := .u8) hA rfl rfl rfl Zc (by decide +kernel)) ?_)) <;> (first | refine TRg.pass ?_ | exact Zd)) | refine TX.raw ?_) | refine Fin3.of Zc (by repeat' (first | exact True.intro | exact rfl | refine And.intro ?_ ?_)) ?_ ?_ | (refine AllO.pass ?_; first | exact AllO.nil | (refine AllO.cons (One.ev hA tabOk ?_) ?_ <;> (first | refine AllO.pass ?_ | ((conv => lhs; cbv); done))) | (refine AllO.cons (One.skipB ?_) ?_ <;> (first | refine AllO.pass ?_ | ((conv => lhs; cbv); done))) | refine AllO.consX ZX rfl rfl ?_) | refine Thn.exit ?_ | refine Blk.here ?_ | refine Blk.other (by decide) ?_ | refine ⟨.inl rfl, _, RetOk.ev tabOk Zc, ?_⟩ | fail)
        all_goals try (exfalso; omega)
        refine ⟨(j + 1, u), by simp only; omega, by simp only; omega, rfl, ?_, ?_, Zk⟩
        · simp only [hfd]
        · (repeat' (first | exact subE.nil | refine subE.cons rfl ?_ | refine subE.int rfl ?_ ?_ | refine subE.bool rfl ?_ ?_ | refine subE.str rfl ?_ ?_ | refine subE.sl rfl ?_ ?_))
          all_goals first | rfl | exact Zd
    · rw [show L.take j = L from List.take_of_length_le (by omega)]
      try first | refine AOLg.of [] ?_ | refine QSg.of [] ?_
      repeat' (first | (refine AWp.pass ?_; first | refine AWp.seq ?_ | refine AWp.block ?_ | refine AWp.skip ?_ | refine AWp.regG [] Zc ?_ | refine AWp.cond_t rfl ?_ | refine AWp.cond_f rfl ?_ | (refine AWp.cond rfl ?_ ?_ <;> intro hc <;> (try rw [hc]) <;> ((try simp only [zn] at hc) <;> (try simp (disch := omega) only [zz hA, zb, zy, reduceCtorEq, Bool.false_eq_true, Int.reduceLT, Int.reduceLE, Int.reduceNeg] at hc) <;> (try simp only [zw] at hc)) <;> (try (exfalso; omega))) | refine AWp.exit ?_ | refine AWp.ret ⟨.inr rfl, _, RetOk.ev tabOk Zc, ?_⟩ | refine AWp.drawVG [] rfl (by decide +kernel) Zc ?_) | (refine AOLg.pass ?_; refine AOLg.nx hA tabOk Zc ?_; first | refine NX.done ?_ | refine NX.gt ?_ | refine NX.gf ?_ | (refine NX.gs ?_ ?_ <;> intro hc <;> rw [hc] <;> ((try simp only [zn] at hc) <;> (try simp (disch := omega) only [zz hA, zb, zy, reduceCtorEq, Bool.false_eq_true, Int.reduceLT, Int.reduceLE, Int.reduceNeg] at hc) <;> (try simp only [zw] at hc)) <;> (try (exfalso; omega))) | refine NX.k 1 (NX.one Z1 ?_) | refine NX.k 7 (NX.one Z7 ?_) | refine NX.k 9 (NX.one Z9 ?_) | refine NX.k 10 (NX.one Z10 ?_) | refine NX.k 11 (NX.one Z11 ?_) | refine NX.k 14 (NX.one Z14 ?_) | refine NX.k 17 (NX.one Z17 ?_) | refine NX.k 18 (NX.one Z18 ?_) | ((first | (refine NX.k 23 ?_; first | refine NX.one (One.lookupI (q := .i64) hA rfl rfl rfl Zc (by decide +kernel)) ?_ | refine NX.one (One.lookupI (q := .u8) hA rfl rfl rfl Zc (by decide +kernel)) ?_ | refine NX.one (One.lookupI1 (q := .i64) hA rfl rfl rfl Zc (by decide +kernel)) ?_ | refine NX.one (One.lookupI1 (q := .u8) hA rfl rfl rfl Zc (by decide +kernel)) ?_) | (refine NX.k 26 ?_; first | refine NX.mapLit .i64 Zc (by decide +kernel) ?_ | refine NX.mapLit .u8 Zc (by decide +kernel) ?_)) <;> (first | refine AOLg.pass ?_ | exact Zd)) | refine NX.raw ?_) | (refine TRg.pass ?_; refine TRg.nx hA tabOk Zc ?_; first | refine TX.done ?_ | refine TX.gt ?_ | refine TX.gf ?_ | (refine TX.gs ?_ ?_ <;> intro hc <;> rw [hc] <;> ((try simp only [zn] at hc) <;> (try simp (disch := omega) only [zz hA, zb, zy, reduceCtorEq, Bool.false_eq_true, Int.reduceLT, Int.reduceLE, Int.reduceNeg] at hc) <;> (try simp only [zw] at hc)) <;> (try (exfalso; omega))) | refine TX.k 1 (TX.one Z1 ?_) | refine TX.k 7 (TX.one Z7 ?_) | refine TX.k 9 (TX.one Z9 ?_) | refine TX.k 10 (TX.one Z10 ?_) | refine TX.k 11 (TX.one Z11 ?_) | refine TX.k 14 (TX.one Z14 ?_) | refine TX.k 17 (TX.one Z17 ?_) | refine TX.k 18 (TX.one Z18 ?_) | ((first | (refine TX.k 23 ?_; first | refine TX.one (One.lookupI (q := .i64) hA rfl rfl rfl Zc (by decide +kernel)) ?_ | refine TX.one (One.lookupI (q := .u8) hA rfl rfl rfl Zc (by decide +kernel)) ?_ | refine TX.one (One.lookupI1 (q := .i64) hA rfl rfl rfl Zc (by decide +kernel)) ?_ | refine TX.one (One.lookupI1 (q := .u8) hA rfl rfl rfl Zc (by decide +kernel)) ?_)) <;> (first | refine TRg.pass ?_ | exact Zd)) | refine TX.raw ?_) | refine Fin3.of Zc (by repeat' (first | exact True.intro | exact rfl | refine And.intro ?_ ?_)) ?_ ?_ | (refine AllO.pass ?_; first | exact AllO.nil | (refine AllO.cons (One.ev hA tabOk ?_) ?_ <;> (first | refine AllO.pass ?_ | ((conv => lhs; cbv); done))) | (refine AllO.cons (One.skipB ?_) ?_ <;> (first | refine AllO.pass ?_ | ((conv => lhs; cbv); done))) | refine AllO.consX ZX rfl rfl ?_) | refine Thn.exit ?_ | refine Blk.here ?_ | refine Blk.other (by decide) ?_ | refine ⟨.inl rfl, _, RetOk.ev tabOk Zc, ?_⟩ | fail)
      all_goals try (exfalso; omega)
      rw [show L.take j = L from List.take_of_length_le (by omega)] at hs2
      have hl6 := hs2.1.len
      have hl7 := hs2.1.f.len
      generalize L.foldl (visP nx) (F, []) = s at *
      refine AOL.scall rfl rfl (sort_c hA _ 3 ver _ rfl (by omega)) ?_
      rintro y st' ⟨rfl, rfl⟩
      refine AOL.norm (by conv => lhs; cbv) ?_
      refine AOL.freeze 3 ver 3 1 true _ rfl ?_
      simp only [List.cons_append, List.nil_append, List.map_cons, List.map_nil, thaw, Nat.beq_refl, Bool.and_self, cond_true]
      refine AOL.norm (by conv => lhs; cbv) ?_
      try first | refine AOLg.of [] ?_ | refine QSg.of [] ?_
      repeat' (first | (refine AWp.pass ?_; first | refine AWp.seq ?_ | refine AWp.block ?_ | refine AWp.skip ?_ | refine AWp.regG [] Zc ?_ | refine AWp.cond_t rfl ?_ | refine AWp.cond_f rfl ?_ | (refine AWp.cond rfl ?_ ?_ <;> intro hc <;> (try rw [hc]) <;> ((try simp only [zn] at hc) <;> (try simp (disch := omega) only [zz hA, zb, zy, reduceCtorEq, Bool.false_eq_true, Int.reduceLT, Int.reduceLE, Int.reduceNeg] at hc) <;> (try simp only [zw] at hc)) <;> (try (exfalso; omega))) | refine AWp.exit ?_ | refine AWp.ret ⟨.inr rfl, _, RetOk.ev tabOk Zc, ?_⟩ | refine AWp.drawVG [] rfl (by decide +kernel) Zc ?_) | (refine AOLg.pass ?_; refine AOLg.nx hA tabOk Zc ?_; first | refine NX.done ?_ | refine NX.gt ?_ | refine NX.gf ?_ | (refine NX.gs ?_ ?_ <;> intro hc <;> rw [hc] <;> ((try simp only [zn] at hc) <;> (try simp (disch := omega) only [zz hA, zb, zy, reduceCtorEq, Bool.false_eq_true, Int.reduceLT, Int.reduceLE, Int.reduceNeg] at hc) <;> (try simp only [zw] at hc)) <;> (try (exfalso; omega))) | refine NX.k 1 (NX.one Z1 ?_) | refine NX.k 7 (NX.one Z7 ?_) | refine NX.k 9 (NX.one Z9 ?_) | refine NX.k 10 (NX.one Z10 ?_) | refine NX.k 11 (NX.one Z11 ?_) | refine NX.k 14 (NX.one Z14 ?_) | refine NX.k 17 (NX.one Z17 ?_) | refine NX.k 18 (NX.one Z18 ?_) | ((first | (refine NX.k 23 ?_; first | refine NX.one (One.lookupI (q := .i64) hA rfl rfl rfl Zc (by decide +kernel)) ?_ | refine NX.one (One.lookupI (q := .u8) hA rfl rfl rfl Zc (by decide +kernel)) ?_ | refine NX.one (One.lookupI1 (q := .i64) hA rfl rfl rfl Zc (by decide +kernel)) ?_ | refine NX.one (One.lookupI1 (q := .u8) hA rfl rfl rfl Zc (by decide +kernel)) ?_) | (refine NX.k 26 ?_; first | refine NX.mapLit .i64 Zc (by decide +kernel) ?_ | refine NX.mapLit .u8 Zc (by decide +kernel) ?_)) <;> (first | refine AOLg.pass ?_ | exact Zd)) | refine NX.raw ?_) | (refine TRg.pass ?_; refine TRg.nx hA tabOk Zc ?_; first | refine TX.done ?_ | refine TX.gt ?_ | refine TX.gf ?_ | (refine TX.gs ?_ ?_ <;> intro hc <;> rw [hc] <;> ((try simp only [zn] at hc) <;> (try simp (disch := omega) only [zz hA, zb, zy, reduceCtorEq, Bool.false_eq_true, Int.reduceLT, Int.reduceLE, Int.reduceNeg] at hc) <;> (try simp only [zw] at hc)) <;> (try (exfalso; omega))) | refine TX.k 1 (TX.one Z1 ?_) | refine TX.k 7 (TX.one Z7 ?_) | refine TX.k 9 (TX.one Z9 ?_) | refine TX.k 10 (TX.one Z10 ?_) | refine TX.k 11 (TX.one Z11 ?_) | refine TX.k 14 (TX.one Z14 ?_) | refine TX.k 17 (TX.one Z17 ?_) | refine TX.k 18 (TX.one Z18 ?_) | ((first | (refine TX.k 23 ?_; first | refine TX.one (One.lookupI (q := .i64) hA rfl rfl rfl Zc (by decide +kernel)) ?_ | refine TX.one (One.lookupI (q := .u8) hA rfl rfl rfl Zc (by decide +kernel)) ?_ | refine TX.one (One.lookupI1 (q := .i64) hA rfl rfl rfl Zc (by decide +kernel)) ?_ | refine TX.one (One.lookupI1 (q := .u8) hA rfl rfl rfl Zc (by decide +kernel)) ?_)) <;> (first | refine TRg.pass ?_ | exact Zd)) | refine TX.raw ?_) | refine Fin3.of Zc (by repeat' (first | exact True.intro | exact rfl | refine And.intro ?_ ?_)) ?_ ?_ | (refine AllO.pass ?_; first | exact AllO.nil | (refine AllO.cons (One.ev hA tabOk ?_) ?_ <;> (first | refine AllO.pass ?_ | ((conv => lhs; cbv); done))) | (refine AllO.cons (One.skipB ?_) ?_ <;> (first | refine AllO.pass ?_ | ((conv => lhs; cbv); done))) | refine AllO.consX ZX rfl rfl ?_) | refine Thn.exit ?_ | refine Blk.here ?_ | refine Blk.other (by decide) ?_ | refine ⟨.inl rfl, _, RetOk.ev tabOk Zc, ?_⟩ | fail)
      have hst2 : stopP nx p q depth (D - (k + 1)) (k + 1) = stopP nx p q depth D 0 := by
        rw [← hstop, show D - k = D - (k + 1) + 1 by omega]
        simp only [stopP, hg0, if_true]
      refine ⟨k + 1, ⟨by omega, hst2⟩, by omega, rfl, rfl, (by repeat' (first | exact trimOk.nil | refine trimOk.same ?_ | refine trimOk.turn rfl ?_)), ?_, rfl, ?_, Zk⟩
      · simp only [hnext]
        rfl
      · (repeat' (first | exact subE.nil | refine subE.cons rfl ?_ | refine subE.int rfl ?_ ?_ | refine subE.bool rfl ?_ ?_ | refine subE.str rfl ?_ ?_ | refine subE.sl rfl ?_ ?_))
        · exact Zd
        · rw [hnext]
  · have hg0 : goesP nx p q depth k = false := by simpa using hg
    have hsk : stopP nx p q depth (D - k) k = k := by
      cases D - k with
      | zero => rfl
      | succ f => simp only [stopP, hg0]; rfl
    have hfin : finP nx p q depth = F := by
      unfold finP
      rw [← hD, ← hstop, hsk, hF]
    rw [hgo] at hg0
    simp only [Bool.and_eq_false_iff, decide_eq_false_iff_not, Bool.not_eq_false'] at hg0
    rw [← hF, ← hL]
    unfold pathM
    rw [hfin]
    by_cases hm : (mapF F q).isSome = true
    · rw [if_pos hm]
      have h3 : ¬ (k : Int) < depth ∨ L.length = 0 ∨ ((k : Int) < depth ∧ L.length ≠ 0) := by omega
      have hqk := mapF_some.1 hm
      have hqi := (mapF_idx hqk).2.1
      rcases h3 with h3 | h3 | h3
      all_goals
        try first | refine AOLg.of [101] ?_ | refine QSg.of [101] ?_
        repeat' (first | (refine AWp.pass ?_; first | refine AWp.seq ?_ | refine AWp.block ?_ | refine AWp.skip ?_ | refine AWp.regG [101] Zc ?_ | refine AWp.cond_t rfl ?_ | refine AWp.cond_f rfl ?_ | (refine AWp.cond rfl ?_ ?_ <;> intro hc <;> (try rw [hc]) <;> ((try simp only [zn] at hc) <;> (try simp (disch := omega) only [zz hA, zb, zy, reduceCtorEq, Bool.false_eq_true, Int.reduceLT, Int.reduceLE, Int.reduceNeg] at hc) <;> (try simp only [zw] at hc)) <;> (try (exfalso; omega))) | refine AWp.exit ?_ | refine AWp.ret ⟨.inr rfl, _, RetOk.ev tabOk Zc, ?_⟩ | refine AWp.drawVG [101] rfl (by decide +kernel) Zc ?_) | (refine AOLg.pass ?_; refine AOLg.nx hA tabOk Zc ?_; first | refine NX.done ?_ | refine NX.gt ?_ | refine NX.gf ?_ | (refine NX.gs ?_ ?_ <;> intro hc <;> rw [hc] <;> ((try simp only [zn] at hc) <;> (try simp (disch := omega) only [zz hA, zb, zy, reduceCtorEq, Bool.false_eq_true, Int.reduceLT, Int.reduceLE, Int.reduceNeg] at hc) <;> (try simp only [zw] at hc)) <;> (try (exfalso; omega))) | refine NX.k 1 (NX.one Z1 ?_) | refine NX.k 7 (NX.one Z7 ?_) | refine NX.k 9 (NX.one Z9 ?_) | refine NX.k 10 (NX.one Z10 ?_) | refine NX.k 11 (NX.one Z11 ?_) | refine NX.k 14 (NX.one Z14 ?_) | refine NX.k 17 (NX.one Z17 ?_) | refine NX.k 18 (NX.one Z18 ?_) | ((first | (refine NX.k 23 ?_; first | refine NX.one (One.lookupI (q := .i64) hA rfl rfl rfl Zc (by decide +kernel)) ?_ | refine NX.one (One.lookupI (q := .u8) hA rfl rfl rfl Zc (by decide +kernel)) ?_ | refine NX.one (One.lookupI1 (q := .i64) hA rfl rfl rfl Zc (by decide +kernel)) ?_ | refine NX.one (One.lookupI1 (q := .u8) hA rfl rfl rfl Zc (by decide +kernel)) ?_) | (refine NX.k 26 ?_; first | refine NX.mapLit .i64 Zc (by decide +kernel) ?_ | refine NX.mapLit .u8 Zc (by decide +kernel) ?_)) <;> (first | refine AOLg.pass ?_ | exact Zd)) | (refine NX.one (One.getMapS hA rfl rfl rfl rfl (by kernel_rfl) (by simp only [rhid hA, hid_eq hA, cN, Int.toNat_natCast]; assumption)) ?_) | (refine NX.one (One.build1 tabOk rfl rfl rfl rfl rfl) ?_) | refine NX.raw ?_) | (refine TRg.pass ?_; refine TRg.nx hA tabOk Zc ?_; first | refine TX.done ?_ | refine TX.gt ?_ | refine TX.gf ?_ | (refine TX.gs ?_ ?_ <;> intro hc <;> rw [hc] <;> ((try simp only [zn] at hc) <;> (try simp (disch := omega) only [zz hA, zb, zy, reduceCtorEq, Bool.false_eq_true, Int.reduceLT, Int.reduceLE, Int.reduceNeg] at hc) <;> (try simp only [zw] at hc)) <;> (try (exfalso; omega))) | refine TX.k 1 (TX.one Z1 ?_) | refine TX.k 7 (TX.one Z7 ?_) | refine TX.k 9 (TX.one Z9 ?_) | refine TX.k 10 (TX.one Z10 ?_) | refine TX.k 11 (TX.one Z11 ?_) | refine TX.k 14 (TX.one Z14 ?_) | refine TX.k 17 (TX.one Z17 ?_) | refine TX.k 18 (TX.one Z18 ?_) | ((first | (refine TX.k 23 ?_; first | refine TX.one (One.lookupI (q := .i64) hA rfl rfl rfl Zc (by decide +kernel)) ?_ | refine TX.one (One.lookupI (q := .u8) hA rfl rfl rfl Zc (by decide +kernel)) ?_ | refine TX.one (One.lookupI1 (q := .i64) hA rfl rfl rfl Zc (by decide +kernel)) ?_ | refine TX.one (One.lookupI1 (q := .u8) hA rfl rfl rfl Zc (by decide +kernel)) ?_)) <;> (first | refine TRg.pass ?_ | exact Zd)) | (refine TX.one (One.getMapS hA rfl rfl rfl rfl (by kernel_rfl) (by simp only [rhid hA, hid_eq hA, cN, Int.toNat_natCast]; assumption)) ?_) | (refine TX.one (One.build1 tabOk rfl rfl rfl rfl rfl) ?_) | refine TX.raw ?_) | refine Fin3.of Zc (by repeat' (first | exact True.intro | exact rfl | refine And.intro ?_ ?_)) ?_ ?_ | (refine AllO.pass ?_; first | exact AllO.nil | (refine AllO.cons (One.ev hA tabOk ?_) ?_ <;> (first | refine AllO.pass ?_ | ((conv => lhs; cbv); done))) | (refine AllO.cons (One.skipB ?_) ?_ <;> (first | refine AllO.pass ?_ | ((conv => lhs; cbv); done))) | refine AllO.consX ZX rfl rfl ?_ | ((refine AllO.consX (One.getMapS hA rfl rfl rfl rfl (by kernel_rfl) (by simp only [rhid hA, hid_eq hA, cN, Int.toNat_natCast]; assumption)) rfl rfl ?_) <;> (first | refine AllO.pass ?_ | exact Zd))) | refine Thn.exit ?_ | refine Blk.here ?_ | refine Blk.other (by decide) ?_ | refine ⟨.inl rfl, _, RetOk.ev tabOk Zc, ?_⟩ | fail)
        all_goals try (exfalso; omega)
      all_goals
        refine AWp.loopU (fun x : Nat × Int × List Int × Nat => [(3, .ic (.lit (.int .i64 (hid A x.2.1)))), (25, .own 3 x.2.2.2)]) (fun x => [.var true 26 [.ic (.sl 1 false (hid A (List.map (encK A) K))), .ic (.sl 1 false (hid A (List.map encI S)))], .var true 31 [.ic (.sl 1 false (hid A (List.map encI R))), .ic (.sl 1 false (hid A (List.map encI V))), .ic (.sl 2 false (hid A (List.map encN N))), .ic (.sl 1 false (hid A (List.map encI M))), .ic (.sl 1 false (hid A (List.map (encK A) P))), .ic (.sl 1 false (hid A (List.map (encK A) Q)))], .mpo (hid A F), .row true x.2.2.2 3 1 (hid A (List.map encI x.2.2.1))]) (fun x => x.1) (fun x => x.2.1 ∈ F.map (·.1) ∧ x.2.2.1 ++ restP F p x.1 x.2.1 = [q] ++ restP F p F.length q ∧ (F.map (·.1)).idxOf x.2.1 ≤ x.1 ∧ x.2.2.1.length + x.1 ≤ F.length + 1) (F.length, q, [q], 0) (by conv => lhs; cbv) ⟨hqk, rfl, by simp only; omega, by simp only [List.length_cons, List.length_nil]; omega⟩ (by ((repeat' (first | exact subE.nil | refine subE.cons rfl ?_ | refine subE.int rfl ?_ ?_ | refine subE.bool rfl ?_ ?_ | refine subE.str rfl ?_ ?_ | refine subE.sl rfl ?_ ?_))) <;> first | rfl | simp [hA, real, hid, cN]) (by simp [hA, real, hid, encI]) ?_
        rintro ⟨f, z, O, u⟩ ⟨hz, hrest, hidx, hOl⟩
        simp only at hz hrest hidx hOl ⊢
        by_cases hzp : z = p
        · subst hzp
          rw [restP_stop, List.append_nil] at hrest
          try first | refine AOLg.of [] ?_ | refine QSg.of [] ?_
          repeat' (first | (refine AWp.pass ?_; first | refine AWp.seq ?_ | refine AWp.block ?_ | refine AWp.skip ?_ | refine AWp.regG [] Zc ?_ | refine AWp.cond_t rfl ?_ | refine AWp.cond_f rfl ?_ | (refine AWp.cond rfl ?_ ?_ <;> intro hc <;> (try rw [hc]) <;> ((try simp only [zn] at hc) <;> (try simp (disch := omega) only [zz hA, zb, zy, reduceCtorEq, Bool.false_eq_true, Int.reduceLT, Int.reduceLE, Int.reduceNeg] at hc) <;> (try simp only [zw] at hc)) <;> (try (exfalso; omega))) | refine AWp.exit ?_ | refine AWp.ret ⟨.inr rfl, _, RetOk.ev tabOk Zc, ?_⟩ | refine AWp.drawVG [] rfl (by decide +kernel) Zc ?_) | (refine AOLg.pass ?_; refine AOLg.nx hA tabOk Zc ?_; first | refine NX.done ?_ | refine NX.gt ?_ | refine NX.gf ?_ | (refine NX.gs ?_ ?_ <;> intro hc <;> rw [hc] <;> ((try simp only [zn] at hc) <;> (try simp (disch := omega) only [zz hA, zb, zy, reduceCtorEq, Bool.false_eq_true, Int.reduceLT, Int.reduceLE, Int.reduceNeg] at hc) <;> (try simp only [zw] at hc)) <;> (try (exfalso; omega))) | refine NX.k 1 (NX.one Z1 ?_) | refine NX.k 7 (NX.one Z7 ?_) | refine NX.k 9 (NX.one Z9 ?_) | refine NX.k 10 (NX.one Z10 ?_) | refine NX.k 11 (NX.one Z11 ?_) | refine NX.k 14 (NX.one Z14 ?_) | refine NX.k 17 (NX.one Z17 ?_) | refine NX.k 18 (NX.one Z18 ?_) | ((first | (refine NX.k 23 ?_; first | refine NX.one (One.lookupI (q := .i64) hA rfl rfl rfl Zc (by decide +kernel)) ?_ | refine NX.one (One.lookupI (q := .u8) hA rfl rfl rfl Zc (by decide +kernel)) ?_ | refine NX.one (One.lookupI1 (q := .i64) hA rfl rfl rfl Zc (by decide +kernel)) ?_ | refine NX.one (One.lookupI1 (q := .u8) hA rfl rfl rfl Zc (by decide +kernel)) ?_) | (refine NX.k 26 ?_; first | refine NX.mapLit .i64 Zc (by decide +kernel) ?_ | refine NX.mapLit .u8 Zc (by decide +kernel) ?_)) <;> (first | refine AOLg.pass ?_ | exact Zd)) | refine NX.raw ?_) | (refine TRg.pass ?_; refine TRg.nx hA tabOk Zc ?_; first | refine TX.done ?_ | refine TX.gt ?_ | refine TX.gf ?_ | (refine TX.gs ?_ ?_ <;> intro hc <;> rw [hc] <;> ((try simp only [zn] at hc) <;> (try simp (disch := omega) only [zz hA, zb, zy, reduceCtorEq, Bool.false_eq_true, Int.reduceLT, Int.reduceLE, Int.reduceNeg] at hc) <;> (try simp only [zw] at hc)) <;> (try (exfalso; omega))) | refine TX.k 1 (TX.one Z1 ?_) | refine TX.k 7 (TX.one Z7 ?_) | refine TX.k 9 (TX.one Z9 ?_) | refine TX.k 10 (TX.one Z10 ?_) | refine TX.k 11 (TX.one Z11 ?_) | refine TX.k 14 (TX.one Z14 ?_) | refine TX.k 17 (TX.one Z17 ?_) | refine TX.k 18 (TX.one Z18 ?_) | ((first | (refine TX.k 23 ?_; first | refine TX.one (One.lookupI (q := .i64) hA rfl rfl rfl Zc (by decide +kernel)) ?_ | refine TX.one (One.lookupI (q := .u8) hA rfl rfl rfl Zc (by decide +kernel)) ?_ | refine TX.one (One.lookupI1 (q := .i64) hA rfl rfl rfl Zc (by decide +kernel)) ?_ | refine TX.one (One.lookupI1 (q := .u8) hA rfl rfl rfl Zc (by decide +kernel)) ?_)) <;> (first | refine TRg.pass ?_ | exact Zd)) | refine TX.raw ?_) | refine Fin3.of Zc (by repeat' (first | exact True.intro | exact rfl | refine And.intro ?_ ?_)) ?_ ?_ | (refine AllO.pass ?_; first | exact AllO.nil | (refine AllO.cons (One.ev hA tabOk ?_) ?_ <;> (first | refine AllO.pass ?_ | ((conv => lhs; cbv); done))) | (refine AllO.cons (One.skipB ?_) ?_ <;> (first | refine AllO.pass ?_ | ((conv => lhs; cbv); done))) | refine AllO.consX ZX rfl rfl ?_) | refine Thn.exit ?_ | refine Blk.here ?_ | refine Blk.other (by decide) ?_ | refine ⟨.inl rfl, _, RetOk.ev tabOk Zc, ?_⟩ | fail)
          all_goals try (exfalso; omega)
          refine AOL.scall rfl rfl (turn_c hA _ 3 u _ rfl (by omega)) ?_
          rintro y st' ⟨rfl, rfl⟩
          try first | refine AOLg.of [] ?_ | refine QSg.of [] ?_
          repeat' (first | (refine AWp.pass ?_; first | refine AWp.seq ?_ | refine AWp.block ?_ | refine AWp.skip ?_ | refine AWp.regG [] Zc ?_ | refine AWp.cond_t rfl ?_ | refine AWp.cond_f rfl ?_ | (refine AWp.cond rfl ?_ ?_ <;> intro hc <;> (try rw [hc]) <;> ((try simp only [zn] at hc) <;> (try simp (disch := omega) only [zz hA, zb, zy, reduceCtorEq, Bool.false_eq_true, Int.reduceLT, Int.reduceLE, Int.reduceNeg] at hc) <;> (try simp only [zw] at hc)) <;> (try (exfalso; omega))) | refine AWp.exit ?_ | refine AWp.ret ⟨.inr rfl, _, RetOk.ev tabOk Zc, ?_⟩ | refine AWp.drawVG [] rfl (by decide +kernel) Zc ?_) | (refine AOLg.pass ?_; refine AOLg.nx hA tabOk Zc ?_; first | refine NX.done ?_ | refine NX.gt ?_ | refine NX.gf ?_ | (refine NX.gs ?_ ?_ <;> intro hc <;> rw [hc] <;> ((try simp only [zn] at hc) <;> (try simp (disch := omega) only [zz hA, zb, zy, reduceCtorEq, Bool.false_eq_true, Int.reduceLT, Int.reduceLE, Int.reduceNeg] at hc) <;> (try simp only [zw] at hc)) <;> (try (exfalso; omega))) | refine NX.k 1 (NX.one Z1 ?_) | refine NX.k 7 (NX.one Z7 ?_) | refine NX.k 9 (NX.one Z9 ?_) | refine NX.k 10 (NX.one Z10 ?_) | refine NX.k 11 (NX.one Z11 ?_) | refine NX.k 14 (NX.one Z14 ?_) | refine NX.k 17 (NX.one Z17 ?_) | refine NX.k 18 (NX.one Z18 ?_) | ((first | (refine NX.k 23 ?_; first | refine NX.one (One.lookupI (q := .i64) hA rfl rfl rfl Zc (by decide +kernel)) ?_ | refine NX.one (One.lookupI (q := .u8) hA rfl rfl rfl Zc (by decide +kernel)) ?_ | refine NX.one (One.lookupI1 (q := .i64) hA rfl rfl rfl Zc (by decide +kernel)) ?_ | refine NX.one (One.lookupI1 (q := .u8) hA rfl rfl rfl Zc (by decide +kernel)) ?_) | (refine NX.k 26 ?_; first | refine NX.mapLit .i64 Zc (by decide +kernel) ?_ | refine NX.mapLit .u8 Zc (by decide +kernel) ?_)) <;> (first | refine AOLg.pass ?_ | exact Zd)) | refine NX.raw ?_) | (refine TRg.pass ?_; refine TRg.nx hA tabOk Zc ?_; first | refine TX.done ?_ | refine TX.gt ?_ | refine TX.gf ?_ | (refine TX.gs ?_ ?_ <;> intro hc <;> rw [hc] <;> ((try simp only [zn] at hc) <;> (try simp (disch := omega) only [zz hA, zb, zy, reduceCtorEq, Bool.false_eq_true, Int.reduceLT, Int.reduceLE, Int.reduceNeg] at hc) <;> (try simp only [zw] at hc)) <;> (try (exfalso; omega))) | refine TX.k 1 (TX.one Z1 ?_) | refine TX.k 7 (TX.one Z7 ?_) | refine TX.k 9 (TX.one Z9 ?_) | refine TX.k 10 (TX.one Z10 ?_) | refine TX.k 11 (TX.one Z11 ?_) | refine TX.k 14 (TX.one Z14 ?_) | refine TX.k 17 (TX.one Z17 ?_) | refine TX.k 18 (TX.one Z18 ?_) | ((first | (refine TX.k 23 ?_; first | refine TX.one (One.lookupI (q := .i64) hA rfl rfl rfl Zc (by decide +kernel)) ?_ | refine TX.one (One.lookupI (q := .u8) hA rfl rfl rfl Zc (by decide +kernel)) ?_ | refine TX.one (One.lookupI1 (q := .i64) hA rfl rfl rfl Zc (by decide +kernel)) ?_ | refine TX.one (One.lookupI1 (q := .u8) hA rfl rfl rfl Zc (by decide +kernel)) ?_)) <;> (first | refine TRg.pass ?_ | exact Zd)) | refine TX.raw ?_) | refine Fin3.of Zc (by repeat' (first | exact True.intro | exact rfl | refine And.intro ?_ ?_)) ?_ ?_ | (refine AllO.pass ?_; first | exact AllO.nil | (refine AllO.cons (One.ev hA tabOk ?_) ?_ <;> (first | refine AllO.pass ?_ | ((conv => lhs; cbv); done))) | (refine AllO.cons (One.skipB ?_) ?_ <;> (first | refine AllO.pass ?_ | ((conv => lhs; cbv); done))) | refine AllO.consX ZX rfl rfl ?_) | refine Thn.exit ?_ | refine Blk.here ?_ | refine Blk.other (by decide) ?_ | refine ⟨.inl rfl, _, RetOk.ev tabOk Zc, ?_⟩ | fail)
          refine ⟨_, rPV_own (i := 3) rfl, ?_⟩
          rw [← hrest]
          exact PLe.refl _
        · have hb := back_step hff hz hzp
          obtain ⟨f, rfl⟩ : ∃ g, f = g + 1 := ⟨f - 1, by omega⟩
          have hr2 : restP F p (f + 1) z = (mapF F z).getD 0 :: restP F p f ((mapF F z).getD 0) := by simp only [restP, if_neg hzp]
          rw [hr2] at hrest
          try first | refine AOLg.of [] ?_ | refine QSg.of [] ?_
          repeat' (first | (refine AWp.pass ?_; first | refine AWp.seq ?_ | refine AWp.block ?_ | refine AWp.skip ?_ | refine AWp.regG [] Zc ?_ | refine AWp.cond_t rfl ?_ | refine AWp.cond_f rfl ?_ | (refine AWp.cond rfl ?_ ?_ <;> intro hc <;> (try rw [hc]) <;> ((try simp only [zn] at hc) <;> (try simp (disch := omega) only [zz hA, zb, zy, reduceCtorEq, Bool.false_eq_true, Int.reduceLT, Int.reduceLE, Int.reduceNeg] at hc) <;> (try simp only [zw] at hc)) <;> (try (exfalso; omega))) | refine AWp.exit ?_ | refine AWp.ret ⟨.inr rfl, _, RetOk.ev tabOk Zc, ?_⟩ | refine AWp.drawVG [] rfl (by decide +kernel) Zc ?_) | (refine AOLg.pass ?_; refine AOLg.nx hA tabOk Zc ?_; first | refine NX.done ?_ | refine NX.gt ?_ | refine NX.gf ?_ | (refine NX.gs ?_ ?_ <;> intro hc <;> rw [hc] <;> ((try simp only [zn] at hc) <;> (try simp (disch := omega) only [zz hA, zb, zy, reduceCtorEq, Bool.false_eq_true, Int.reduceLT, Int.reduceLE, Int.reduceNeg] at hc) <;> (try simp only [zw] at hc)) <;> (try (exfalso; omega))) | refine NX.k 1 (NX.one Z1 ?_) | refine NX.k 7 (NX.one Z7 ?_) | refine NX.k 9 (NX.one Z9 ?_) | refine NX.k 10 (NX.one Z10 ?_) | refine NX.k 11 (NX.one Z11 ?_) | refine NX.k 14 (NX.one Z14 ?_) | refine NX.k 17 (NX.one Z17 ?_) | refine NX.k 18 (NX.one Z18 ?_) | ((first | (refine NX.k 23 ?_; first | refine NX.one (One.lookupI (q := .i64) hA rfl rfl rfl Zc (by decide +kernel)) ?_ | refine NX.one (One.lookupI (q := .u8) hA rfl rfl rfl Zc (by decide +kernel)) ?_ | refine NX.one (One.lookupI1 (q := .i64) hA rfl rfl rfl Zc (by decide +kernel)) ?_ | refine NX.one (One.lookupI1 (q := .u8) hA rfl rfl rfl Zc (by decide +kernel)) ?_) | (refine NX.k 26 ?_; first | refine NX.mapLit .i64 Zc (by decide +kernel) ?_ | refine NX.mapLit .u8 Zc (by decide +kernel) ?_)) <;> (first | refine AOLg.pass ?_ | exact Zd)) | (refine NX.one (One.getMap1 hA rfl rfl rfl rfl (by kernel_rfl)) ?_) | refine NX.raw ?_) | (refine TRg.pass ?_; refine TRg.nx hA tabOk Zc ?_; first | refine TX.done ?_ | refine TX.gt ?_ | refine TX.gf ?_ | (refine TX.gs ?_ ?_ <;> intro hc <;> rw [hc] <;> ((try simp only [zn] at hc) <;> (try simp (disch := omega) only [zz hA, zb, zy, reduceCtorEq, Bool.false_eq_true, Int.reduceLT, Int.reduceLE, Int.reduceNeg] at hc) <;> (try simp only [zw] at hc)) <;> (try (exfalso; omega))) | refine TX.k 1 (TX.one Z1 ?_) | refine TX.k 7 (TX.one Z7 ?_) | refine TX.k 9 (TX.one Z9 ?_) | refine TX.k 10 (TX.one Z10 ?_) | refine TX.k 11 (TX.one Z11 ?_) | refine TX.k 14 (TX.one Z14 ?_) | refine TX.k 17 (TX.one Z17 ?_) | refine TX.k 18 (TX.one Z18 ?_) | ((first | (refine TX.k 23 ?_; first | refine TX.one (One.lookupI (q := .i64) hA rfl rfl rfl Zc (by decide +kernel)) ?_ | refine TX.one (One.lookupI (q := .u8) hA rfl rfl rfl Zc (by decide +kernel)) ?_ | refine TX.one (One.lookupI1 (q := .i64) hA rfl rfl rfl Zc (by decide +kernel)) ?_ | refine TX.one (One.lookupI1 (q := .u8) hA rfl rfl rfl Zc (by decide +kernel)) ?_)) <;> (first | refine TRg.pass ?_ | exact Zd)) | (refine TX.one (One.getMap1 hA rfl rfl rfl rfl (by kernel_rfl)) ?_) | refine TX.raw ?_) | refine Fin3.of Zc (by repeat' (first | exact True.intro | exact rfl | refine And.intro ?_ ?_)) ?_ ?_ | (refine AllO.pass ?_; first | exact AllO.nil | (refine AllO.cons (One.ev hA tabOk ?_) ?_ <;> (first | refine AllO.pass ?_ | ((conv => lhs; cbv); done))) | (refine AllO.cons (One.skipB ?_) ?_ <;> (first | refine AllO.pass ?_ | ((conv => lhs; cbv); done))) | refine AllO.consX ZX rfl rfl ?_ | ((refine AllO.consX (One.getMap1 hA rfl rfl rfl rfl (by kernel_rfl)) rfl rfl ?_) <;> (first | refine AllO.pass ?_ | exact Zd))) | refine Thn.exit ?_ | refine Blk.here ?_ | refine Blk.other (by decide) ?_ | refine ⟨.inl rfl, _, RetOk.ev tabOk Zc, ?_⟩ | fail)
          all_goals try (exfalso; omega)
          refine ⟨(f, (mapF F z).getD 0, O ++ [(mapF F z).getD 0], u + 1), ⟨hb.1, by simp only; rw [List.append_assoc]; exact hrest, by simp only; omega, by simp only [List.length_append, List.length_cons, List.length_nil]; omega⟩, by simp only; omega, rfl, ?_, ?_, Zk⟩
          · simp only [rhid hA, hid_eq hA]
          · (repeat' (first | exact subE.nil | refine subE.cons rfl ?_ | refine subE.int rfl ?_ ?_ | refine subE.bool rfl ?_ ?_ | refine subE.str rfl ?_ ?_ | refine subE.sl rfl ?_ ?_))
            all_goals first | rfl | simp only [rhid hA, hid_eq hA]
    · rw [if_neg hm]
      have hm2 : mapF F q = none := by cases h : mapF F q <;> simp_all
      have h3 : ¬ (k : Int) < depth ∨ L.length = 0 := by
        rcases hg0 with (h | h) | h
        · exact .inl h
        · exact .inr (by omega)
        · exact absurd h hm
      rcases h3 with h3 | h3
      all_goals
        try first | refine AOLg.of [] ?_ | refine QSg.of [] ?_
        repeat' (first | (refine AWp.pass ?_; first | refine AWp.seq ?_ | refine AWp.block ?_ | refine AWp.skip ?_ | refine AWp.regG [] Zc ?_ | refine AWp.cond_t rfl ?_ | refine AWp.cond_f rfl ?_ | (refine AWp.cond rfl ?_ ?_ <;> intro hc <;> (try rw [hc]) <;> ((try simp only [zn] at hc) <;> (try simp (disch := omega) only [zz hA, zb, zy, reduceCtorEq, Bool.false_eq_true, Int.reduceLT, Int.reduceLE, Int.reduceNeg] at hc) <;> (try simp only [zw] at hc)) <;> (try (exfalso; omega))) | refine AWp.exit ?_ | refine AWp.ret ⟨.inr rfl, _, RetOk.ev tabOk Zc, ?_⟩ | refine AWp.drawVG [] rfl (by decide +kernel) Zc ?_) | (refine AOLg.pass ?_; refine AOLg.nx hA tabOk Zc ?_; first | refine NX.done ?_ | refine NX.gt ?_ | refine NX.gf ?_ | (refine NX.gs ?_ ?_ <;> intro hc <;> rw [hc] <;> ((try simp only [zn] at hc) <;> (try simp (disch := omega) only [zz hA, zb, zy, reduceCtorEq, Bool.false_eq_true, Int.reduceLT, Int.reduceLE, Int.reduceNeg] at hc) <;> (try simp only [zw] at hc)) <;> (try (exfalso; omega))) | refine NX.k 1 (NX.one Z1 ?_) | refine NX.k 7 (NX.one Z7 ?_) | refine NX.k 9 (NX.one Z9 ?_) | refine NX.k 10 (NX.one Z10 ?_) | refine NX.k 11 (NX.one Z11 ?_) | refine NX.k 14 (NX.one Z14 ?_) | refine NX.k 17 (NX.one Z17 ?_) | refine NX.k 18 (NX.one Z18 ?_) | ((first | (refine NX.k 23 ?_; first | refine NX.one (One.lookupI (q := .i64) hA rfl rfl rfl Zc (by decide +kernel)) ?_ | refine NX.one (One.lookupI (q := .u8) hA rfl rfl rfl Zc (by decide +kernel)) ?_ | refine NX.one (One.lookupI1 (q := .i64) hA rfl rfl rfl Zc (by decide +kernel)) ?_ | refine NX.one (One.lookupI1 (q := .u8) hA rfl rfl rfl Zc (by decide +kernel)) ?_) | (refine NX.k 26 ?_; first | refine NX.mapLit .i64 Zc (by decide +kernel) ?_ | refine NX.mapLit .u8 Zc (by decide +kernel) ?_)) <;> (first | refine AOLg.pass ?_ | exact Zd)) | (refine NX.one (One.getMapN hA rfl rfl rfl rfl (by kernel_rfl) (by simp only [rhid hA, hid_eq hA, cN, Int.toNat_natCast]; assumption)) ?_) | refine NX.raw ?_) | (refine TRg.pass ?_; refine TRg.nx hA tabOk Zc ?_; first | refine TX.done ?_ | refine TX.gt ?_ | refine TX.gf ?_ | (refine TX.gs ?_ ?_ <;> intro hc <;> rw [hc] <;> ((try simp only [zn] at hc) <;> (try simp (disch := omega) only [zz hA, zb, zy, reduceCtorEq, Bool.false_eq_true, Int.reduceLT, Int.reduceLE, Int.reduceNeg] at hc) <;> (try simp only [zw] at hc)) <;> (try (exfalso; omega))) | refine TX.k 1 (TX.one Z1 ?_) | refine TX.k 7 (TX.one Z7 ?_) | refine TX.k 9 (TX.one Z9 ?_) | refine TX.k 10 (TX.one Z10 ?_) | refine TX.k 11 (TX.one Z11 ?_) | refine TX.k 14 (TX.one Z14 ?_) | refine TX.k 17 (TX.one Z17 ?_) | refine TX.k 18 (TX.one Z18 ?_) | ((first | (refine TX.k 23 ?_; first | refine TX.one (One.lookupI (q := .i64) hA rfl rfl rfl Zc (by decide +kernel)) ?_ | refine TX.one (One.lookupI (q := .u8) hA rfl rfl rfl Zc (by decide +kernel)) ?_ | refine TX.one (One.lookupI1 (q := .i64) hA rfl rfl rfl Zc (by decide +kernel)) ?_ | refine TX.one (One.lookupI1 (q := .u8) hA rfl rfl rfl Zc (by decide +kernel)) ?_)) <;> (first | refine TRg.pass ?_ | exact Zd)) | (refine TX.one (One.getMapN hA rfl rfl rfl rfl (by kernel_rfl) (by simp only [rhid hA, hid_eq hA, cN, Int.toNat_natCast]; assumption)) ?_) | refine TX.raw ?_) | refine Fin3.of Zc (by repeat' (first | exact True.intro | exact rfl | refine And.intro ?_ ?_)) ?_ ?_ | (refine AllO.pass ?_; first | exact AllO.nil | (refine AllO.cons (One.ev hA tabOk ?_) ?_ <;> (first | refine AllO.pass ?_ | ((conv => lhs; cbv); done))) | (refine AllO.cons (One.skipB ?_) ?_ <;> (first | refine AllO.pass ?_ | ((conv => lhs; cbv); done))) | refine AllO.consX ZX rfl rfl ?_ | ((refine AllO.consX (One.getMapN hA rfl rfl rfl rfl (by kernel_rfl) (by simp only [rhid hA, hid_eq hA, cN, Int.toNat_natCast]; assumption)) rfl rfl ?_) <;> (first | refine AllO.pass ?_ | exact Zd))) | refine Thn.exit ?_ | refine Blk.here ?_ | refine Blk.other (by decide) ?_ | refine ⟨.inl rfl, _, RetOk.ev tabOk Zc, ?_⟩ | fail)
        all_goals try (exfalso; omega)
      all_goals exact ⟨.c (.sl 0 true []), rfl, PLe.c (ILe.nilM hA encI 0 1 true)⟩
end Go.Proofs.Ytkkjlmcnfoncdaa.Aw

namespace Go.Proofs.Ytkkjlmcnfoncdaa.Aw
open Go Go.RowKit
set_option maxRecDepth 10000
attribute [local irreducible] AWp AOL QS One AOLg QSg NX QX TRg TX AllO Fin3
attribute [local irreducible] W.TRg W.TX W.AllO W.Fin3
def pairB (P : Program) (t : TypeId) : Bool := match P.underlying t with
  | some (.array 2 e) => !(P.eqGuardType P.depth t) && P.plainKey e && Nat.beq (P.cellsOf e) 1 && (match P.underlying e with | some (.int .i64) => true | _ => false) && (P.info? e).isSome
  | _ => false
variable {A : Ar} (hA : A = real)
include hA
theorem refRep_c (K : List (List Int)) (S : List Int) (h : StK K S) (R V : List Int) (N : List (Int × Int)) (M : List Int) (P Q : List (List Int)) (hR : RightU V R) (hV : V.length ≤ 1000000) (id : Int) :
    PureCalls Try.prog 51 [keyedPV A K S, grP A R V N M P Q, IP id] (IP (hid A (repM K V id))) := by
  have hv := refNumber_c hA K S h.ok h.keys R V N M P Q id
  have hcs := num_cases K V.length id h.ok
  refine PureCalls.of Try.func51 rfl (by kernel_rfl) rfl ?_
  by_cases hn : 0 ≤ numM K V.length id
  · have hf := refFind_c hA V N M R hR (numM K V.length id) hn (by omega) hV
    have ha := refAtV_c hA K S (findU V (numM K V.length id))
    have hr : repM K V id = atV K (findU V (numM K V.length id)) := by unfold repM; rw [if_neg (by omega)]
    rw [hr]
    generalize findU V (numM K V.length id) = y at *
    generalize numM K V.length id = x at *
    generalize atV K y = a1 at *
    rw [hid_eq hA x] at hv
    rw [hid_eq hA y] at hf
    try first | refine AOLg.of [] ?_ | refine QSg.of [] ?_
    repeat' (first | (refine AWp.pass ?_; first | refine AWp.seq ?_ | refine AWp.block ?_ | refine AWp.skip ?_ | refine AWp.regG [] Zc ?_ | refine AWp.cond_t rfl ?_ | refine AWp.cond_f rfl ?_ | (refine AWp.cond rfl ?_ ?_ <;> intro hc <;> (try rw [hc]) <;> ((try simp only [zn] at hc) <;> (try simp (disch := omega) only [zz hA, zb, zy, reduceCtorEq, Bool.false_eq_true, Int.reduceLT, Int.reduceLE, Int.reduceNeg] at hc) <;> (try simp only [zw] at hc)) <;> (try (exfalso; omega))) | refine AWp.exit ?_ | refine AWp.ret ⟨.inr rfl, _, RetOk.ev tabOk Zc, ?_⟩ | refine AWp.drawVG [] rfl (by decide +kernel) Zc ?_) | (refine AOLg.pass ?_; refine AOLg.nx hA tabOk Zc ?_; first | refine NX.done ?_ | refine NX.gt ?_ | refine NX.gf ?_ | (refine NX.gs ?_ ?_ <;> intro hc <;> rw [hc] <;> ((try simp only [zn] at hc) <;> (try simp (disch := omega) only [zz hA, zb, zy, reduceCtorEq, Bool.false_eq_true, Int.reduceLT, Int.reduceLE, Int.reduceNeg] at hc) <;> (try simp only [zw] at hc)) <;> (try (exfalso; omega))) | (refine NX.kC ?_; first | (with_reducible refine NX.call (hv) ?_) | (with_reducible refine NX.call (hf) ?_) | (with_reducible refine NX.call (ha) ?_) | ((first | refine NX.call (hv) ?_ | refine NX.call (hf) ?_ | refine NX.call (ha) ?_)) | fail) | (refine NX.kO ?_; (first | refine NX.callO (hv) (by simp [allEq]) rfl ?_ | refine NX.callO (hf) (by simp [allEq]) rfl ?_ | refine NX.callO (ha) (by simp [allEq]) rfl ?_)) | refine NX.k 14 (NX.one Z14 ?_) | refine NX.k 18 (NX.one Z18 ?_) | refine NX.raw ?_) | (refine TRg.pass ?_; refine TRg.nx hA tabOk Zc ?_; first | refine TX.done ?_ | refine TX.gt ?_ | refine TX.gf ?_ | (refine TX.gs ?_ ?_ <;> intro hc <;> rw [hc] <;> ((try simp only [zn] at hc) <;> (try simp (disch := omega) only [zz hA, zb, zy, reduceCtorEq, Bool.false_eq_true, Int.reduceLT, Int.reduceLE, Int.reduceNeg] at hc) <;> (try simp only [zw] at hc)) <;> (try (exfalso; omega))) | (refine TX.kC ?_; first | (with_reducible refine TX.call (hv) ?_) | (with_reducible refine TX.call (hf) ?_) | (with_reducible refine TX.call (ha) ?_) | ((first | refine TX.call (hv) ?_ | refine TX.call (hf) ?_ | refine TX.call (ha) ?_)) | fail) | (refine TX.kO ?_; (first | refine TX.callO (hv) (by simp [allEq]) rfl ?_ | refine TX.callO (hf) (by simp [allEq]) rfl ?_ | refine TX.callO (ha) (by simp [allEq]) rfl ?_)) | refine TX.k 14 (TX.one Z14 ?_) | refine TX.k 18 (TX.one Z18 ?_) | refine TX.raw ?_) | refine Fin3.of Zc (by repeat' (first | exact True.intro | exact rfl | refine And.intro ?_ ?_)) ?_ ?_ | (refine AllO.pass ?_; first | exact AllO.nil | (refine AllO.cons (One.ev hA tabOk ?_) ?_ <;> (first | refine AllO.pass ?_ | ((conv => lhs; cbv); done))) | (refine AllO.cons (One.skipB ?_) ?_ <;> (first | refine AllO.pass ?_ | ((conv => lhs; cbv); done))) | ((with_reducible refine AllO.call Zc (hv) ?_ ?_) <;> (first | refine AllO.pass ?_ | exact rfl | exact Zd)) | ((with_reducible refine AllO.call Zc (hf) ?_ ?_) <;> (first | refine AllO.pass ?_ | exact rfl | exact Zd)) | ((with_reducible refine AllO.call Zc (ha) ?_ ?_) <;> (first | refine AllO.pass ?_ | exact rfl | exact Zd)) | refine AllO.consX ZX rfl rfl ?_) | refine Thn.exit ?_ | refine Blk.here ?_ | refine Blk.other (by decide) ?_ | refine ⟨.inl rfl, _, RetOk.ev tabOk Zc, ?_⟩ | fail)
    all_goals first | (exfalso; omega) | (refine rPV_then (by conv => lhs; cbv) ?_; rfl)
  · have hr : repM K V id = id := by unfold repM; rw [if_pos (by omega)]
    rw [hr]
    generalize numM K V.length id = x at *
    rw [hid_eq hA x] at hv
    try first | refine AOLg.of [] ?_ | refine QSg.of [] ?_
    repeat' (first | (refine AWp.pass ?_; first | refine AWp.seq ?_ | refine AWp.block ?_ | refine AWp.skip ?_ | refine AWp.regG [] Zc ?_ | refine AWp.cond_t rfl ?_ | refine AWp.cond_f rfl ?_ | (refine AWp.cond rfl ?_ ?_ <;> intro hc <;> (try rw [hc]) <;> ((try simp only [zn] at hc) <;> (try simp (disch := omega) only [zz hA, zb, zy, reduceCtorEq, Bool.false_eq_true, Int.reduceLT, Int.reduceLE, Int.reduceNeg] at hc) <;> (try simp only [zw] at hc)) <;> (try (exfalso; omega))) | refine AWp.exit ?_ | refine AWp.ret ⟨.inr rfl, _, RetOk.ev tabOk Zc, ?_⟩ | refine AWp.drawVG [] rfl (by decide +kernel) Zc ?_) | (refine AOLg.pass ?_; refine AOLg.nx hA tabOk Zc ?_; first | refine NX.done ?_ | refine NX.gt ?_ | refine NX.gf ?_ | (refine NX.gs ?_ ?_ <;> intro hc <;> rw [hc] <;> ((try simp only [zn] at hc) <;> (try simp (disch := omega) only [zz hA, zb, zy, reduceCtorEq, Bool.false_eq_true, Int.reduceLT, Int.reduceLE, Int.reduceNeg] at hc) <;> (try simp only [zw] at hc)) <;> (try (exfalso; omega))) | (refine NX.kC ?_; first | (with_reducible refine NX.call (hv) ?_) | ((first | refine NX.call (hv) ?_)) | fail) | (refine NX.kO ?_; (first | refine NX.callO (hv) (by simp [allEq]) rfl ?_)) | refine NX.k 14 (NX.one Z14 ?_) | refine NX.k 18 (NX.one Z18 ?_) | refine NX.raw ?_) | (refine TRg.pass ?_; refine TRg.nx hA tabOk Zc ?_; first | refine TX.done ?_ | refine TX.gt ?_ | refine TX.gf ?_ | (refine TX.gs ?_ ?_ <;> intro hc <;> rw [hc] <;> ((try simp only [zn] at hc) <;> (try simp (disch := omega) only [zz hA, zb, zy, reduceCtorEq, Bool.false_eq_true, Int.reduceLT, Int.reduceLE, Int.reduceNeg] at hc) <;> (try simp only [zw] at hc)) <;> (try (exfalso; omega))) | (refine TX.kC ?_; first | (with_reducible refine TX.call (hv) ?_) | ((first | refine TX.call (hv) ?_)) | fail) | (refine TX.kO ?_; (first | refine TX.callO (hv) (by simp [allEq]) rfl ?_)) | refine TX.k 14 (TX.one Z14 ?_) | refine TX.k 18 (TX.one Z18 ?_) | refine TX.raw ?_) | refine Fin3.of Zc (by repeat' (first | exact True.intro | exact rfl | refine And.intro ?_ ?_)) ?_ ?_ | (refine AllO.pass ?_; first | exact AllO.nil | (refine AllO.cons (One.ev hA tabOk ?_) ?_ <;> (first | refine AllO.pass ?_ | ((conv => lhs; cbv); done))) | (refine AllO.cons (One.skipB ?_) ?_ <;> (first | refine AllO.pass ?_ | ((conv => lhs; cbv); done))) | ((with_reducible refine AllO.call Zc (hv) ?_ ?_) <;> (first | refine AllO.pass ?_ | exact rfl | exact Zd)) | refine AllO.consX ZX rfl rfl ?_) | refine Thn.exit ?_ | refine Blk.here ?_ | refine Blk.other (by decide) ?_ | refine ⟨.inl rfl, _, RetOk.ev tabOk Zc, ?_⟩ | fail)
    all_goals first | (exfalso; omega) | (refine rPV_then (by conv => lhs; cbv) ?_; rw [hid_eq hA])
theorem refWith_c (P : List (List Int)) (g : Int) (row : List Int) (h0 : 0 ≤ g) (h1 : g < P.length) (hP : P.length ≤ 1000000) : PureCalls Try.prog 55 [slP A 1 (encK A) P, IP g, intsP A row] (slP A 1 (encK A) (P.set g.toNat row)) := by
  refine PureCalls.of Try.func55 rfl (by kernel_rfl) rfl ?_
  try first | refine AOLg.of [] ?_ | refine QSg.of [] ?_
  repeat' (first | (refine AWp.pass ?_; first | refine AWp.seq ?_ | refine AWp.block ?_ | refine AWp.skip ?_ | refine AWp.regG [] Zc ?_ | refine AWp.cond_t rfl ?_ | refine AWp.cond_f rfl ?_ | (refine AWp.cond rfl ?_ ?_ <;> intro hc <;> (try rw [hc]) <;> ((try simp only [zn] at hc) <;> (try simp (disch := omega) only [zz hA, zb, zy, reduceCtorEq, Bool.false_eq_true, Int.reduceLT, Int.reduceLE, Int.reduceNeg] at hc) <;> (try simp only [zw] at hc)) <;> (try (exfalso; omega))) | refine AWp.exit ?_ | refine AWp.ret ⟨.inr rfl, _, RetOk.ev tabOk Zc, ?_⟩) | (refine AOLg.pass ?_; refine AOLg.nx hA tabOk Zc ?_; first | refine NX.done ?_ | refine NX.gt ?_ | refine NX.gf ?_ | (refine NX.gs ?_ ?_ <;> intro hc <;> rw [hc] <;> ((try simp only [zn] at hc) <;> (try simp (disch := omega) only [zz hA, zb, zy, reduceCtorEq, Bool.false_eq_true, Int.reduceLT, Int.reduceLE, Int.reduceNeg] at hc) <;> (try simp only [zw] at hc)) <;> (try (exfalso; omega))) | refine NX.k 1 (NX.one Z1 ?_) | refine NX.k 11 (NX.one Z11 ?_) | refine NX.k 15 (NX.one Z15 ?_) | refine NX.k 17 (NX.one Z17 ?_) | (refine NX.one (One.storeRatM hA tabOk (f := encK A) row rfl rfl rfl rfl rfl rfl rfl rfl (fun _ => rfl) Zd) ?_) | refine NX.raw ?_) | refine Thn.exit ?_ | refine Blk.here ?_ | refine Blk.other (by decide) ?_ | refine ⟨.inl rfl, _, RetOk.ev tabOk Zc, ?_⟩ | fail)
  all_goals (refine rPV_then (by conv => lhs; cbv) ?_; simp only [slP, hid_eq hA])
end Go.Proofs.Ytkkjlmcnfoncdaa.Aw

namespace Go.Proofs.Ytkkjlmcnfoncdaa.Aw
open Go Go.RowKit
set_option maxRecDepth 10000
attribute [local irreducible] AWp AOL QS One AOLg QSg NX QX TRg TX AllO Fin3
attribute [local irreducible] W.TRg W.TX W.AllO W.Fin3
def kM (l : List Int) (id : Int) : Nat := (l.takeWhile fun z => decide (z < id)).length
theorem kM_of : ∀ (l : List Int) (id : Int) (k : Nat), k ≤ l.length → (∀ j, j < k → l.getD j default < id) → (k = l.length ∨ ¬ l.getD k default < id) → kM l id = k
  | [], id, k, h, _, _ => by simp [kM] at *; omega
  | a :: r, id, 0, _, _, h => by
    have : ¬ a < id := by
      rcases h with h | h
      · simp at h
      · simpa using h
    simp [kM, List.takeWhile_cons, this]
  | a :: r, id, k + 1, h1, h2, h3 => by
    have h0 := h2 0 (by omega)
    simp only [List.getD_cons_zero] at h0
    have ih := kM_of r id k (by simpa using h1) (fun j hj => by simpa using h2 (j + 1) (by omega)) (by simpa using h3)
    unfold kM at ih ⊢
    simp [List.takeWhile_cons, h0, ih]
def layI (l : List Int) (id : Int) : List Int := if kM l id < l.length ∧ l.getD (kM l id) default = id then l else l.take (kM l id) ++ [id] ++ l.drop (kM l id)
def layB (l : List Int) (id : Int) : Bool := !decide (kM l id < l.length ∧ l.getD (kM l id) default = id)
theorem takeS (l : List Int) (k : Nat) (h : k < l.length) : l.take (k + 1) = l.take k ++ [l.getD k default] := by
  rw [List.take_add_one, List.getD_eq_getElem?_getD, List.getElem?_eq_getElem h]
  rfl
theorem rPV_cells {st : List AObj} {i j v u e e' sz sz' : Nat} {m m' : Bool} {xs ys : List (List IC)} {c : IC} (h2 : st[i]? = some (.row m v e sz xs)) (h3 : st[j]? = some (.row m' u e' sz' ys)) :
    rPV st (.agg [.own i v, .own j u, .ic c]) = some (.agg [.sl sz false xs, .sl sz' false ys, c]) := by
  simp [rPV, rPVs, rICs, rIC, toIC, h2, h3]
variable {A : Ar} (hA : A = real)
include hA
theorem refLay12_c (l : List Int) (id : Int) (hl : l.length ≤ 1000000) : PureCalls Try.prog 54 [intsP A l, IP id] (.tup [intsP A (layI l id), BP (hid A (layB l id))]) := by
  refine PureCalls.of Try.func54 rfl (by kernel_rfl) rfl ?_
  try first | refine AOLg.of [6] ?_ | refine QSg.of [6] ?_
  repeat' (first | (refine AWp.pass ?_; first | refine AWp.seq ?_ | refine AWp.block ?_ | refine AWp.skip ?_ | refine AWp.regG [6] Zc ?_ | refine AWp.cond_t rfl ?_ | refine AWp.cond_f rfl ?_ | (refine AWp.cond rfl ?_ ?_ <;> intro hc <;> (try rw [hc]) <;> ((try simp only [zn] at hc) <;> (try simp (disch := omega) only [zz hA, zb, zy, reduceCtorEq, Bool.false_eq_true, Int.reduceLT, Int.reduceLE, Int.reduceNeg] at hc) <;> (try simp only [zw] at hc)) <;> (try (exfalso; omega))) | refine AWp.exit ?_ | refine AWp.ret ⟨.inr rfl, _, RetOk.ev tabOk Zc, ?_⟩) | (refine AOLg.pass ?_; refine AOLg.nx hA tabOk Zc ?_; first | refine NX.done ?_ | refine NX.gt ?_ | refine NX.gf ?_ | (refine NX.gs ?_ ?_ <;> intro hc <;> rw [hc] <;> ((try simp only [zn] at hc) <;> (try simp (disch := omega) only [zz hA, zb, zy, reduceCtorEq, Bool.false_eq_true, Int.reduceLT, Int.reduceLE, Int.reduceNeg] at hc) <;> (try simp only [zw] at hc)) <;> (try (exfalso; omega))) | refine NX.k 1 (NX.one Z1 ?_) | refine NX.k 2 (NX.one Z2 ?_) | refine NX.k 7 (NX.one Z7 ?_) | refine NX.k 8 (NX.one Z8 ?_) | refine NX.k 10 (NX.one Z10 ?_) | refine NX.k 11 (NX.one Z11 ?_) | refine NX.k 14 (NX.one Z14 ?_) | refine NX.k 17 (NX.one Z17 ?_) | (refine NX.one (One.nilOwn tabOk 6 24 rfl rfl rfl) ?_) | refine NX.raw ?_) | refine Thn.exit ?_ | refine Blk.here ?_ | refine Blk.other (by decide) ?_ | refine ⟨.inl rfl, _, RetOk.ev tabOk Zc, ?_⟩ | fail)
  refine AWp.loopU (fun x : Nat × Nat => [(7, .ic (.lit (.int .i64 (hid A (cN x.1))))), (6, .own 0 x.2)]) (fun x => [.row true x.2 3 1 (hid A (List.map encI (l.take x.1)))]) (fun x => l.length - x.1) (fun x => x.1 ≤ l.length ∧ ∀ j, j < x.1 → l.getD j default < id) (0, 0) (by conv => lhs; cbv) ⟨Nat.zero_le _, by simp⟩ (by ((repeat' (first | exact subE.nil | refine subE.cons rfl ?_ | refine subE.int rfl ?_ ?_ | refine subE.bool rfl ?_ ?_ | refine subE.str rfl ?_ ?_ | refine subE.sl rfl ?_ ?_))) <;> first | rfl | simp [hA, real, hid, cN]) (by simp [hA, real, hid]) ?_
  rintro ⟨k, u⟩ ⟨hk, hless⟩
  simp only at hk hless ⊢
  by_cases hg : k < l.length ∧ l.getD k default < id
  · have ht := takeS l k hg.1
    have hkl : (l.take k).length = k := by rw [List.length_take]; omega
    generalize hT2 : l.take (k + 1) = T2 at *
    generalize l.take k = T at *
    try first | refine AOLg.of [] ?_ | refine QSg.of [] ?_
    repeat' (first | (refine AWp.pass ?_; first | refine AWp.seq ?_ | refine AWp.block ?_ | refine AWp.skip ?_ | refine AWp.regG [] Zc ?_ | refine AWp.cond_t rfl ?_ | refine AWp.cond_f rfl ?_ | (refine AWp.cond rfl ?_ ?_ <;> intro hc <;> (try rw [hc]) <;> ((try simp only [zn] at hc) <;> (try simp (disch := omega) only [zz hA, zb, zy, reduceCtorEq, Bool.false_eq_true, Int.reduceLT, Int.reduceLE, Int.reduceNeg] at hc) <;> (try simp only [zw] at hc)) <;> (try (exfalso; omega))) | refine AWp.exit ?_ | refine AWp.ret ⟨.inr rfl, _, RetOk.ev tabOk Zc, ?_⟩) | (refine AOLg.pass ?_; refine AOLg.nx hA tabOk Zc ?_; first | refine NX.done ?_ | refine NX.gt ?_ | refine NX.gf ?_ | (refine NX.gs ?_ ?_ <;> intro hc <;> rw [hc] <;> ((try simp only [zn] at hc) <;> (try simp (disch := omega) only [zz hA, zb, zy, reduceCtorEq, Bool.false_eq_true, Int.reduceLT, Int.reduceLE, Int.reduceNeg] at hc) <;> (try simp only [zw] at hc)) <;> (try (exfalso; omega))) | refine NX.k 1 (NX.one Z1 ?_) | refine NX.k 2 (NX.one Z2 ?_) | refine NX.k 7 (NX.one Z7 ?_) | refine NX.k 8 (NX.one Z8 ?_) | refine NX.k 10 (NX.one Z10 ?_) | refine NX.k 11 (NX.one Z11 ?_) | refine NX.k 14 (NX.one Z14 ?_) | refine NX.k 17 (NX.one Z17 ?_) | refine NX.raw ?_) | refine Thn.exit ?_ | refine Blk.here ?_ | refine Blk.other (by decide) ?_ | refine ⟨.inl rfl, _, RetOk.ev tabOk Zc, ?_⟩ | fail)
    all_goals try (exfalso; omega)
    refine ⟨(k + 1, u + 1), ⟨by simp only; omega, fun j hj => ?_⟩, by simp only; omega, rfl, ?_, ?_, Zk⟩
    · simp only at hj
      rcases Nat.lt_or_ge j k with h | h
      · exact hless j h
      · obtain rfl : j = k := by omega
        exact hg.2
    · simp only [hT2, ht, rhid hA, hid_eq hA, cN, Int.toNat_natCast]
    · (repeat' (first | exact subE.nil | refine subE.cons rfl ?_ | refine subE.int rfl ?_ ?_ | refine subE.bool rfl ?_ ?_ | refine subE.str rfl ?_ ?_ | refine subE.sl rfl ?_ ?_))
      all_goals first | rfl | exact Zd
  · have hkm := kM_of l id k hk hless (by omega)
    have hkl : (l.take k).length = k := by rw [List.length_take]; omega
    have hdl : (l.drop k).length = l.length - k := List.length_drop
    unfold layI layB
    rw [hkm]
    by_cases he : k < l.length ∧ l.getD k default = id
    · rw [if_pos he, decide_eq_true he]
      generalize l.take k = T at *
      try first | refine AOLg.of [] ?_ | refine QSg.of [] ?_
      repeat' (first | (refine AWp.pass ?_; first | refine AWp.seq ?_ | refine AWp.block ?_ | refine AWp.skip ?_ | refine AWp.regG [] Zc ?_ | refine AWp.cond_t rfl ?_ | refine AWp.cond_f rfl ?_ | (refine AWp.cond rfl ?_ ?_ <;> intro hc <;> (try rw [hc]) <;> ((try simp only [zn] at hc) <;> (try simp (disch := omega) only [zz hA, zb, zy, reduceCtorEq, Bool.false_eq_true, Int.reduceLT, Int.reduceLE, Int.reduceNeg] at hc) <;> (try simp only [zw] at hc)) <;> (try (exfalso; omega))) | refine AWp.exit ?_ | refine AWp.ret ⟨.inr rfl, _, RetOk.ev tabOk Zc, ?_⟩) | (refine AOLg.pass ?_; refine AOLg.nx hA tabOk Zc ?_; first | refine NX.done ?_ | refine NX.gt ?_ | refine NX.gf ?_ | (refine NX.gs ?_ ?_ <;> intro hc <;> rw [hc] <;> ((try simp only [zn] at hc) <;> (try simp (disch := omega) only [zz hA, zb, zy, reduceCtorEq, Bool.false_eq_true, Int.reduceLT, Int.reduceLE, Int.reduceNeg] at hc) <;> (try simp only [zw] at hc)) <;> (try (exfalso; omega))) | refine NX.k 1 (NX.one Z1 ?_) | refine NX.k 2 (NX.one Z2 ?_) | refine NX.k 7 (NX.one Z7 ?_) | refine NX.k 8 (NX.one Z8 ?_) | refine NX.k 10 (NX.one Z10 ?_) | refine NX.k 11 (NX.one Z11 ?_) | refine NX.k 14 (NX.one Z14 ?_) | refine NX.k 17 (NX.one Z17 ?_) | refine NX.raw ?_) | refine Thn.exit ?_ | refine Blk.here ?_ | refine Blk.other (by decide) ?_ | refine ⟨.inl rfl, _, RetOk.ev tabOk Zc, ?_⟩ | fail)
      all_goals try (exfalso; omega)
      all_goals (refine rPV_then (by conv => lhs; cbv) ?_; show _ = PV.tup [.c (.sl 1 false (hid A (List.map encI l))), .c (.lit (.bool (hid A (!true))))]; simp only [hid_eq hA]; rfl)
    · rw [if_neg he, decide_eq_false he]
      generalize l.take k = T at *
      try first | refine AOLg.of [] ?_ | refine QSg.of [] ?_
      repeat' (first | (refine AWp.pass ?_; first | refine AWp.seq ?_ | refine AWp.block ?_ | refine AWp.skip ?_ | refine AWp.regG [] Zc ?_ | refine AWp.cond_t rfl ?_ | refine AWp.cond_f rfl ?_ | (refine AWp.cond rfl ?_ ?_ <;> intro hc <;> (try rw [hc]) <;> ((try simp only [zn] at hc) <;> (try simp (disch := omega) only [zz hA, zb, zy, reduceCtorEq, Bool.false_eq_true, Int.reduceLT, Int.reduceLE, Int.reduceNeg] at hc) <;> (try simp only [zw] at hc)) <;> (try (exfalso; omega))) | refine AWp.exit ?_ | refine AWp.ret ⟨.inr rfl, _, RetOk.ev tabOk Zc, ?_⟩) | (refine AOLg.pass ?_; refine AOLg.nx hA tabOk Zc ?_; first | refine NX.done ?_ | refine NX.gt ?_ | refine NX.gf ?_ | (refine NX.gs ?_ ?_ <;> intro hc <;> rw [hc] <;> ((try simp only [zn] at hc) <;> (try simp (disch := omega) only [zz hA, zb, zy, reduceCtorEq, Bool.false_eq_true, Int.reduceLT, Int.reduceLE, Int.reduceNeg] at hc) <;> (try simp only [zw] at hc)) <;> (try (exfalso; omega))) | refine NX.k 1 (NX.one Z1 ?_) | refine NX.k 2 (NX.one Z2 ?_) | refine NX.k 7 (NX.one Z7 ?_) | refine NX.k 8 (NX.one Z8 ?_) | refine NX.k 10 (NX.one Z10 ?_) | refine NX.k 11 (NX.one Z11 ?_) | refine NX.k 14 (NX.one Z14 ?_) | refine NX.k 17 (NX.one Z17 ?_) | refine NX.raw ?_) | refine Thn.exit ?_ | refine Blk.here ?_ | refine Blk.other (by decide) ?_ | refine ⟨.inl rfl, _, RetOk.ev tabOk Zc, ?_⟩ | fail)
      all_goals try (exfalso; omega)
      all_goals
        show rPV _ _ = some _
        rw [rPV_own2 (i := 0) rfl rfl]
        show _ = some (PV.tup [.c (.sl 1 false (hid A (List.map encI (T ++ [id] ++ l.drop k)))), .c (.lit (.bool (hid A (!false))))])
        simp only [rhid hA, hid_eq hA, cN, Int.toNat_natCast]
        rfl
theorem refGrow_c (V : List Int) (N : List (Int × Int)) (M : List Int) (v : Int) (hV : V.length ≤ 1000000) (hN : N.length ≤ 1000000) : PureCalls Try.prog 130 [clP A V N M, IP v] (clP A (V ++ [v]) (N ++ [(-1, 0)]) M) := by
  refine PureCalls.of Try.func130 rfl (by kernel_rfl) rfl ?_
  try first | refine AOLg.of [] ?_ | refine QSg.of [] ?_
  repeat' (first | (refine AWp.pass ?_; first | refine AWp.seq ?_ | refine AWp.block ?_ | refine AWp.skip ?_ | refine AWp.regG [] Zc ?_ | refine AWp.cond_t rfl ?_ | refine AWp.cond_f rfl ?_ | (refine AWp.cond rfl ?_ ?_ <;> intro hc <;> (try rw [hc]) <;> ((try simp only [zn] at hc) <;> (try simp (disch := omega) only [zz hA, zb, zy, reduceCtorEq, Bool.false_eq_true, Int.reduceLT, Int.reduceLE, Int.reduceNeg] at hc) <;> (try simp only [zw] at hc)) <;> (try (exfalso; omega))) | refine AWp.exit ?_ | refine AWp.ret ⟨.inr rfl, _, RetOk.ev tabOk Zc, ?_⟩ | refine W.AWp.drawVG [] rfl (by decide +kernel) Zc ?_) | (refine AOLg.pass ?_; refine AOLg.nx hA tabOk Zc ?_; first | refine NX.done ?_ | refine NX.gt ?_ | refine NX.gf ?_ | (refine NX.gs ?_ ?_ <;> intro hc <;> rw [hc] <;> ((try simp only [zn] at hc) <;> (try simp (disch := omega) only [zz hA, zb, zy, reduceCtorEq, Bool.false_eq_true, Int.reduceLT, Int.reduceLE, Int.reduceNeg] at hc) <;> (try simp only [zw] at hc)) <;> (try (exfalso; omega))) | refine NX.k 11 (NX.one Z11 ?_) | refine NX.k 14 (NX.one Z14 ?_) | refine NX.k 15 (NX.one Z15 ?_) | refine NX.k 17 (NX.one Z17 ?_) | refine NX.k 18 (NX.one Z18 ?_) | (refine NX.one (One.appendOwnM hA tabOk (f := encN) (-1, 0) rfl rfl rfl rfl rfl rfl rfl Zd Zd) ?_) | (refine NX.one (One.appendOwnM hA tabOk (f := encI) v rfl rfl rfl rfl rfl rfl rfl Zd Zd) ?_) | refine NX.raw ?_) | (refine W.TRg.pass ?_; refine W.TRg.nx hA tabOk Zc ?_; first | refine W.TX.done ?_ | refine W.TX.gt ?_ | refine W.TX.gf ?_ | (refine W.TX.gs ?_ ?_ <;> intro hc <;> rw [hc] <;> ((try simp only [zn] at hc) <;> (try simp (disch := omega) only [zz hA, zb, zy, reduceCtorEq, Bool.false_eq_true, Int.reduceLT, Int.reduceLE, Int.reduceNeg] at hc) <;> (try simp only [zw] at hc)) <;> (try (exfalso; omega))) | refine W.TX.k 11 (W.TX.one Z11 ?_) | refine W.TX.k 14 (W.TX.one Z14 ?_) | refine W.TX.k 15 (W.TX.one Z15 ?_) | refine W.TX.k 17 (W.TX.one Z17 ?_) | refine W.TX.k 18 (W.TX.one Z18 ?_) | (refine W.TX.one (One.appendOwnM hA tabOk (f := encN) (-1, 0) rfl rfl rfl rfl rfl rfl rfl Zd Zd) ?_) | (refine W.TX.one (One.appendOwnM hA tabOk (f := encI) v rfl rfl rfl rfl rfl rfl rfl Zd Zd) ?_) | refine W.TX.raw ?_) | refine W.Fin3.of Zc (by repeat' (first | exact True.intro | exact rfl | refine And.intro ?_ ?_)) ?_ ?_ | (refine W.AllO.pass ?_; first | exact W.AllO.nil | (refine W.AllO.cons (One.ev hA tabOk ?_) ?_ <;> (first | refine W.AllO.pass ?_ | ((conv => lhs; cbv); done))) | (refine W.AllO.cons (One.skipB ?_) ?_ <;> (first | refine W.AllO.pass ?_ | ((conv => lhs; cbv); done))) | refine W.AllO.consX ZX rfl rfl ?_) | refine Thn.exit ?_ | refine Blk.here ?_ | refine Blk.other (by decide) ?_ | refine ⟨.inl rfl, _, RetOk.ev tabOk Zc, ?_⟩ | fail)
  all_goals
    show rPV _ _ = some _
    rw [rPV_cells (i := 3) (j := 2) rfl rfl]
theorem refAdd5_c (V : List Int) (N : List (Int × Int)) (M : List Int) (hV : V.length ≤ 1000000) (hN : N.length ≤ 1000000) : PureCalls Try.prog 106 [clP A V N M] (clP A (V ++ [(V.length : Int)]) (N ++ [(-1, 0)]) M) := by
  have hg := refGrow_c hA V N M (A .len (hid A (List.map encI V))) hV hN
  rw [show (A .len (hid A (List.map encI V)) : Int) = V.length by simp [hA, real, hid]] at hg
  have e : (A .len (hid A (List.map encI V)) : Int) = V.length := by simp [hA, real, hid]
  rw [← e] at hg ⊢
  refine PureCalls.of Try.func106 rfl (by kernel_rfl) rfl ?_
  try first | refine AOLg.of [] ?_ | refine QSg.of [] ?_
  repeat' (first | (refine AWp.pass ?_; first | refine AWp.seq ?_ | refine AWp.block ?_ | refine AWp.skip ?_ | refine AWp.regG [] Zc ?_ | refine AWp.cond_t rfl ?_ | refine AWp.cond_f rfl ?_ | (refine AWp.cond rfl ?_ ?_ <;> intro hc <;> (try rw [hc]) <;> ((try simp only [zn] at hc) <;> (try simp (disch := omega) only [zz hA, zb, zy, reduceCtorEq, Bool.false_eq_true, Int.reduceLT, Int.reduceLE, Int.reduceNeg] at hc) <;> (try simp only [zw] at hc)) <;> (try (exfalso; omega))) | refine AWp.exit ?_ | refine AWp.ret ⟨.inr rfl, _, RetOk.ev tabOk Zc, ?_⟩) | (refine AOLg.pass ?_; refine AOLg.nx hA tabOk Zc ?_; first | refine NX.done ?_ | refine NX.gt ?_ | refine NX.gf ?_ | (refine NX.gs ?_ ?_ <;> intro hc <;> rw [hc] <;> ((try simp only [zn] at hc) <;> (try simp (disch := omega) only [zz hA, zb, zy, reduceCtorEq, Bool.false_eq_true, Int.reduceLT, Int.reduceLE, Int.reduceNeg] at hc) <;> (try simp only [zw] at hc)) <;> (try (exfalso; omega))) | (refine NX.kC ?_; first | (with_reducible refine NX.call (hg) ?_) | ((first | refine NX.call (hg) ?_)) | fail) | (refine NX.kO ?_; (first | refine NX.callO (hg) (by simp [allEq]) rfl ?_)) | refine NX.k 10 (NX.one Z10 ?_) | refine NX.k 14 (NX.one Z14 ?_) | refine NX.k 15 (NX.one Z15 ?_) | refine NX.k 18 (NX.one Z18 ?_) | refine NX.raw ?_) | refine Thn.exit ?_ | refine Blk.here ?_ | refine Blk.other (by decide) ?_ | refine ⟨.inl rfl, _, RetOk.ev tabOk Zc, ?_⟩ | fail)
  all_goals (refine rPV_then (by conv => lhs; cbv) ?_; rfl)
set_option maxHeartbeats 4000000 in
theorem refMore12_c (R V : List Int) (N : List (Int × Int)) (M : List Int) (P Q : List (List Int)) (n : Int) (hV : V.length ≤ 100000) (hN : N.length ≤ 100000) (hP : P.length ≤ 100000) (hQ : Q.length ≤ 100000) (hn : n ≤ 100000) :
    PureCalls Try.prog 85 [grP A R V N M P Q, IP n] (grP A R (moreV V (n - V.length).toNat) (moreN N (n - V.length).toNat) M (moreP P (n - V.length).toNat) (moreP Q (n - V.length).toNat)) := by
  refine PureCalls.of Try.func85 rfl (by kernel_rfl) rfl ?_
  try first | refine AOLg.of [] ?_ | refine QSg.of [] ?_
  repeat' (first | (refine AWp.pass ?_; first | refine AWp.seq ?_ | refine AWp.block ?_ | refine AWp.skip ?_ | refine AWp.regG [] Zc ?_ | refine AWp.cond_t rfl ?_ | refine AWp.cond_f rfl ?_ | (refine AWp.cond rfl ?_ ?_ <;> intro hc <;> (try rw [hc]) <;> ((try simp only [zn] at hc) <;> (try simp (disch := omega) only [zz hA, zb, zy, reduceCtorEq, Bool.false_eq_true, Int.reduceLT, Int.reduceLE, Int.reduceNeg] at hc) <;> (try simp only [zw] at hc)) <;> (try (exfalso; omega))) | refine AWp.exit ?_ | refine AWp.ret ⟨.inr rfl, _, RetOk.ev tabOk Zc, ?_⟩) | (refine AOLg.pass ?_; refine AOLg.nx hA tabOk Zc ?_; first | refine NX.done ?_ | refine NX.gt ?_ | refine NX.gf ?_ | (refine NX.gs ?_ ?_ <;> intro hc <;> rw [hc] <;> ((try simp only [zn] at hc) <;> (try simp (disch := omega) only [zz hA, zb, zy, reduceCtorEq, Bool.false_eq_true, Int.reduceLT, Int.reduceLE, Int.reduceNeg] at hc) <;> (try simp only [zw] at hc)) <;> (try (exfalso; omega))) | refine NX.k 10 (NX.one Z10 ?_) | refine NX.k 11 (NX.one Z11 ?_) | refine NX.k 14 (NX.one Z14 ?_) | refine NX.k 15 (NX.one Z15 ?_) | refine NX.k 17 (NX.one Z17 ?_) | refine NX.k 18 (NX.one Z18 ?_) | (refine NX.one (One.build0 tabOk rfl rfl) ?_) | (refine NX.one (One.appendOwn0 hA tabOk rfl rfl rfl rfl rfl rfl Zd Zd) ?_) | refine NX.raw ?_) | refine Thn.exit ?_ | refine Blk.here ?_ | refine Blk.other (by decide) ?_ | refine ⟨.inl rfl, _, RetOk.ev tabOk Zc, ?_⟩ | fail)
  generalize hK : (n - (V.length : Int)).toNat = K
  refine AWp.loopU (fun x : Nat × Nat => [(6, .own 3 x.2), (7, .own 4 x.2)]) (fun x => [.var true 31 [.ic (.sl 1 false (hid A (List.map encI R))), .ic (.sl 1 false (hid A (List.map encI V))), .ic (.sl 2 false (hid A (List.map encN N))), .ic (.sl 1 false (hid A (List.map encI M))), .ic (.sl 1 false (hid A (List.map (encK A) P))), .ic (.sl 1 false (hid A (List.map (encK A) Q)))], .var true 31 [.ic (.sl 0 true []), .ic (.sl 0 true []), .ic (.sl 0 true []), .ic (.sl 0 true []), .ic (.sl 0 true []), .ic (.sl 0 true [])], .var true 29 [.ic (.sl 1 false (hid A (List.map encI (moreV V x.1)))), .ic (.sl 2 false (hid A (List.map encN (moreN N x.1)))), .ic (.sl 1 false (hid A (List.map encI M)))],
    .row true x.2 24 1 (hid A (List.map (encK A) (moreP P x.1))), .row true x.2 24 1 (hid A (List.map (encK A) (moreP Q x.1)))]) (fun x => K - x.1) (fun x => x.1 ≤ K) (0, 1) (by conv => lhs; cbv) (Nat.zero_le _) (by ((repeat' (first | exact subE.nil | refine subE.cons rfl ?_ | refine subE.int rfl ?_ ?_ | refine subE.bool rfl ?_ ?_ | refine subE.str rfl ?_ ?_ | refine subE.sl rfl ?_ ?_))) <;> rfl) rfl ?_
  rintro ⟨k, v⟩ hk
  simp only at hk ⊢
  have l1 := moreV_len V k
  have l2 := moreN_len N k
  have l3 := moreP_len P k
  have l4 := moreP_len Q k
  by_cases hlt : k < K
  · have e1 : moreV V (k + 1) = moreV V k ++ [((moreV V k).length : Int)] := rfl
    have e2 : moreN N (k + 1) = moreN N k ++ [(-1, 0)] := rfl
    have e3 : moreP P (k + 1) = moreP P k ++ [[]] := rfl
    have e4 : moreP Q (k + 1) = moreP Q k ++ [[]] := rfl
    generalize hV2 : moreV V (k + 1) = V2 at *
    generalize hV1 : moreV V k = V1 at *
    generalize hN2 : moreN N (k + 1) = N2 at *
    generalize hN1 : moreN N k = N1 at *
    generalize hP2 : moreP P (k + 1) = P2 at *
    generalize hP1 : moreP P k = P1 at *
    generalize hQ2 : moreP Q (k + 1) = Q2 at *
    generalize hQ1 : moreP Q k = Q1 at *
    have hadd := refAdd5_c hA V1 N1 M (by omega) (by omega)
    try first | refine AOLg.of [26, 29] ?_ | refine QSg.of [26, 29] ?_
    repeat' (first | (refine AWp.pass ?_; first | refine AWp.seq ?_ | refine AWp.block ?_ | refine AWp.skip ?_ | refine AWp.regG [26, 29] Zc ?_ | refine AWp.cond_t rfl ?_ | refine AWp.cond_f rfl ?_ | (refine AWp.cond rfl ?_ ?_ <;> intro hc <;> (try rw [hc]) <;> ((try simp only [zn] at hc) <;> (try simp (disch := omega) only [zz hA, zb, zy, reduceCtorEq, Bool.false_eq_true, Int.reduceLT, Int.reduceLE, Int.reduceNeg] at hc) <;> (try simp only [zw] at hc)) <;> (try (exfalso; omega))) | refine AWp.exit ?_ | refine AWp.ret ⟨.inr rfl, _, RetOk.ev tabOk Zc, ?_⟩) | (refine AOLg.pass ?_; refine AOLg.nx hA tabOk Zc ?_; first | refine NX.done ?_ | refine NX.gt ?_ | refine NX.gf ?_ | (refine NX.gs ?_ ?_ <;> intro hc <;> rw [hc] <;> ((try simp only [zn] at hc) <;> (try simp (disch := omega) only [zz hA, zb, zy, reduceCtorEq, Bool.false_eq_true, Int.reduceLT, Int.reduceLE, Int.reduceNeg] at hc) <;> (try simp only [zw] at hc)) <;> (try (exfalso; omega))) | (refine NX.kC ?_; first | (with_reducible refine NX.call (hadd) ?_) | ((first | refine NX.call (hadd) ?_)) | fail) | (refine NX.kO ?_; (first | refine NX.callO (hadd) (by simp [allEq]) rfl ?_)) | refine NX.k 10 (NX.one Z10 ?_) | refine NX.k 11 (NX.one Z11 ?_) | refine NX.k 14 (NX.one Z14 ?_) | refine NX.k 15 (NX.one Z15 ?_) | refine NX.k 17 (NX.one Z17 ?_) | refine NX.k 18 (NX.one Z18 ?_) | (refine NX.one (One.weak (ys := [encK A []]) (One.ev hA tabOk Zc) (.cons (.cons (ILe.nilM hA encI 0 1 true) .nil) .nil)) ?_) | (refine NX.one (One.weak (ys := [encK A []]) (One.ev hA tabOk Zc) (.cons (.cons (ILe.nilM hA encI 0 1 true) .nil) .nil)) ?_) | (refine NX.one (One.appendOwnM hA tabOk (f := encK A) [] rfl rfl rfl rfl rfl rfl rfl Zd Zd) ?_) | refine NX.raw ?_) | refine Thn.exit ?_ | refine Blk.here ?_ | refine Blk.other (by decide) ?_ | refine ⟨.inl rfl, _, RetOk.ev tabOk Zc, ?_⟩ | fail)
    refine ⟨(k + 1, v + 1), by simp only; omega, by simp only; omega, rfl, ?_, (by ((repeat' (first | exact subE.nil | refine subE.cons rfl ?_ | refine subE.int rfl ?_ ?_ | refine subE.bool rfl ?_ ?_ | refine subE.str rfl ?_ ?_ | refine subE.sl rfl ?_ ?_))) <;> rfl), Zk⟩
    simp only [hV2, hN2, hP2, hQ2, e1, e2, e3, e4]
  · try first | refine AOLg.of [] ?_ | refine QSg.of [] ?_
    repeat' (first | (refine AWp.pass ?_; first | refine AWp.seq ?_ | refine AWp.block ?_ | refine AWp.skip ?_ | refine AWp.regG [] Zc ?_ | refine AWp.cond_t rfl ?_ | refine AWp.cond_f rfl ?_ | (refine AWp.cond rfl ?_ ?_ <;> intro hc <;> (try rw [hc]) <;> ((try simp only [zn] at hc) <;> (try simp (disch := omega) only [zz hA, zb, zy, reduceCtorEq, Bool.false_eq_true, Int.reduceLT, Int.reduceLE, Int.reduceNeg] at hc) <;> (try simp only [zw] at hc)) <;> (try (exfalso; omega))) | refine AWp.exit ?_ | refine AWp.ret ⟨.inr rfl, _, RetOk.ev tabOk Zc, ?_⟩) | (refine AOLg.pass ?_; refine AOLg.nx hA tabOk Zc ?_; first | refine NX.done ?_ | refine NX.gt ?_ | refine NX.gf ?_ | (refine NX.gs ?_ ?_ <;> intro hc <;> rw [hc] <;> ((try simp only [zn] at hc) <;> (try simp (disch := omega) only [zz hA, zb, zy, reduceCtorEq, Bool.false_eq_true, Int.reduceLT, Int.reduceLE, Int.reduceNeg] at hc) <;> (try simp only [zw] at hc)) <;> (try (exfalso; omega))) | refine NX.k 10 (NX.one Z10 ?_) | refine NX.k 11 (NX.one Z11 ?_) | refine NX.k 14 (NX.one Z14 ?_) | refine NX.k 15 (NX.one Z15 ?_) | refine NX.k 17 (NX.one Z17 ?_) | refine NX.k 18 (NX.one Z18 ?_) | refine NX.raw ?_) | refine Thn.exit ?_ | refine Blk.here ?_ | refine Blk.other (by decide) ?_ | refine ⟨.inl rfl, _, RetOk.ev tabOk Zc, ?_⟩ | fail)
    all_goals try (exfalso; omega)
    rw [show k = K by omega]
    exact rPV_gr rfl rfl
theorem refNew12_c : PureCalls Try.prog 46 [.c (.sl 0 false []), IP 2] (grP A [] [0, 1] [(-1, 0), (-1, 0)] [] [[], []] [[], []]) := by
  have hm := refMore12_c hA [] [] [] [] [] [] 2 (by decide) (by decide) (by decide) (by decide) (by decide)
  have e : (grP A [] (moreV [] (2 - (([] : List Int).length : Int)).toNat) (moreN [] (2 - (([] : List Int).length : Int)).toNat) [] (moreP [] (2 - (([] : List Int).length : Int)).toNat) (moreP [] (2 - (([] : List Int).length : Int)).toNat)) = grP A [] [0, 1] [(-1, 0), (-1, 0)] [] [[], []] [[], []] := rfl
  rw [e] at hm
  refine PureCalls.of Try.func46 rfl (by kernel_rfl) rfl ?_
  try first | refine AOLg.of [] ?_ | refine QSg.of [] ?_
  repeat' (first | (refine AWp.pass ?_; first | refine AWp.seq ?_ | refine AWp.block ?_ | refine AWp.skip ?_ | refine AWp.regG [] Zc ?_ | refine AWp.cond_t rfl ?_ | refine AWp.cond_f rfl ?_ | (refine AWp.cond rfl ?_ ?_ <;> intro hc <;> (try rw [hc]) <;> ((try simp only [zn] at hc) <;> (try simp (disch := omega) only [zz hA, zb, zy, reduceCtorEq, Bool.false_eq_true, Int.reduceLT, Int.reduceLE, Int.reduceNeg] at hc) <;> (try simp only [zw] at hc)) <;> (try (exfalso; omega))) | refine AWp.exit ?_ | refine AWp.ret ⟨.inr rfl, _, RetOk.ev tabOk Zc, ?_⟩) | (refine AOLg.pass ?_; refine AOLg.nx hA tabOk Zc ?_; first | refine NX.done ?_ | refine NX.gt ?_ | refine NX.gf ?_ | (refine NX.gs ?_ ?_ <;> intro hc <;> rw [hc] <;> ((try simp only [zn] at hc) <;> (try simp (disch := omega) only [zz hA, zb, zy, reduceCtorEq, Bool.false_eq_true, Int.reduceLT, Int.reduceLE, Int.reduceNeg] at hc) <;> (try simp only [zw] at hc)) <;> (try (exfalso; omega))) | (refine NX.kC ?_; first | (with_reducible refine NX.call (hm) ?_) | (refine NX.call (PureCalls.weaken (hm) ?_) ?_ <;> (first | refine AOLg.pass ?_ | ((with_reducible repeat' (first | exact PLes.nil | exact ILes.nil | refine PLes.cons (PLe.refl _) ?_ | refine PLes.cons (PLe.c (ILe.nilM hA _ _ _ _)) ?_ | refine PLes.cons (PLe.agg ?_) ?_ | refine ILes.cons (ILe.refl _) ?_ | refine ILes.cons (ILe.nilM hA _ _ _ _) ?_)); done) | exact Zd)) | ((first | refine NX.call (hm) ?_)) | fail) | (refine NX.kO ?_; (first | refine NX.callO (hm) (by simp [allEq]) rfl ?_)) | refine NX.k 15 (NX.one Z15 ?_) | refine NX.raw ?_) | refine Thn.exit ?_ | refine Blk.here ?_ | refine Blk.other (by decide) ?_ | refine ⟨.inl rfl, _, RetOk.ev tabOk Zc, ?_⟩ | fail)
  all_goals first | (refine rPV_then (by conv => lhs; cbv) ?_; rfl) | fail
end Go.Proofs.Ytkkjlmcnfoncdaa.Aw

namespace Go.Proofs.Ytkkjlmcnfoncdaa.Aw
open Go Go.RowKit
set_option maxRecDepth 10000
attribute [local irreducible] AWp AOL QS One AOLg QSg NX QX TRg TX AllO Fin3
def mayG (K : List (List Int)) (R : List Int) (n : Nat) (id v : Int) (less : Bool) : Bool :=
  if 0 ≤ numM K n id then lessM R (numM K n id) v
  else if less then decide (kindM K id = 1 ∨ kindM K id = 3) else decide (kindM K id = 0 ∨ kindM K id = 3 ∨ kindM K id = 6)
def rowB (K : List (List Int)) (R : List Int) (n : Nat) (l : List Int) (v : Int) (less : Bool) : Bool :=
  allB l.length fun i => mayG K R n (l.getD i default) v less && (decide (i = 0) || decide (l.getD (i - 1) default < l.getD i default))
def nodeB (K : List (List Int)) (R V : List Int) (P Q : List (List Int)) (v : Nat) : Bool :=
  rowB K R V.length (P.getD v default) v true && (rowB K R V.length (Q.getD v default) v false && (decide (V.getD v default = (v : Int)) || decide ((P.getD v default).length = 0 ∧ (Q.getD v default).length = 0)))
def rightGr (K : List (List Int)) (R V : List Int) (N : List (Int × Int)) (M : List Int) (P Q : List (List Int)) : Bool :=
  (rightB V R && (⟨V, N, M⟩ : Cl).right) && (decide (M.length = 0 ∧ P.length = V.length ∧ Q.length = V.length) && allB V.length (nodeB K R V P Q))
variable {A : Ar} (hA : A = real)
include hA
theorem refMayG_c (K : List (List Int)) (S : List Int) (h : StK K S) (R V : List Int) (N : List (Int × Int)) (M : List Int) (P Q : List (List Int)) (hr : R.length ≤ 1000000) (id v : Int) (less : Bool) :
    PureCalls Try.prog 53 [keyedPV A K S, grP A R V N M P Q, IP id, IP v, BP less] (BP (hid A (mayG K R V.length id v less))) := by
  have hnum := refNumber_c hA K S h.ok h.keys R V N M P Q id
  have hless := refLess_c hA R (numM K V.length id) v hr
  unfold mayG
  refine PureCalls.of Try.func53 rfl (by kernel_rfl) rfl ?_
  by_cases hn : 0 ≤ numM K V.length id
  · rw [if_pos hn]
    generalize lessM R (numM K V.length id) v = b at *
    generalize numM K V.length id = x at *
    rw [← hid_eq hA x] at hless
    try first | refine AOLg.of [] ?_ | refine QSg.of [] ?_
    repeat' (first | (refine AWp.pass ?_; first | refine AWp.seq ?_ | refine AWp.block ?_ | refine AWp.skip ?_ | refine AWp.regG [] Zc ?_ | refine AWp.cond_t rfl ?_ | refine AWp.cond_f rfl ?_ | (refine AWp.cond rfl ?_ ?_ <;> intro hc <;> (try rw [hc]) <;> ((try simp only [zn] at hc) <;> (try simp (disch := omega) only [zz hA, zb, zy, reduceCtorEq, Bool.false_eq_true, Int.reduceLT, Int.reduceLE, Int.reduceNeg] at hc) <;> (try simp only [zw] at hc)) <;> (try (exfalso; omega))) | refine AWp.exit ?_ | refine AWp.ret ⟨.inr rfl, _, RetOk.ev tabOk Zc, ?_⟩) | (refine AOLg.pass ?_; refine AOLg.nx hA tabOk Zc ?_; first | refine NX.done ?_ | refine NX.gt ?_ | refine NX.gf ?_ | (refine NX.gs ?_ ?_ <;> intro hc <;> rw [hc] <;> ((try simp only [zn] at hc) <;> (try simp (disch := omega) only [zz hA, zb, zy, reduceCtorEq, Bool.false_eq_true, Int.reduceLT, Int.reduceLE, Int.reduceNeg] at hc) <;> (try simp only [zw] at hc)) <;> (try (exfalso; omega))) | (refine NX.kC ?_; first | (with_reducible refine NX.call (hnum) ?_) | (with_reducible refine NX.call (hless) ?_) | ((first | refine NX.call (hnum) ?_ | refine NX.call (hless) ?_)) | fail) | (refine NX.kO ?_; (first | refine NX.callO (hnum) (by simp [allEq]) rfl ?_ | refine NX.callO (hless) (by simp [allEq]) rfl ?_)) | refine NX.k 8 (NX.one Z8 ?_) | refine NX.k 14 (NX.one Z14 ?_) | refine NX.k 15 (NX.one Z15 ?_) | refine NX.k 18 (NX.one Z18 ?_) | refine NX.raw ?_) | refine Thn.exit ?_ | refine Blk.here ?_ | refine Blk.other (by decide) ?_ | refine ⟨.inl rfl, _, RetOk.ev tabOk Zc, ?_⟩ | fail)
    all_goals first | (exfalso; omega) | (refine rPV_then (by conv => lhs; cbv) ?_; rfl)
  · rw [if_neg hn]
    clear hless
    by_cases hi : id < 0 ∨ (K.length : Int) ≤ id
    · have hof := refOf_c0 hA K S id hi
      have hk := (sym_out hi).2
      rw [hk, show (if less = true then decide ((-1 : Int) = 1 ∨ (-1 : Int) = 3) else decide ((-1 : Int) = 0 ∨ (-1 : Int) = 3 ∨ (-1 : Int) = 6)) = false by cases less <;> rfl]
      generalize numM K V.length id = x at *
      try first | refine AOLg.of [] ?_ | refine QSg.of [] ?_
      repeat' (first | (refine AWp.pass ?_; first | refine AWp.seq ?_ | refine AWp.block ?_ | refine AWp.skip ?_ | refine AWp.regG [] Zc ?_ | refine AWp.cond_t rfl ?_ | refine AWp.cond_f rfl ?_ | (refine AWp.cond rfl ?_ ?_ <;> intro hc <;> (try rw [hc]) <;> ((try simp only [zn] at hc) <;> (try simp (disch := omega) only [zz hA, zb, zy, reduceCtorEq, Bool.false_eq_true, Int.reduceLT, Int.reduceLE, Int.reduceNeg] at hc) <;> (try simp only [zw] at hc)) <;> (try (exfalso; omega))) | refine AWp.exit ?_ | refine AWp.ret ⟨.inr rfl, _, RetOk.ev tabOk Zc, ?_⟩) | (refine AOLg.pass ?_; refine AOLg.nx hA tabOk Zc ?_; first | refine NX.done ?_ | refine NX.gt ?_ | refine NX.gf ?_ | (refine NX.gs ?_ ?_ <;> intro hc <;> rw [hc] <;> ((try simp only [zn] at hc) <;> (try simp (disch := omega) only [zz hA, zb, zy, reduceCtorEq, Bool.false_eq_true, Int.reduceLT, Int.reduceLE, Int.reduceNeg] at hc) <;> (try simp only [zw] at hc)) <;> (try (exfalso; omega))) | (refine NX.kC ?_; first | (with_reducible refine NX.call (hnum) ?_) | (with_reducible refine NX.call (hof) ?_) | ((first | refine NX.call (hnum) ?_ | refine NX.call (hof) ?_)) | fail) | (refine NX.kO ?_; (first | refine NX.callO (hnum) (by simp [allEq]) rfl ?_ | refine NX.callO (hof) (by simp [allEq]) rfl ?_)) | refine NX.k 8 (NX.one Z8 ?_) | refine NX.k 14 (NX.one Z14 ?_) | refine NX.k 15 (NX.one Z15 ?_) | refine NX.k 18 (NX.one Z18 ?_) | refine NX.raw ?_) | refine Thn.exit ?_ | refine Blk.here ?_ | refine Blk.other (by decide) ?_ | refine ⟨.inl rfl, _, RetOk.ev tabOk Zc, ?_⟩ | fail)
      all_goals first | (exfalso; omega) | (refine rPV_then (by conv => lhs; cbv) ?_; simp only [hid_eq hA]; done) | (refine rPV_then (by conv => lhs; cbv) ?_; simp only [hid_eq hA]; rfl)
    · obtain ⟨i, rfl⟩ : ∃ i : Nat, id = i := ⟨id.toNat, by omega⟩
      have hil : i < K.length := by omega
      obtain ⟨k, s, p, l, hk, hll⟩ := key_at h.ok h.keys hil
      have hof := refOf_c1 hA K S i k s p l hil hk hll
      rw [(sym_key hil hk).2]
      obtain ⟨z, hz⟩ : ∃ z : Int, z = (i : Int) := ⟨_, rfl⟩
      rw [← hz] at hnum hn ⊢
      have hof := hof z hz
      clear hk
      generalize numM K V.length z = x at *
      cases less with
      | true =>
        simp only [if_true]
        try first | refine AOLg.of [] ?_ | refine QSg.of [] ?_
        repeat' (first | (refine AWp.pass ?_; first | refine AWp.seq ?_ | refine AWp.block ?_ | refine AWp.skip ?_ | refine AWp.regG [] Zc ?_ | refine AWp.cond_t rfl ?_ | refine AWp.cond_f rfl ?_ | (refine AWp.cond rfl ?_ ?_ <;> intro hc <;> (try rw [hc]) <;> ((try simp only [zn] at hc) <;> (try simp (disch := omega) only [zz hA, zb, zy, reduceCtorEq, Bool.false_eq_true, Int.reduceLT, Int.reduceLE, Int.reduceNeg] at hc) <;> (try simp only [zw] at hc)) <;> (try (exfalso; omega))) | refine AWp.exit ?_ | refine AWp.ret ⟨.inr rfl, _, RetOk.ev tabOk Zc, ?_⟩) | (refine AOLg.pass ?_; refine AOLg.nx hA tabOk Zc ?_; first | refine NX.done ?_ | refine NX.gt ?_ | refine NX.gf ?_ | (refine NX.gs ?_ ?_ <;> intro hc <;> rw [hc] <;> ((try simp only [zn] at hc) <;> (try simp (disch := omega) only [zz hA, zb, zy, reduceCtorEq, Bool.false_eq_true, Int.reduceLT, Int.reduceLE, Int.reduceNeg] at hc) <;> (try simp only [zw] at hc)) <;> (try (exfalso; omega))) | (refine NX.kC ?_; first | (with_reducible refine NX.call (hnum) ?_) | (with_reducible refine NX.call (hof) ?_) | ((first | refine NX.call (hnum) ?_ | refine NX.call (hof) ?_)) | fail) | (refine NX.kO ?_; (first | refine NX.callO (hnum) (by simp [allEq]) rfl ?_ | refine NX.callO (hof) (by simp [allEq]) rfl ?_)) | refine NX.k 8 (NX.one Z8 ?_) | refine NX.k 14 (NX.one Z14 ?_) | refine NX.k 15 (NX.one Z15 ?_) | refine NX.k 18 (NX.one Z18 ?_) | refine NX.raw ?_) | refine Thn.exit ?_ | refine Blk.here ?_ | refine Blk.other (by decide) ?_ | refine ⟨.inl rfl, _, RetOk.ev tabOk Zc, ?_⟩ | fail)
        all_goals first | (exfalso; omega) | (refine rPV_then (by conv => lhs; cbv) ?_; simp only [hid_eq hA]; simp [hA, real]; omega) | (refine rPV_then (by conv => lhs; cbv) ?_; simp only [hid_eq hA]; simp [hA, real]; done) | (refine rPV_then (by conv => lhs; cbv) ?_; simp only [hid_eq hA]; simp [hA, real, *]; done)
      | false =>
        simp only [Bool.false_eq_true, if_false]
        try first | refine AOLg.of [] ?_ | refine QSg.of [] ?_
        repeat' (first | (refine AWp.pass ?_; first | refine AWp.seq ?_ | refine AWp.block ?_ | refine AWp.skip ?_ | refine AWp.regG [] Zc ?_ | refine AWp.cond_t rfl ?_ | refine AWp.cond_f rfl ?_ | (refine AWp.cond rfl ?_ ?_ <;> intro hc <;> (try rw [hc]) <;> ((try simp only [zn] at hc) <;> (try simp (disch := omega) only [zz hA, zb, zy, reduceCtorEq, Bool.false_eq_true, Int.reduceLT, Int.reduceLE, Int.reduceNeg] at hc) <;> (try simp only [zw] at hc)) <;> (try (exfalso; omega))) | refine AWp.exit ?_ | refine AWp.ret ⟨.inr rfl, _, RetOk.ev tabOk Zc, ?_⟩) | (refine AOLg.pass ?_; refine AOLg.nx hA tabOk Zc ?_; first | refine NX.done ?_ | refine NX.gt ?_ | refine NX.gf ?_ | (refine NX.gs ?_ ?_ <;> intro hc <;> rw [hc] <;> ((try simp only [zn] at hc) <;> (try simp (disch := omega) only [zz hA, zb, zy, reduceCtorEq, Bool.false_eq_true, Int.reduceLT, Int.reduceLE, Int.reduceNeg] at hc) <;> (try simp only [zw] at hc)) <;> (try (exfalso; omega))) | (refine NX.kC ?_; first | (with_reducible refine NX.call (hnum) ?_) | (with_reducible refine NX.call (hof) ?_) | ((first | refine NX.call (hnum) ?_ | refine NX.call (hof) ?_)) | fail) | (refine NX.kO ?_; (first | refine NX.callO (hnum) (by simp [allEq]) rfl ?_ | refine NX.callO (hof) (by simp [allEq]) rfl ?_)) | refine NX.k 8 (NX.one Z8 ?_) | refine NX.k 14 (NX.one Z14 ?_) | refine NX.k 15 (NX.one Z15 ?_) | refine NX.k 18 (NX.one Z18 ?_) | refine NX.raw ?_) | refine Thn.exit ?_ | refine Blk.here ?_ | refine Blk.other (by decide) ?_ | refine ⟨.inl rfl, _, RetOk.ev tabOk Zc, ?_⟩ | fail)
        all_goals first | (exfalso; omega) | (refine rPV_then (by conv => lhs; cbv) ?_; simp only [hid_eq hA]; simp [hA, real]; omega) | (refine rPV_then (by conv => lhs; cbv) ?_; simp only [hid_eq hA]; simp [hA, real]; done) | (refine rPV_then (by conv => lhs; cbv) ?_; simp only [hid_eq hA]; simp [hA, real, *]; done)
theorem refRow_c (K : List (List Int)) (S : List Int) (h : StK K S) (R V : List Int) (N : List (Int × Int)) (M : List Int) (P Q : List (List Int)) (hr : R.length ≤ 1000000) (l : List Int) (hl : l.length ≤ 1000000) (v : Int) (less : Bool) :
    PureCalls Try.prog 61 [keyedPV A K S, grP A R V N M P Q, intsP A l, IP v, BP less] (BP (hid A (rowB K R V.length l v less))) := by
  refine PureCalls.of Try.func61 rfl (by kernel_rfl) rfl ?_
  try first | refine AOLg.of [] ?_ | refine QSg.of [] ?_
  repeat' (first | (refine AWp.pass ?_; first | refine AWp.seq ?_ | refine AWp.block ?_ | refine AWp.skip ?_ | refine AWp.regG [] Zc ?_ | refine AWp.cond_t rfl ?_ | refine AWp.cond_f rfl ?_ | (refine AWp.cond rfl ?_ ?_ <;> intro hc <;> (try rw [hc]) <;> ((try simp only [zn] at hc) <;> (try simp (disch := omega) only [zz hA, zb, zy, reduceCtorEq, Bool.false_eq_true, Int.reduceLT, Int.reduceLE, Int.reduceNeg] at hc) <;> (try simp only [zw] at hc)) <;> (try (exfalso; omega))) | refine AWp.exit ?_ | refine AWp.ret ⟨.inr rfl, _, RetOk.ev tabOk Zc, ?_⟩ | refine AWp.drawVG [] rfl (by decide +kernel) Zc ?_) | (refine AOLg.pass ?_; refine AOLg.nx hA tabOk Zc ?_; first | refine NX.done ?_ | refine NX.gt ?_ | refine NX.gf ?_ | (refine NX.gs ?_ ?_ <;> intro hc <;> rw [hc] <;> ((try simp only [zn] at hc) <;> (try simp (disch := omega) only [zz hA, zb, zy, reduceCtorEq, Bool.false_eq_true, Int.reduceLT, Int.reduceLE, Int.reduceNeg] at hc) <;> (try simp only [zw] at hc)) <;> (try (exfalso; omega))) | refine NX.k 1 (NX.one Z1 ?_) | refine NX.k 7 (NX.one Z7 ?_) | refine NX.k 10 (NX.one Z10 ?_) | refine NX.k 14 (NX.one Z14 ?_) | refine NX.raw ?_) | (refine TRg.pass ?_; refine TRg.nx hA tabOk Zc ?_; first | refine TX.done ?_ | refine TX.gt ?_ | refine TX.gf ?_ | (refine TX.gs ?_ ?_ <;> intro hc <;> rw [hc] <;> ((try simp only [zn] at hc) <;> (try simp (disch := omega) only [zz hA, zb, zy, reduceCtorEq, Bool.false_eq_true, Int.reduceLT, Int.reduceLE, Int.reduceNeg] at hc) <;> (try simp only [zw] at hc)) <;> (try (exfalso; omega))) | refine TX.k 1 (TX.one Z1 ?_) | refine TX.k 7 (TX.one Z7 ?_) | refine TX.k 10 (TX.one Z10 ?_) | refine TX.k 14 (TX.one Z14 ?_) | refine TX.raw ?_) | refine Fin3.of Zc (by repeat' (first | exact True.intro | exact rfl | refine And.intro ?_ ?_)) ?_ ?_ | (refine AllO.pass ?_; first | exact AllO.nil | (refine AllO.cons (One.ev hA tabOk ?_) ?_ <;> (first | refine AllO.pass ?_ | ((conv => lhs; cbv); done))) | (refine AllO.cons (One.skipB ?_) ?_ <;> (first | refine AllO.pass ?_ | ((conv => lhs; cbv); done))) | refine AllO.consX ZX rfl rfl ?_) | refine Thn.exit ?_ | refine Blk.here ?_ | refine Blk.other (by decide) ?_ | refine ⟨.inl rfl, _, RetOk.ev tabOk Zc, ?_⟩ | fail)
  refine AWp.loopU (fun k : Nat => [(11, .ic (.lit (.int .i64 (hid A (cN k)))))]) (fun _ => _) (fun k => l.length - k) (fun k => k ≤ l.length ∧ ∀ i, i < k → (mayG K R V.length (l.getD i default) v less && (decide (i = 0) || decide (l.getD (i - 1) default < l.getD i default))) = true) 0 (by conv => lhs; cbv) ⟨Nat.zero_le _, by simp⟩ (by ((repeat' (first | exact subE.nil | refine subE.cons rfl ?_ | refine subE.int rfl ?_ ?_ | refine subE.bool rfl ?_ ?_ | refine subE.str rfl ?_ ?_ | refine subE.sl rfl ?_ ?_))) <;> simp [hA, real, hid, cN]) rfl ?_
  rintro k ⟨hk, hok⟩
  by_cases hlt : k < l.length
  · have hm : ∀ q, q = l.getD k default → PureCalls Try.prog 53 [keyedPV A K S, grP A R V N M P Q, IP q, IP v, BP less] (BP (hid A (mayG K R V.length (l.getD k default) v less))) := by rintro q rfl; exact refMayG_c hA K S h R V N M P Q hr _ v less
    have hno : (mayG K R V.length (l.getD k default) v less && (decide (k = 0) || decide (l.getD (k - 1) default < l.getD k default))) = false → rowB K R V.length l v less = false := fun h => allB_f hlt h
    generalize hmd : mayG K R V.length (l.getD k default) v less = m at *
    have hp : ((k : Int) - 1).toNat = k - 1 := by omega
    have hno2 : m = false ∨ (0 < k ∧ l.getD k default ≤ l.getD (k - 1) default) → rowB K R V.length l v less = false := fun h => hno (by
      rcases h with h | ⟨h1, h2⟩
      · rw [h]; rfl
      · rw [decide_eq_false (show ¬ k = 0 by omega), decide_eq_false (show ¬ l.getD (k - 1) default < l.getD k default by omega)]; simp)
    have hyes : m = true → (k = 0 ∨ l.getD (k - 1) default < l.getD k default) → (m && (decide (k = 0) || decide (l.getD (k - 1) default < l.getD k default))) = true := fun h1 h2 => by
      rw [h1]; simpa using h2
    have hok2 : (m && (decide (k = 0) || decide (l.getD (k - 1) default < l.getD k default))) = true → ∀ i, i < k + 1 → (mayG K R V.length (l.getD i default) v less && (decide (i = 0) || decide (l.getD (i - 1) default < l.getD i default))) = true := fun h i hi => by
      rcases Nat.lt_or_ge i k with h1 | h1
      · exact hok i h1
      · obtain rfl : i = k := by omega
        rw [hmd]; exact h
    try first | refine AOLg.of [] ?_ | refine QSg.of [] ?_
    repeat' (first | (refine AWp.pass ?_; first | refine AWp.seq ?_ | refine AWp.block ?_ | refine AWp.skip ?_ | refine AWp.regG [] Zc ?_ | refine AWp.cond_t rfl ?_ | refine AWp.cond_f rfl ?_ | (refine AWp.cond rfl ?_ ?_ <;> intro hc <;> (try rw [hc]) <;> ((try simp only [zn] at hc) <;> (try simp (disch := omega) only [zz hA, zb, zy, reduceCtorEq, Bool.false_eq_true, Int.reduceLT, Int.reduceLE, Int.reduceNeg] at hc) <;> (try simp only [zw] at hc)) <;> (try (exfalso; omega))) | refine AWp.exit ?_ | refine AWp.ret ⟨.inr rfl, _, RetOk.ev tabOk Zc, ?_⟩ | refine AWp.drawVG [] rfl (by decide +kernel) Zc ?_) | (refine AOLg.pass ?_; refine AOLg.nx hA tabOk Zc ?_; first | refine NX.done ?_ | refine NX.gt ?_ | refine NX.gf ?_ | (refine NX.gs ?_ ?_ <;> intro hc <;> rw [hc] <;> ((try simp only [zn] at hc) <;> (try simp (disch := omega) only [zz hA, zb, zy, reduceCtorEq, Bool.false_eq_true, Int.reduceLT, Int.reduceLE, Int.reduceNeg] at hc) <;> (try simp only [zw] at hc)) <;> (try (exfalso; omega))) | (refine NX.kC ?_; first | (with_reducible refine NX.call (hm _ (by simp only [hid_eq hA, cN, Int.toNat_natCast])) ?_) | ((first | refine NX.call (hm _ (by simp only [hid_eq hA, cN, Int.toNat_natCast])) ?_)) | fail) | (refine NX.kO ?_; (first | refine NX.callO (hm _ (by simp only [hid_eq hA, cN, Int.toNat_natCast])) (by simp [allEq]) rfl ?_)) | refine NX.k 1 (NX.one Z1 ?_) | refine NX.k 7 (NX.one Z7 ?_) | refine NX.k 10 (NX.one Z10 ?_) | refine NX.k 14 (NX.one Z14 ?_) | refine NX.raw ?_) | (refine TRg.pass ?_; refine TRg.nx hA tabOk Zc ?_; first | refine TX.done ?_ | refine TX.gt ?_ | refine TX.gf ?_ | (refine TX.gs ?_ ?_ <;> intro hc <;> rw [hc] <;> ((try simp only [zn] at hc) <;> (try simp (disch := omega) only [zz hA, zb, zy, reduceCtorEq, Bool.false_eq_true, Int.reduceLT, Int.reduceLE, Int.reduceNeg] at hc) <;> (try simp only [zw] at hc)) <;> (try (exfalso; omega))) | (refine TX.kC ?_; first | (with_reducible refine TX.call (hm _ (by simp only [hid_eq hA, cN, Int.toNat_natCast])) ?_) | ((first | refine TX.call (hm _ (by simp only [hid_eq hA, cN, Int.toNat_natCast])) ?_)) | fail) | (refine TX.kO ?_; (first | refine TX.callO (hm _ (by simp only [hid_eq hA, cN, Int.toNat_natCast])) (by simp [allEq]) rfl ?_)) | refine TX.k 1 (TX.one Z1 ?_) | refine TX.k 7 (TX.one Z7 ?_) | refine TX.k 10 (TX.one Z10 ?_) | refine TX.k 14 (TX.one Z14 ?_) | refine TX.raw ?_) | refine Fin3.of Zc (by repeat' (first | exact True.intro | exact rfl | refine And.intro ?_ ?_)) ?_ ?_ | (refine AllO.pass ?_; first | exact AllO.nil | (refine AllO.cons (One.ev hA tabOk ?_) ?_ <;> (first | refine AllO.pass ?_ | ((conv => lhs; cbv); done))) | (refine AllO.cons (One.skipB ?_) ?_ <;> (first | refine AllO.pass ?_ | ((conv => lhs; cbv); done))) | ((with_reducible refine AllO.call Zc (hm _ (by simp only [hid_eq hA, cN, Int.toNat_natCast])) ?_ ?_) <;> (first | refine AllO.pass ?_ | exact rfl | exact Zd)) | refine AllO.consX ZX rfl rfl ?_) | refine Thn.exit ?_ | refine Blk.here ?_ | refine Blk.other (by decide) ?_ | refine ⟨.inl rfl, _, RetOk.ev tabOk Zc, ?_⟩ | fail)
    · refine rPV_then (by conv => lhs; cbv) ?_
      rw [hno2 (.inl hc), hid_eq hA]
    · refine rPV_then (by conv => lhs; cbv) ?_
      rw [hno2 (.inr (by rw [hp] at hc; omega)), hid_eq hA]
    · refine ⟨k + 1, ?_, ?_, rfl, rfl, ?_, Zk⟩ <;> (try omega)
      repeat' (first | exact subE.nil | refine subE.cons rfl ?_ | refine subE.int rfl ?_ ?_ | refine subE.bool rfl ?_ ?_ | refine subE.str rfl ?_ ?_ | refine subE.sl rfl ?_ ?_)
      · exact ⟨by omega, hok2 (hyes (by assumption) (.inr (by rw [hp] at hc; omega)))⟩
      · exact Zd
    · refine ⟨k + 1, ?_, ?_, rfl, rfl, ?_, Zk⟩ <;> (try omega)
      repeat' (first | exact subE.nil | refine subE.cons rfl ?_ | refine subE.int rfl ?_ ?_ | refine subE.bool rfl ?_ ?_ | refine subE.str rfl ?_ ?_ | refine subE.sl rfl ?_ ?_)
      · exact ⟨by omega, hok2 (hyes (by assumption) (.inl (by omega)))⟩
      · exact Zd
  · try first | refine AOLg.of [] ?_ | refine QSg.of [] ?_
    repeat' (first | (refine AWp.pass ?_; first | refine AWp.seq ?_ | refine AWp.block ?_ | refine AWp.skip ?_ | refine AWp.regG [] Zc ?_ | refine AWp.cond_t rfl ?_ | refine AWp.cond_f rfl ?_ | (refine AWp.cond rfl ?_ ?_ <;> intro hc <;> (try rw [hc]) <;> ((try simp only [zn] at hc) <;> (try simp (disch := omega) only [zz hA, zb, zy, reduceCtorEq, Bool.false_eq_true, Int.reduceLT, Int.reduceLE, Int.reduceNeg] at hc) <;> (try simp only [zw] at hc)) <;> (try (exfalso; omega))) | refine AWp.exit ?_ | refine AWp.ret ⟨.inr rfl, _, RetOk.ev tabOk Zc, ?_⟩ | refine AWp.drawVG [] rfl (by decide +kernel) Zc ?_) | (refine AOLg.pass ?_; refine AOLg.nx hA tabOk Zc ?_; first | refine NX.done ?_ | refine NX.gt ?_ | refine NX.gf ?_ | (refine NX.gs ?_ ?_ <;> intro hc <;> rw [hc] <;> ((try simp only [zn] at hc) <;> (try simp (disch := omega) only [zz hA, zb, zy, reduceCtorEq, Bool.false_eq_true, Int.reduceLT, Int.reduceLE, Int.reduceNeg] at hc) <;> (try simp only [zw] at hc)) <;> (try (exfalso; omega))) | refine NX.k 1 (NX.one Z1 ?_) | refine NX.k 7 (NX.one Z7 ?_) | refine NX.k 10 (NX.one Z10 ?_) | refine NX.k 14 (NX.one Z14 ?_) | refine NX.raw ?_) | (refine TRg.pass ?_; refine TRg.nx hA tabOk Zc ?_; first | refine TX.done ?_ | refine TX.gt ?_ | refine TX.gf ?_ | (refine TX.gs ?_ ?_ <;> intro hc <;> rw [hc] <;> ((try simp only [zn] at hc) <;> (try simp (disch := omega) only [zz hA, zb, zy, reduceCtorEq, Bool.false_eq_true, Int.reduceLT, Int.reduceLE, Int.reduceNeg] at hc) <;> (try simp only [zw] at hc)) <;> (try (exfalso; omega))) | refine TX.k 1 (TX.one Z1 ?_) | refine TX.k 7 (TX.one Z7 ?_) | refine TX.k 10 (TX.one Z10 ?_) | refine TX.k 14 (TX.one Z14 ?_) | refine TX.raw ?_) | refine Fin3.of Zc (by repeat' (first | exact True.intro | exact rfl | refine And.intro ?_ ?_)) ?_ ?_ | (refine AllO.pass ?_; first | exact AllO.nil | (refine AllO.cons (One.ev hA tabOk ?_) ?_ <;> (first | refine AllO.pass ?_ | ((conv => lhs; cbv); done))) | (refine AllO.cons (One.skipB ?_) ?_ <;> (first | refine AllO.pass ?_ | ((conv => lhs; cbv); done))) | refine AllO.consX ZX rfl rfl ?_) | refine Thn.exit ?_ | refine Blk.here ?_ | refine Blk.other (by decide) ?_ | refine ⟨.inl rfl, _, RetOk.ev tabOk Zc, ?_⟩ | fail)
    refine rPV_then (by conv => lhs; cbv) ?_
    rw [show rowB K R V.length l v less = true from allB_t fun i hi => hok i (by omega), hid_eq hA]
set_option maxHeartbeats 2000000 in
theorem refGRight_c (K : List (List Int)) (S : List Int) (h : StK K S) (R V : List Int) (N : List (Int × Int)) (M : List Int) (P Q : List (List Int)) (hr : R.length ≤ 1000000) (hc0 : (⟨V, N, M⟩ : Cl).small) (hP : P.length ≤ 1000000 ∧ ∀ x ∈ P, x.length ≤ 1000000) (hQ : Q.length ≤ 1000000 ∧ ∀ x ∈ Q, x.length ≤ 1000000) :
    PureCalls Try.prog 28 [keyedPV A K S, grP A R V N M P Q] (BP (hid A (rightGr K R V N M P Q))) := by
  have hu := refURight_c hA ⟨V, N, M⟩ hc0 R hr
  have hvs := hc0.v
  simp only at hu hvs
  unfold rightGr
  refine PureCalls.of Try.func28 rfl (by kernel_rfl) rfl ?_
  cases hub : (rightB V R && (⟨V, N, M⟩ : Cl).right) with
  | false =>
    rw [hub, hid_eq hA (α := Bool)] at hu
    rw [Bool.false_and]
    try first | refine AOLg.of [] ?_ | refine QSg.of [] ?_
    repeat' (first | (refine AWp.pass ?_; first | refine AWp.seq ?_ | refine AWp.block ?_ | refine AWp.skip ?_ | refine AWp.regG [] Zc ?_ | refine AWp.cond_t rfl ?_ | refine AWp.cond_f rfl ?_ | (refine AWp.cond rfl ?_ ?_ <;> intro hc <;> (try rw [hc]) <;> ((try simp only [zn] at hc) <;> (try simp (disch := omega) only [zz hA, zb, zy, reduceCtorEq, Bool.false_eq_true, Int.reduceLT, Int.reduceLE, Int.reduceNeg] at hc) <;> (try simp only [zw] at hc)) <;> (try (exfalso; omega))) | refine AWp.exit ?_ | refine AWp.ret ⟨.inr rfl, _, RetOk.ev tabOk Zc, ?_⟩ | refine AWp.drawVG [] rfl (by decide +kernel) Zc ?_) | (refine AOLg.pass ?_; refine AOLg.nx hA tabOk Zc ?_; first | refine NX.done ?_ | refine NX.gt ?_ | refine NX.gf ?_ | (refine NX.gs ?_ ?_ <;> intro hc <;> rw [hc] <;> ((try simp only [zn] at hc) <;> (try simp (disch := omega) only [zz hA, zb, zy, reduceCtorEq, Bool.false_eq_true, Int.reduceLT, Int.reduceLE, Int.reduceNeg] at hc) <;> (try simp only [zw] at hc)) <;> (try (exfalso; omega))) | (refine NX.kC ?_; first | (with_reducible refine NX.call (hu) ?_) | ((first | refine NX.call (hu) ?_)) | fail) | (refine NX.kO ?_; (first | refine NX.callO (hu) (by simp [allEq]) rfl ?_)) | refine NX.k 1 (NX.one Z1 ?_) | refine NX.k 7 (NX.one Z7 ?_) | refine NX.k 9 (NX.one Z9 ?_) | refine NX.k 10 (NX.one Z10 ?_) | refine NX.k 14 (NX.one Z14 ?_) | refine NX.k 18 (NX.one Z18 ?_) | refine NX.raw ?_) | (refine TRg.pass ?_; refine TRg.nx hA tabOk Zc ?_; first | refine TX.done ?_ | refine TX.gt ?_ | refine TX.gf ?_ | (refine TX.gs ?_ ?_ <;> intro hc <;> rw [hc] <;> ((try simp only [zn] at hc) <;> (try simp (disch := omega) only [zz hA, zb, zy, reduceCtorEq, Bool.false_eq_true, Int.reduceLT, Int.reduceLE, Int.reduceNeg] at hc) <;> (try simp only [zw] at hc)) <;> (try (exfalso; omega))) | (refine TX.kC ?_; first | (with_reducible refine TX.call (hu) ?_) | ((first | refine TX.call (hu) ?_)) | fail) | (refine TX.kO ?_; (first | refine TX.callO (hu) (by simp [allEq]) rfl ?_)) | refine TX.k 1 (TX.one Z1 ?_) | refine TX.k 7 (TX.one Z7 ?_) | refine TX.k 9 (TX.one Z9 ?_) | refine TX.k 10 (TX.one Z10 ?_) | refine TX.k 14 (TX.one Z14 ?_) | refine TX.k 18 (TX.one Z18 ?_) | refine TX.raw ?_) | refine Fin3.of Zc (by repeat' (first | exact True.intro | exact rfl | refine And.intro ?_ ?_)) ?_ ?_ | (refine AllO.pass ?_; first | exact AllO.nil | (refine AllO.cons (One.ev hA tabOk ?_) ?_ <;> (first | refine AllO.pass ?_ | ((conv => lhs; cbv); done))) | (refine AllO.cons (One.skipB ?_) ?_ <;> (first | refine AllO.pass ?_ | ((conv => lhs; cbv); done))) | ((with_reducible refine AllO.call Zc (hu) ?_ ?_) <;> (first | refine AllO.pass ?_ | exact rfl | exact Zd)) | refine AllO.consX ZX rfl rfl ?_) | refine Thn.exit ?_ | refine Blk.here ?_ | refine Blk.other (by decide) ?_ | refine ⟨.inl rfl, _, RetOk.ev tabOk Zc, ?_⟩ | fail)
    all_goals first | (exfalso; omega) | (refine rPV_then (by conv => lhs; cbv) ?_; simp only [hid_eq hA]; done) | (refine rPV_then (by conv => lhs; cbv) ?_; rw [hid_eq hA])
  | true =>
    rw [hub, hid_eq hA (α := Bool)] at hu
    rw [Bool.true_and]
    by_cases hC : M.length = 0 ∧ P.length = V.length ∧ Q.length = V.length
    · rw [decide_eq_true hC, Bool.true_and]
      obtain ⟨c1, c2, c3⟩ := hC
      try first | refine AOLg.of [] ?_ | refine QSg.of [] ?_
      repeat' (first | (refine AWp.pass ?_; first | refine AWp.seq ?_ | refine AWp.block ?_ | refine AWp.skip ?_ | refine AWp.regG [] Zc ?_ | refine AWp.cond_t rfl ?_ | refine AWp.cond_f rfl ?_ | (refine AWp.cond rfl ?_ ?_ <;> intro hc <;> (try rw [hc]) <;> ((try simp only [zn] at hc) <;> (try simp (disch := omega) only [zz hA, zb, zy, reduceCtorEq, Bool.false_eq_true, Int.reduceLT, Int.reduceLE, Int.reduceNeg] at hc) <;> (try simp only [zw] at hc)) <;> (try (exfalso; omega))) | refine AWp.exit ?_ | refine AWp.ret ⟨.inr rfl, _, RetOk.ev tabOk Zc, ?_⟩ | refine AWp.drawVG [] rfl (by decide +kernel) Zc ?_) | (refine AOLg.pass ?_; refine AOLg.nx hA tabOk Zc ?_; first | refine NX.done ?_ | refine NX.gt ?_ | refine NX.gf ?_ | (refine NX.gs ?_ ?_ <;> intro hc <;> rw [hc] <;> ((try simp only [zn] at hc) <;> (try simp (disch := omega) only [zz hA, zb, zy, reduceCtorEq, Bool.false_eq_true, Int.reduceLT, Int.reduceLE, Int.reduceNeg] at hc) <;> (try simp only [zw] at hc)) <;> (try (exfalso; omega))) | (refine NX.kC ?_; first | (with_reducible refine NX.call (hu) ?_) | ((first | refine NX.call (hu) ?_)) | fail) | (refine NX.kO ?_; (first | refine NX.callO (hu) (by simp [allEq]) rfl ?_)) | refine NX.k 1 (NX.one Z1 ?_) | refine NX.k 7 (NX.one Z7 ?_) | refine NX.k 9 (NX.one Z9 ?_) | refine NX.k 10 (NX.one Z10 ?_) | refine NX.k 14 (NX.one Z14 ?_) | refine NX.k 18 (NX.one Z18 ?_) | refine NX.raw ?_) | (refine TRg.pass ?_; refine TRg.nx hA tabOk Zc ?_; first | refine TX.done ?_ | refine TX.gt ?_ | refine TX.gf ?_ | (refine TX.gs ?_ ?_ <;> intro hc <;> rw [hc] <;> ((try simp only [zn] at hc) <;> (try simp (disch := omega) only [zz hA, zb, zy, reduceCtorEq, Bool.false_eq_true, Int.reduceLT, Int.reduceLE, Int.reduceNeg] at hc) <;> (try simp only [zw] at hc)) <;> (try (exfalso; omega))) | (refine TX.kC ?_; first | (with_reducible refine TX.call (hu) ?_) | ((first | refine TX.call (hu) ?_)) | fail) | (refine TX.kO ?_; (first | refine TX.callO (hu) (by simp [allEq]) rfl ?_)) | refine TX.k 1 (TX.one Z1 ?_) | refine TX.k 7 (TX.one Z7 ?_) | refine TX.k 9 (TX.one Z9 ?_) | refine TX.k 10 (TX.one Z10 ?_) | refine TX.k 14 (TX.one Z14 ?_) | refine TX.k 18 (TX.one Z18 ?_) | refine TX.raw ?_) | refine Fin3.of Zc (by repeat' (first | exact True.intro | exact rfl | refine And.intro ?_ ?_)) ?_ ?_ | (refine AllO.pass ?_; first | exact AllO.nil | (refine AllO.cons (One.ev hA tabOk ?_) ?_ <;> (first | refine AllO.pass ?_ | ((conv => lhs; cbv); done))) | (refine AllO.cons (One.skipB ?_) ?_ <;> (first | refine AllO.pass ?_ | ((conv => lhs; cbv); done))) | ((with_reducible refine AllO.call Zc (hu) ?_ ?_) <;> (first | refine AllO.pass ?_ | exact rfl | exact Zd)) | refine AllO.consX ZX rfl rfl ?_) | refine Thn.exit ?_ | refine Blk.here ?_ | refine Blk.other (by decide) ?_ | refine ⟨.inl rfl, _, RetOk.ev tabOk Zc, ?_⟩ | fail)
      all_goals try (exfalso; omega)
      refine AWp.loopU (fun k : Nat => [(6, .ic (.lit (.int .i64 (hid A (cN k)))))]) (fun _ => _) (fun k => V.length - k) (fun k => k ≤ V.length ∧ ∀ i, i < k → nodeB K R V P Q i = true) 0 (by conv => lhs; cbv) ⟨Nat.zero_le _, by simp⟩ (by ((repeat' (first | exact subE.nil | refine subE.cons rfl ?_ | refine subE.int rfl ?_ ?_ | refine subE.bool rfl ?_ ?_ | refine subE.str rfl ?_ ?_ | refine subE.sl rfl ?_ ?_))) <;> simp [hA, real, hid, cN]) rfl ?_
      rintro k ⟨hk, hok⟩
      by_cases hlt : k < V.length
      · have hpm : P.getD k default ∈ P := by rw [List.getD_eq_getElem?_getD, List.getElem?_eq_getElem (by omega)]; exact List.getElem_mem _
        have hqm : Q.getD k default ∈ Q := by rw [List.getD_eq_getElem?_getD, List.getElem?_eq_getElem (by omega)]; exact List.getElem_mem _
        have hp := refRow_c hA K S h R V N M P Q hr (P.getD k default) (hP.2 _ hpm) k true
        have hq := refRow_c hA K S h R V N M P Q hr (Q.getD k default) (hQ.2 _ hqm) k false
        have hno : nodeB K R V P Q k = false → allB V.length (nodeB K R V P Q) = false := fun h => allB_f hlt h
        have hnb : nodeB K R V P Q k = (rowB K R V.length (P.getD k default) k true && (rowB K R V.length (Q.getD k default) k false && (decide (V.getD k default = (k : Int)) || decide ((P.getD k default).length = 0 ∧ (Q.getD k default).length = 0)))) := rfl
        have hok2 : nodeB K R V P Q k = true → ∀ i, i < k + 1 → nodeB K R V P Q i = true := fun h i hi => by
          rcases Nat.lt_or_ge i k with h1 | h1
          · exact hok i h1
          · obtain rfl : i = k := by omega
            exact h
        generalize nodeB K R V P Q k = nb at *
        generalize rowB K R V.length (P.getD k default) k true = b1 at *
        generalize rowB K R V.length (Q.getD k default) k false = b2 at *
        have hp2 : ∀ q z, q = P.getD k default → z = (k : Int) → PureCalls Try.prog 61 [keyedPV A K S, grP A R V N M P Q, intsP A q, IP z, BP true] (BP (hid A b1)) := by rintro q z rfl rfl; exact hp
        have hq2 : ∀ q z, q = Q.getD k default → z = (k : Int) → PureCalls Try.prog 61 [keyedPV A K S, grP A R V N M P Q, intsP A q, IP z, BP false] (BP (hid A b2)) := by rintro q z rfl rfl; exact hq
        clear hp hq
        have hn1 : b1 = false → nb = false := fun h => by rw [hnb, h]; rfl
        have hn2 : b2 = false → nb = false := fun h => by rw [hnb, h]; simp
        have hn3 : ¬ V.getD k default = (k : Int) → 0 < (P.getD k default).length ∨ 0 < (Q.getD k default).length → nb = false := fun h1 h2 => by
          rw [hnb, decide_eq_false h1, decide_eq_false (show ¬((P.getD k default).length = 0 ∧ (Q.getD k default).length = 0) by omega)]; simp
        have hn4 : b1 = true → b2 = true → V.getD k default = (k : Int) ∨ ((P.getD k default).length = 0 ∧ (Q.getD k default).length = 0) → nb = true := fun h1 h2 h3 => by
          rw [hnb, h1, h2]; simpa using h3
        clear hnb
        try first | refine AOLg.of [] ?_ | refine QSg.of [] ?_
        repeat' (first | (refine AWp.pass ?_; first | refine AWp.seq ?_ | refine AWp.block ?_ | refine AWp.skip ?_ | refine AWp.regG [] Zc ?_ | refine AWp.cond_t rfl ?_ | refine AWp.cond_f rfl ?_ | (refine AWp.cond rfl ?_ ?_ <;> intro hc <;> (try rw [hc]) <;> ((try simp only [zn] at hc) <;> (try simp (disch := omega) only [zz hA, zb, zy, reduceCtorEq, Bool.false_eq_true, Int.reduceLT, Int.reduceLE, Int.reduceNeg] at hc) <;> (try simp only [zw] at hc)) <;> (try (exfalso; omega))) | refine AWp.exit ?_ | refine AWp.ret ⟨.inr rfl, _, RetOk.ev tabOk Zc, ?_⟩ | refine AWp.drawVG [] rfl (by decide +kernel) Zc ?_) | (refine AOLg.pass ?_; refine AOLg.nx hA tabOk Zc ?_; first | refine NX.done ?_ | refine NX.gt ?_ | refine NX.gf ?_ | (refine NX.gs ?_ ?_ <;> intro hc <;> rw [hc] <;> ((try simp only [zn] at hc) <;> (try simp (disch := omega) only [zz hA, zb, zy, reduceCtorEq, Bool.false_eq_true, Int.reduceLT, Int.reduceLE, Int.reduceNeg] at hc) <;> (try simp only [zw] at hc)) <;> (try (exfalso; omega))) | (refine NX.kC ?_; first | (with_reducible refine NX.call (hp2 _ _ (by simp only [hid_eq hA, cN, Int.toNat_natCast]) (by simp only [hid_eq hA, cN])) ?_) | (with_reducible refine NX.call (hq2 _ _ (by simp only [hid_eq hA, cN, Int.toNat_natCast]) (by simp only [hid_eq hA, cN])) ?_) | ((first | refine NX.call (hp2 _ _ (by simp only [hid_eq hA, cN, Int.toNat_natCast]) (by simp only [hid_eq hA, cN])) ?_ | refine NX.call (hq2 _ _ (by simp only [hid_eq hA, cN, Int.toNat_natCast]) (by simp only [hid_eq hA, cN])) ?_)) | fail) | (refine NX.kO ?_; (first | refine NX.callO (hp2 _ _ (by simp only [hid_eq hA, cN, Int.toNat_natCast]) (by simp only [hid_eq hA, cN])) (by simp [allEq]) rfl ?_ | refine NX.callO (hq2 _ _ (by simp only [hid_eq hA, cN, Int.toNat_natCast]) (by simp only [hid_eq hA, cN])) (by simp [allEq]) rfl ?_)) | refine NX.k 1 (NX.one Z1 ?_) | refine NX.k 7 (NX.one Z7 ?_) | refine NX.k 9 (NX.one Z9 ?_) | refine NX.k 10 (NX.one Z10 ?_) | refine NX.k 14 (NX.one Z14 ?_) | refine NX.k 18 (NX.one Z18 ?_) | refine NX.raw ?_) | (refine TRg.pass ?_; refine TRg.nx hA tabOk Zc ?_; first | refine TX.done ?_ | refine TX.gt ?_ | refine TX.gf ?_ | (refine TX.gs ?_ ?_ <;> intro hc <;> rw [hc] <;> ((try simp only [zn] at hc) <;> (try simp (disch := omega) only [zz hA, zb, zy, reduceCtorEq, Bool.false_eq_true, Int.reduceLT, Int.reduceLE, Int.reduceNeg] at hc) <;> (try simp only [zw] at hc)) <;> (try (exfalso; omega))) | (refine TX.kC ?_; first | (with_reducible refine TX.call (hp2 _ _ (by simp only [hid_eq hA, cN, Int.toNat_natCast]) (by simp only [hid_eq hA, cN])) ?_) | (with_reducible refine TX.call (hq2 _ _ (by simp only [hid_eq hA, cN, Int.toNat_natCast]) (by simp only [hid_eq hA, cN])) ?_) | ((first | refine TX.call (hp2 _ _ (by simp only [hid_eq hA, cN, Int.toNat_natCast]) (by simp only [hid_eq hA, cN])) ?_ | refine TX.call (hq2 _ _ (by simp only [hid_eq hA, cN, Int.toNat_natCast]) (by simp only [hid_eq hA, cN])) ?_)) | fail) | (refine TX.kO ?_; (first | refine TX.callO (hp2 _ _ (by simp only [hid_eq hA, cN, Int.toNat_natCast]) (by simp only [hid_eq hA, cN])) (by simp [allEq]) rfl ?_ | refine TX.callO (hq2 _ _ (by simp only [hid_eq hA, cN, Int.toNat_natCast]) (by simp only [hid_eq hA, cN])) (by simp [allEq]) rfl ?_)) | refine TX.k 1 (TX.one Z1 ?_) | refine TX.k 7 (TX.one Z7 ?_) | refine TX.k 9 (TX.one Z9 ?_) | refine TX.k 10 (TX.one Z10 ?_) | refine TX.k 14 (TX.one Z14 ?_) | refine TX.k 18 (TX.one Z18 ?_) | refine TX.raw ?_) | refine Fin3.of Zc (by repeat' (first | exact True.intro | exact rfl | refine And.intro ?_ ?_)) ?_ ?_ | (refine AllO.pass ?_; first | exact AllO.nil | (refine AllO.cons (One.ev hA tabOk ?_) ?_ <;> (first | refine AllO.pass ?_ | ((conv => lhs; cbv); done))) | (refine AllO.cons (One.skipB ?_) ?_ <;> (first | refine AllO.pass ?_ | ((conv => lhs; cbv); done))) | ((with_reducible refine AllO.call Zc (hp2 _ _ (by simp only [hid_eq hA, cN, Int.toNat_natCast]) (by simp only [hid_eq hA, cN])) ?_ ?_) <;> (first | refine AllO.pass ?_ | exact rfl | exact Zd)) | ((with_reducible refine AllO.call Zc (hq2 _ _ (by simp only [hid_eq hA, cN, Int.toNat_natCast]) (by simp only [hid_eq hA, cN])) ?_ ?_) <;> (first | refine AllO.pass ?_ | exact rfl | exact Zd)) | refine AllO.consX ZX rfl rfl ?_) | refine Thn.exit ?_ | refine Blk.here ?_ | refine Blk.other (by decide) ?_ | refine ⟨.inl rfl, _, RetOk.ev tabOk Zc, ?_⟩ | fail)
        · refine rPV_then (by conv => lhs; cbv) ?_
          rw [hno (hn1 hc), hid_eq hA]
        · refine rPV_then (by conv => lhs; cbv) ?_
          rw [hno (hn2 hc), hid_eq hA]
        · refine rPV_then (by conv => lhs; cbv) ?_
          rw [hno (hn3 (by assumption) (.inl (by omega))), hid_eq hA]
        · refine rPV_then (by conv => lhs; cbv) ?_
          rw [hno (hn3 (by assumption) (.inr (by omega))), hid_eq hA]
        · refine ⟨k + 1, ?_, ?_, rfl, rfl, ?_, Zk⟩ <;> (try omega)
          repeat' (first | exact subE.nil | refine subE.cons rfl ?_ | refine subE.int rfl ?_ ?_ | refine subE.bool rfl ?_ ?_ | refine subE.str rfl ?_ ?_ | refine subE.sl rfl ?_ ?_)
          · exact ⟨by omega, hok2 (hn4 (by assumption) (by assumption) (.inr (by omega)))⟩
          · exact Zd
        · refine ⟨k + 1, ?_, ?_, rfl, rfl, ?_, Zk⟩ <;> (try omega)
          repeat' (first | exact subE.nil | refine subE.cons rfl ?_ | refine subE.int rfl ?_ ?_ | refine subE.bool rfl ?_ ?_ | refine subE.str rfl ?_ ?_ | refine subE.sl rfl ?_ ?_)
          · exact ⟨by omega, hok2 (hn4 (by assumption) (by assumption) (.inl (by assumption)))⟩
          · exact Zd
      · try first | refine AOLg.of [] ?_ | refine QSg.of [] ?_
        repeat' (first | (refine AWp.pass ?_; first | refine AWp.seq ?_ | refine AWp.block ?_ | refine AWp.skip ?_ | refine AWp.regG [] Zc ?_ | refine AWp.cond_t rfl ?_ | refine AWp.cond_f rfl ?_ | (refine AWp.cond rfl ?_ ?_ <;> intro hc <;> (try rw [hc]) <;> ((try simp only [zn] at hc) <;> (try simp (disch := omega) only [zz hA, zb, zy, reduceCtorEq, Bool.false_eq_true, Int.reduceLT, Int.reduceLE, Int.reduceNeg] at hc) <;> (try simp only [zw] at hc)) <;> (try (exfalso; omega))) | refine AWp.exit ?_ | refine AWp.ret ⟨.inr rfl, _, RetOk.ev tabOk Zc, ?_⟩ | refine AWp.drawVG [] rfl (by decide +kernel) Zc ?_) | (refine AOLg.pass ?_; refine AOLg.nx hA tabOk Zc ?_; first | refine NX.done ?_ | refine NX.gt ?_ | refine NX.gf ?_ | (refine NX.gs ?_ ?_ <;> intro hc <;> rw [hc] <;> ((try simp only [zn] at hc) <;> (try simp (disch := omega) only [zz hA, zb, zy, reduceCtorEq, Bool.false_eq_true, Int.reduceLT, Int.reduceLE, Int.reduceNeg] at hc) <;> (try simp only [zw] at hc)) <;> (try (exfalso; omega))) | refine NX.k 1 (NX.one Z1 ?_) | refine NX.k 7 (NX.one Z7 ?_) | refine NX.k 9 (NX.one Z9 ?_) | refine NX.k 10 (NX.one Z10 ?_) | refine NX.k 14 (NX.one Z14 ?_) | refine NX.k 18 (NX.one Z18 ?_) | refine NX.raw ?_) | (refine TRg.pass ?_; refine TRg.nx hA tabOk Zc ?_; first | refine TX.done ?_ | refine TX.gt ?_ | refine TX.gf ?_ | (refine TX.gs ?_ ?_ <;> intro hc <;> rw [hc] <;> ((try simp only [zn] at hc) <;> (try simp (disch := omega) only [zz hA, zb, zy, reduceCtorEq, Bool.false_eq_true, Int.reduceLT, Int.reduceLE, Int.reduceNeg] at hc) <;> (try simp only [zw] at hc)) <;> (try (exfalso; omega))) | refine TX.k 1 (TX.one Z1 ?_) | refine TX.k 7 (TX.one Z7 ?_) | refine TX.k 9 (TX.one Z9 ?_) | refine TX.k 10 (TX.one Z10 ?_) | refine TX.k 14 (TX.one Z14 ?_) | refine TX.k 18 (TX.one Z18 ?_) | refine TX.raw ?_) | refine Fin3.of Zc (by repeat' (first | exact True.intro | exact rfl | refine And.intro ?_ ?_)) ?_ ?_ | (refine AllO.pass ?_; first | exact AllO.nil | (refine AllO.cons (One.ev hA tabOk ?_) ?_ <;> (first | refine AllO.pass ?_ | ((conv => lhs; cbv); done))) | (refine AllO.cons (One.skipB ?_) ?_ <;> (first | refine AllO.pass ?_ | ((conv => lhs; cbv); done))) | refine AllO.consX ZX rfl rfl ?_) | refine Thn.exit ?_ | refine Blk.here ?_ | refine Blk.other (by decide) ?_ | refine ⟨.inl rfl, _, RetOk.ev tabOk Zc, ?_⟩ | fail)
        refine rPV_then (by conv => lhs; cbv) ?_
        rw [show allB V.length (nodeB K R V P Q) = true from allB_t fun i hi => hok i (by omega), hid_eq hA]
    · rw [decide_eq_false hC, Bool.false_and]
      try first | refine AOLg.of [] ?_ | refine QSg.of [] ?_
      repeat' (first | (refine AWp.pass ?_; first | refine AWp.seq ?_ | refine AWp.block ?_ | refine AWp.skip ?_ | refine AWp.regG [] Zc ?_ | refine AWp.cond_t rfl ?_ | refine AWp.cond_f rfl ?_ | (refine AWp.cond rfl ?_ ?_ <;> intro hc <;> (try rw [hc]) <;> ((try simp only [zn] at hc) <;> (try simp (disch := omega) only [zz hA, zb, zy, reduceCtorEq, Bool.false_eq_true, Int.reduceLT, Int.reduceLE, Int.reduceNeg] at hc) <;> (try simp only [zw] at hc)) <;> (try (exfalso; omega))) | refine AWp.exit ?_ | refine AWp.ret ⟨.inr rfl, _, RetOk.ev tabOk Zc, ?_⟩ | refine AWp.drawVG [] rfl (by decide +kernel) Zc ?_) | (refine AOLg.pass ?_; refine AOLg.nx hA tabOk Zc ?_; first | refine NX.done ?_ | refine NX.gt ?_ | refine NX.gf ?_ | (refine NX.gs ?_ ?_ <;> intro hc <;> rw [hc] <;> ((try simp only [zn] at hc) <;> (try simp (disch := omega) only [zz hA, zb, zy, reduceCtorEq, Bool.false_eq_true, Int.reduceLT, Int.reduceLE, Int.reduceNeg] at hc) <;> (try simp only [zw] at hc)) <;> (try (exfalso; omega))) | (refine NX.kC ?_; first | (with_reducible refine NX.call (hu) ?_) | ((first | refine NX.call (hu) ?_)) | fail) | (refine NX.kO ?_; (first | refine NX.callO (hu) (by simp [allEq]) rfl ?_)) | refine NX.k 1 (NX.one Z1 ?_) | refine NX.k 7 (NX.one Z7 ?_) | refine NX.k 9 (NX.one Z9 ?_) | refine NX.k 10 (NX.one Z10 ?_) | refine NX.k 14 (NX.one Z14 ?_) | refine NX.k 18 (NX.one Z18 ?_) | refine NX.raw ?_) | (refine TRg.pass ?_; refine TRg.nx hA tabOk Zc ?_; first | refine TX.done ?_ | refine TX.gt ?_ | refine TX.gf ?_ | (refine TX.gs ?_ ?_ <;> intro hc <;> rw [hc] <;> ((try simp only [zn] at hc) <;> (try simp (disch := omega) only [zz hA, zb, zy, reduceCtorEq, Bool.false_eq_true, Int.reduceLT, Int.reduceLE, Int.reduceNeg] at hc) <;> (try simp only [zw] at hc)) <;> (try (exfalso; omega))) | (refine TX.kC ?_; first | (with_reducible refine TX.call (hu) ?_) | ((first | refine TX.call (hu) ?_)) | fail) | (refine TX.kO ?_; (first | refine TX.callO (hu) (by simp [allEq]) rfl ?_)) | refine TX.k 1 (TX.one Z1 ?_) | refine TX.k 7 (TX.one Z7 ?_) | refine TX.k 9 (TX.one Z9 ?_) | refine TX.k 10 (TX.one Z10 ?_) | refine TX.k 14 (TX.one Z14 ?_) | refine TX.k 18 (TX.one Z18 ?_) | refine TX.raw ?_) | refine Fin3.of Zc (by repeat' (first | exact True.intro | exact rfl | refine And.intro ?_ ?_)) ?_ ?_ | (refine AllO.pass ?_; first | exact AllO.nil | (refine AllO.cons (One.ev hA tabOk ?_) ?_ <;> (first | refine AllO.pass ?_ | ((conv => lhs; cbv); done))) | (refine AllO.cons (One.skipB ?_) ?_ <;> (first | refine AllO.pass ?_ | ((conv => lhs; cbv); done))) | ((with_reducible refine AllO.call Zc (hu) ?_ ?_) <;> (first | refine AllO.pass ?_ | exact rfl | exact Zd)) | refine AllO.consX ZX rfl rfl ?_) | refine Thn.exit ?_ | refine Blk.here ?_ | refine Blk.other (by decide) ?_ | refine ⟨.inl rfl, _, RetOk.ev tabOk Zc, ?_⟩ | fail)
      all_goals first | (exfalso; omega) | (refine rPV_then (by conv => lhs; cbv) ?_; simp only [hid_eq hA]; done) | (refine rPV_then (by conv => lhs; cbv) ?_; rw [hid_eq hA])
end Go.Proofs.Ytkkjlmcnfoncdaa.Aw

namespace Go.Proofs.Ytkkjlmcnfoncdaa.Aw
open Go Go.RowKit
set_option maxRecDepth 10000
attribute [local irreducible] AWp AOL QS One AOLg QSg NX QX TRg TX AllO Fin3
def sumL (P : List (List Int)) : Nat → Nat
  | 0 => 0
  | k + 1 => sumL P k + (P.getD k default).length
theorem sumL_mono (P : List (List Int)) {j n : Nat} (h : j ≤ n) : sumL P j ≤ sumL P n := by
  induction n with
  | zero => obtain rfl : j = 0 := by omega
            exact Nat.le_refl _
  | succ n ih =>
    rcases Nat.lt_or_ge j (n + 1) with h1 | h1
    · have := ih (by omega)
      rw [show sumL P (n + 1) = sumL P n + (P.getD n default).length from rfl]; omega
    · obtain rfl : j = n + 1 := by omega
      exact Nat.le_refl _
theorem sumL_mem (P : List (List Int)) {x : List Int} (h : x ∈ P) : x.length ≤ sumL P P.length := by
  obtain ⟨i, hi, e⟩ := List.mem_iff_getElem.1 h
  have h1 := sumL_mono P (show i + 1 ≤ P.length by omega)
  rw [show sumL P (i + 1) = sumL P i + (P.getD i default).length from rfl, List.getD_eq_getElem?_getD, List.getElem?_eq_getElem hi, Option.getD_some, e] at h1
  omega
def baseG (R V : List Int) (N : List (Int × Int)) (M : List Int) (P Q : List (List Int)) : Nat := R.length + V.length + N.length + M.length + P.length + Q.length
def fewGr (R V : List Int) (N : List (Int × Int)) (M : List Int) (P Q : List (List Int)) : Bool := decide (baseG R V N M P Q + sumL P P.length + sumL Q Q.length ≤ 1000)
structure FitGr (R V : List Int) (N : List (Int × Int)) (M : List Int) (P Q : List (List Int)) : Prop where
  r : R.length ≤ 140737488351232
  v : V.length ≤ 140737488351232
  n : N.length ≤ 140737488351232
  m : M.length ≤ 140737488351232
  p : P.length ≤ 140737488351232
  q : Q.length ≤ 140737488351232
  ps : ∀ x ∈ P, x.length ≤ 140737488351232
  qs : ∀ x ∈ Q, x.length ≤ 140737488351232
variable {A : Ar} (hA : A = real)
include hA
set_option maxHeartbeats 2000000 in
theorem refGFew_c (R V : List Int) (N : List (Int × Int)) (M : List Int) (P Q : List (List Int)) (hf : FitGr R V N M P Q) :
    PureCalls Try.prog 37 [grP A R V N M P Q] (BP (hid A (fewGr R V N M P Q))) := by
  obtain ⟨h1, h2, h3, h4, h5, h6, h7, h8⟩ := hf
  refine PureCalls.of Try.func37 rfl (by kernel_rfl) rfl ?_
  unfold fewGr
  obtain ⟨B, hB⟩ : ∃ B, B = baseG R V N M P Q := ⟨_, rfl⟩
  rw [← hB]
  unfold baseG at hB
  have hpm : ∀ i, i < P.length → (P.getD i default).length ≤ 140737488351232 := fun i hi => h7 _ (by rw [List.getD_eq_getElem?_getD, List.getElem?_eq_getElem hi]; exact List.getElem_mem _)
  have hqm : ∀ i, i < Q.length → (Q.getD i default).length ≤ 140737488351232 := fun i hi => h8 _ (by rw [List.getD_eq_getElem?_getD, List.getElem?_eq_getElem hi]; exact List.getElem_mem _)
  clear h7 h8
  try first | refine AOLg.of [] ?_ | refine QSg.of [] ?_
  repeat' (first | (refine AWp.pass ?_; first | refine AWp.seq ?_ | refine AWp.block ?_ | refine AWp.skip ?_ | refine AWp.regG [] Zc ?_ | refine AWp.cond_t rfl ?_ | refine AWp.cond_f rfl ?_ | (refine AWp.cond rfl ?_ ?_ <;> intro hc <;> (try rw [hc]) <;> ((try simp only [zn] at hc) <;> (try simp (disch := omega) only [zz hA, zb, zy, reduceCtorEq, Bool.false_eq_true, Int.reduceLT, Int.reduceLE, Int.reduceNeg] at hc) <;> (try simp only [zw] at hc)) <;> (try (exfalso; omega))) | refine AWp.exit ?_ | refine AWp.ret ⟨.inr rfl, _, RetOk.ev tabOk Zc, ?_⟩) | (refine AOLg.pass ?_; refine AOLg.nx hA tabOk Zc ?_; first | refine NX.done ?_ | refine NX.gt ?_ | refine NX.gf ?_ | (refine NX.gs ?_ ?_ <;> intro hc <;> rw [hc] <;> ((try simp only [zn] at hc) <;> (try simp (disch := omega) only [zz hA, zb, zy, reduceCtorEq, Bool.false_eq_true, Int.reduceLT, Int.reduceLE, Int.reduceNeg] at hc) <;> (try simp only [zw] at hc)) <;> (try (exfalso; omega))) | refine NX.k 1 (NX.one Z1 ?_) | refine NX.k 7 (NX.one Z7 ?_) | refine NX.k 10 (NX.one Z10 ?_) | refine NX.k 14 (NX.one Z14 ?_) | refine NX.k 18 (NX.one Z18 ?_) | refine NX.raw ?_) | refine Thn.exit ?_ | refine Blk.here ?_ | refine Blk.other (by decide) ?_ | refine ⟨.inl rfl, _, RetOk.ev tabOk Zc, ?_⟩ | fail)
  refine AWp.loopU (fun i : Nat => [(3, .ic (.lit (.int .i64 (hid A (cN (B + sumL P i)))))), (4, .ic (.lit (.int .i64 (hid A (cN i)))))]) (fun _ => _) (fun i => P.length - i) (fun i => i ≤ P.length ∧ B + sumL P i ≤ 10000000000000000) 0 (by conv => lhs; cbv) ⟨Nat.zero_le _, by simp only [sumL]; omega⟩ (by ((repeat' (first | exact subE.nil | refine subE.cons rfl ?_ | refine subE.int rfl ?_ ?_ | refine subE.bool rfl ?_ ?_ | refine subE.str rfl ?_ ?_ | refine subE.sl rfl ?_ ?_))) <;> first | (exact Zd) | (simp only [sumL]; exact Zd)) rfl ?_
  rintro i ⟨hi, hb⟩
  have hmi := sumL_mono P hi
  by_cases hlt : i < P.length ∧ B + sumL P i ≤ 1000
  · have hr := hpm i hlt.1
    have es : sumL P (i + 1) = sumL P i + (P.getD i default).length := rfl
    generalize hs2 : sumL P (i + 1) = s2 at *
    generalize sumL P i = s1 at *
    try first | refine AOLg.of [] ?_ | refine QSg.of [] ?_
    repeat' (first | (refine AWp.pass ?_; first | refine AWp.seq ?_ | refine AWp.block ?_ | refine AWp.skip ?_ | refine AWp.regG [] Zc ?_ | refine AWp.cond_t rfl ?_ | refine AWp.cond_f rfl ?_ | (refine AWp.cond rfl ?_ ?_ <;> intro hc <;> (try rw [hc]) <;> ((try simp only [zn] at hc) <;> (try simp (disch := omega) only [zz hA, zb, zy, reduceCtorEq, Bool.false_eq_true, Int.reduceLT, Int.reduceLE, Int.reduceNeg] at hc) <;> (try simp only [zw] at hc)) <;> (try (exfalso; omega))) | refine AWp.exit ?_ | refine AWp.ret ⟨.inr rfl, _, RetOk.ev tabOk Zc, ?_⟩) | (refine AOLg.pass ?_; refine AOLg.nx hA tabOk Zc ?_; first | refine NX.done ?_ | refine NX.gt ?_ | refine NX.gf ?_ | (refine NX.gs ?_ ?_ <;> intro hc <;> rw [hc] <;> ((try simp only [zn] at hc) <;> (try simp (disch := omega) only [zz hA, zb, zy, reduceCtorEq, Bool.false_eq_true, Int.reduceLT, Int.reduceLE, Int.reduceNeg] at hc) <;> (try simp only [zw] at hc)) <;> (try (exfalso; omega))) | refine NX.k 1 (NX.one Z1 ?_) | refine NX.k 7 (NX.one Z7 ?_) | refine NX.k 10 (NX.one Z10 ?_) | refine NX.k 14 (NX.one Z14 ?_) | refine NX.k 18 (NX.one Z18 ?_) | refine NX.raw ?_) | refine Thn.exit ?_ | refine Blk.here ?_ | refine Blk.other (by decide) ?_ | refine ⟨.inl rfl, _, RetOk.ev tabOk Zc, ?_⟩ | fail)
    all_goals try (exfalso; omega)
    refine ⟨i + 1, ?_, ?_, rfl, rfl, ?_, Zk⟩ <;> (try omega)
    repeat' (first | exact subE.nil | refine subE.cons rfl ?_ | refine subE.int rfl ?_ ?_ | refine subE.bool rfl ?_ ?_ | refine subE.str rfl ?_ ?_ | refine subE.sl rfl ?_ ?_)
    all_goals first | (rw [hs2]; omega) | (rw [hs2]; exact Zd) | exact Zd
  · try first | refine AOLg.of [] ?_ | refine QSg.of [] ?_
    repeat' (first | (refine AWp.pass ?_; first | refine AWp.seq ?_ | refine AWp.block ?_ | refine AWp.skip ?_ | refine AWp.regG [] Zc ?_ | refine AWp.cond_t rfl ?_ | refine AWp.cond_f rfl ?_ | (refine AWp.cond rfl ?_ ?_ <;> intro hc <;> (try rw [hc]) <;> ((try simp only [zn] at hc) <;> (try simp (disch := omega) only [zz hA, zb, zy, reduceCtorEq, Bool.false_eq_true, Int.reduceLT, Int.reduceLE, Int.reduceNeg] at hc) <;> (try simp only [zw] at hc)) <;> (try (exfalso; omega))) | refine AWp.exit ?_ | refine AWp.ret ⟨.inr rfl, _, RetOk.ev tabOk Zc, ?_⟩) | (refine AOLg.pass ?_; refine AOLg.nx hA tabOk Zc ?_; first | refine NX.done ?_ | refine NX.gt ?_ | refine NX.gf ?_ | (refine NX.gs ?_ ?_ <;> intro hc <;> rw [hc] <;> ((try simp only [zn] at hc) <;> (try simp (disch := omega) only [zz hA, zb, zy, reduceCtorEq, Bool.false_eq_true, Int.reduceLT, Int.reduceLE, Int.reduceNeg] at hc) <;> (try simp only [zw] at hc)) <;> (try (exfalso; omega))) | refine NX.k 1 (NX.one Z1 ?_) | refine NX.k 7 (NX.one Z7 ?_) | refine NX.k 10 (NX.one Z10 ?_) | refine NX.k 14 (NX.one Z14 ?_) | refine NX.k 18 (NX.one Z18 ?_) | refine NX.raw ?_) | refine Thn.exit ?_ | refine Blk.here ?_ | refine Blk.other (by decide) ?_ | refine ⟨.inl rfl, _, RetOk.ev tabOk Zc, ?_⟩ | fail)
    all_goals try (exfalso; omega)
    all_goals
      have hex : i = P.length ∨ 1000 < B + sumL P i := by omega
      clear hpm hlt hc
      refine AWp.loopU (fun j : Nat => [(3, .ic (.lit (.int .i64 (hid A (cN (B + sumL P i + sumL Q j)))))), (5, .ic (.lit (.int .i64 (hid A (cN j)))))]) (fun _ => _) (fun j => Q.length - j) (fun j => j ≤ Q.length ∧ B + sumL P i + sumL Q j ≤ 20000000000000000) 0 (by conv => lhs; cbv) ⟨Nat.zero_le _, by simp only [sumL]; omega⟩ (by ((repeat' (first | exact subE.nil | refine subE.cons rfl ?_ | refine subE.int rfl ?_ ?_ | refine subE.bool rfl ?_ ?_ | refine subE.str rfl ?_ ?_ | refine subE.sl rfl ?_ ?_))) <;> first | (exact Zd) | (simp only [sumL]; exact Zd)) rfl ?_
      rintro j ⟨hj, hb2⟩
      have hmj := sumL_mono Q hj
      by_cases hlt2 : j < Q.length ∧ B + sumL P i + sumL Q j ≤ 1000
      · have hr2 := hqm j hlt2.1
        have es2 : sumL Q (j + 1) = sumL Q j + (Q.getD j default).length := rfl
        generalize hs4 : sumL Q (j + 1) = s4 at *
        generalize sumL Q j = s3 at *
        try first | refine AOLg.of [] ?_ | refine QSg.of [] ?_
        repeat' (first | (refine AWp.pass ?_; first | refine AWp.seq ?_ | refine AWp.block ?_ | refine AWp.skip ?_ | refine AWp.regG [] Zc ?_ | refine AWp.cond_t rfl ?_ | refine AWp.cond_f rfl ?_ | (refine AWp.cond rfl ?_ ?_ <;> intro hc <;> (try rw [hc]) <;> ((try simp only [zn] at hc) <;> (try simp (disch := omega) only [zz hA, zb, zy, reduceCtorEq, Bool.false_eq_true, Int.reduceLT, Int.reduceLE, Int.reduceNeg] at hc) <;> (try simp only [zw] at hc)) <;> (try (exfalso; omega))) | refine AWp.exit ?_ | refine AWp.ret ⟨.inr rfl, _, RetOk.ev tabOk Zc, ?_⟩) | (refine AOLg.pass ?_; refine AOLg.nx hA tabOk Zc ?_; first | refine NX.done ?_ | refine NX.gt ?_ | refine NX.gf ?_ | (refine NX.gs ?_ ?_ <;> intro hc <;> rw [hc] <;> ((try simp only [zn] at hc) <;> (try simp (disch := omega) only [zz hA, zb, zy, reduceCtorEq, Bool.false_eq_true, Int.reduceLT, Int.reduceLE, Int.reduceNeg] at hc) <;> (try simp only [zw] at hc)) <;> (try (exfalso; omega))) | refine NX.k 1 (NX.one Z1 ?_) | refine NX.k 7 (NX.one Z7 ?_) | refine NX.k 10 (NX.one Z10 ?_) | refine NX.k 14 (NX.one Z14 ?_) | refine NX.k 18 (NX.one Z18 ?_) | refine NX.raw ?_) | refine Thn.exit ?_ | refine Blk.here ?_ | refine Blk.other (by decide) ?_ | refine ⟨.inl rfl, _, RetOk.ev tabOk Zc, ?_⟩ | fail)
        all_goals try (exfalso; omega)
        all_goals
          refine ⟨j + 1, ?_, ?_, rfl, rfl, ?_, Zk⟩ <;> (try omega)
          repeat' (first | exact subE.nil | refine subE.cons rfl ?_ | refine subE.int rfl ?_ ?_ | refine subE.bool rfl ?_ ?_ | refine subE.str rfl ?_ ?_ | refine subE.sl rfl ?_ ?_)
          all_goals first | (rw [hs4]; omega) | (rw [hs4]; exact Zd) | exact Zd
      · have hex2 : j = Q.length ∨ 1000 < B + sumL P i + sumL Q j := by omega
        have hfin : (B + sumL P i + sumL Q j ≤ 1000) ↔ (B + sumL P P.length + sumL Q Q.length ≤ 1000) := by
          rcases hex with rfl | h1
          · rcases hex2 with rfl | h2
            · exact Iff.rfl
            · exact ⟨fun h => by omega, fun h => by omega⟩
          · exact ⟨fun h => by omega, fun h => by omega⟩
        try first | refine AOLg.of [] ?_ | refine QSg.of [] ?_
        repeat' (first | (refine AWp.pass ?_; first | refine AWp.seq ?_ | refine AWp.block ?_ | refine AWp.skip ?_ | refine AWp.regG [] Zc ?_ | refine AWp.cond_t rfl ?_ | refine AWp.cond_f rfl ?_ | (refine AWp.cond rfl ?_ ?_ <;> intro hc <;> (try rw [hc]) <;> ((try simp only [zn] at hc) <;> (try simp (disch := omega) only [zz hA, zb, zy, reduceCtorEq, Bool.false_eq_true, Int.reduceLT, Int.reduceLE, Int.reduceNeg] at hc) <;> (try simp only [zw] at hc)) <;> (try (exfalso; omega))) | refine AWp.exit ?_ | refine AWp.ret ⟨.inr rfl, _, RetOk.ev tabOk Zc, ?_⟩) | (refine AOLg.pass ?_; refine AOLg.nx hA tabOk Zc ?_; first | refine NX.done ?_ | refine NX.gt ?_ | refine NX.gf ?_ | (refine NX.gs ?_ ?_ <;> intro hc <;> rw [hc] <;> ((try simp only [zn] at hc) <;> (try simp (disch := omega) only [zz hA, zb, zy, reduceCtorEq, Bool.false_eq_true, Int.reduceLT, Int.reduceLE, Int.reduceNeg] at hc) <;> (try simp only [zw] at hc)) <;> (try (exfalso; omega))) | refine NX.k 1 (NX.one Z1 ?_) | refine NX.k 7 (NX.one Z7 ?_) | refine NX.k 10 (NX.one Z10 ?_) | refine NX.k 14 (NX.one Z14 ?_) | refine NX.k 18 (NX.one Z18 ?_) | refine NX.raw ?_) | refine Thn.exit ?_ | refine Blk.here ?_ | refine Blk.other (by decide) ?_ | refine ⟨.inl rfl, _, RetOk.ev tabOk Zc, ?_⟩ | fail)
        all_goals try (exfalso; omega)
        all_goals (refine rPV_then (by conv => lhs; cbv) ?_; simp only [hid_eq hA, cN, ← hfin]; refine congrArg (fun b => PV.c (IC.lit (Value.bool b))) ?_; rw [Bool.eq_iff_iff]; simp [hA, real]; omega)
structure OfG (l : List Sg) (K : List (List Int)) (S R V : List Int) (N : List (Int × Int)) (M : List Int) (P Q : List (List Int)) : Prop where
  st : StK K S
  ru : RightU V R
  all : allV K V.length = true
  few : baseG R V N M P Q + sumL P P.length + sumL Q Q.length ≤ 1000
  right : rightGr K R V N M P Q = true
omit hA in
theorem OfG.len {l : List Sg} {K : List (List Int)} {S R V : List Int} {N : List (Int × Int)} {M : List Int} {P Q : List (List Int)} (h : OfG l K S R V N M P Q) : R.length ≤ 1000 ∧ V.length ≤ 1000 ∧ N.length ≤ 1000 ∧ M.length = 0 ∧ P.length = V.length ∧ Q.length = V.length ∧ (∀ x ∈ P, x.length ≤ 1000) ∧ (∀ x ∈ Q, x.length ≤ 1000) := by
  have h1 := h.few
  have h2 := h.right
  unfold baseG at h1
  unfold rightGr at h2
  simp only [Bool.and_eq_true, decide_eq_true_eq] at h2
  refine ⟨by omega, by omega, by omega, h2.2.1.1, h2.2.1.2.1, h2.2.1.2.2, fun x hx => ?_, fun x hx => ?_⟩
  · have := sumL_mem P hx; omega
  · have := sumL_mem Q hx; omega
end Go.Proofs.Ytkkjlmcnfoncdaa.Aw

namespace Go.Proofs.Ytkkjlmcnfoncdaa.Aw
open Go Go.RowKit
set_option maxRecDepth 10000
structure Joined (V R : List Int) (x y p q first gone : Int) (V' : List Int) : Prop where
  px : findU V x = p
  qy : findU V y = q
  ne : p ≠ q
  v' : joinV V R p q = V'
  fp : findU V' p = first
  fx : findU V' x = first
  fy : findU V' y = first
  go : gone = p + q - first
  own : first = p ∨ first = q
  p0 : 0 ≤ p ∧ p < V.length
  q0 : 0 ≤ q ∧ q < V.length
  f0 : 0 ≤ first ∧ first < V.length
  g0 : 0 ≤ gone ∧ gone < V.length
  ru : RightU V' R
  len : V'.length = V.length
  old : ∀ v : Nat, (v : Int) ≠ gone → V'.getD v default = V.getD v default
theorem joined {V R : List Int} (hR : RightU V R) {x y : Int} (x0 : 0 ≤ x) (x1 : x < V.length) (y0 : 0 ≤ y) (y1 : y < V.length) (hne : findU V x ≠ findU V y) :
    ∃ first gone, Joined V R x y (findU V x) (findU V y) first gone (joinV V R (findU V x) (findU V y)) := by
  have hp := find_range hR x0 x1
  have hq := find_range hR y0 y1
  have ep := find_find hR x0 x1
  have eq := find_find hR y0 y1
  generalize hpd : findU V x = p at *
  generalize hqd : findU V y = q at *
  have hne2 : findU V p ≠ findU V q := by rw [ep, eq]; exact hne
  have hj := joinP_ok hR hp.1 hp.2 hq.1 hq.2 hne2
  rw [ep, eq] at hj
  have hf := fun (n : Int) (n0 : 0 ≤ n) (n1 : n < V.length) => joinV_find hR hp.1 hp.2 hq.1 hq.2 n0 n1
  have hr := joinV_right hR hp.1 hp.2 hq.1 hq.2
  have hl := joinV_len V R p q
  have fp := hf p hp.1 hp.2
  have fx := hf x x0 x1
  have fy := hf y y0 y1
  rw [if_pos (.inl rfl)] at fp
  rw [hpd, ep, if_pos (.inl rfl)] at fx
  rw [hqd, eq, if_pos (.inr rfl)] at fy
  have hv : joinV V R p q = V.set (joinP V R p q).2.toNat (joinP V R p q).1 := by unfold joinV; rw [if_neg hne2]
  refine ⟨(joinP V R p q).1, (joinP V R p q).2, ⟨hpd, hqd, hne, rfl, fp, fx, fy, ?_, ?_, hp, hq, ?_, ?_, hr, hl, fun v hvg => ?_⟩⟩
  · rcases hj.2 with ⟨h1, h2⟩ | ⟨h1, h2⟩ <;> rw [h1, h2] <;> omega
  · rcases hj.2 with ⟨h1, h2⟩ | ⟨h1, h2⟩
    · exact .inl h1
    · exact .inr h1
  · rcases hj.2 with ⟨h1, h2⟩ | ⟨h1, h2⟩ <;> rw [h1] <;> assumption
  · rcases hj.2 with ⟨h1, h2⟩ | ⟨h1, h2⟩ <;> rw [h2] <;> assumption
  · have g0 : 0 ≤ (joinP V R p q).2 ∧ (joinP V R p q).2 < V.length := by rcases hj.2 with ⟨h1, h2⟩ | ⟨h1, h2⟩ <;> rw [h2] <;> assumption
    rw [hv, getD_setU _ _ _ (by omega), if_neg (by omega)]
theorem setK_get (P : List (List Int)) (g v : Nat) (hg : g < P.length) : (P.set g []).getD v default = if v = g then [] else P.getD v default := by
  rw [List.getD_eq_getElem?_getD, List.getD_eq_getElem?_getD]
  by_cases h : v = g
  · subst h; rw [if_pos rfl, List.getElem?_set_self hg]; rfl
  · rw [if_neg h, List.getElem?_set_ne (fun e => h e.symm)]
theorem joined_right {K : List (List Int)} {R V : List Int} {N : List (Int × Int)} {M : List Int} {P Q : List (List Int)} (h : rightGr K R V N M P Q = true) {x y p q first gone : Int} {V' : List Int} (j : Joined V R x y p q first gone V') (hR : RightU V R) :
    rightGr K R V' (joinN V R N p q) M (P.set gone.toNat []) (Q.set gone.toNat []) = true := by
  unfold rightGr at h ⊢
  simp only [Bool.and_eq_true, decide_eq_true_eq] at h ⊢
  obtain ⟨⟨h1, h2⟩, ⟨h3, h4, h5⟩, h6⟩ := h
  have hcl := join_right (⟨V, N, M⟩ : Cl) hR j.p0.1 j.p0.2 j.q0.1 j.q0.2 h2
  simp only [j.v'] at hcl
  have g0 := j.g0
  refine ⟨⟨(rightB_iff _ _).2 j.ru, hcl⟩, ⟨h3, by rw [List.length_set, h4, j.len], by rw [List.length_set, h5, j.len]⟩, ?_⟩
  rw [j.len]
  refine allB_t fun v hv => ?_
  have hn := allB_get h6 hv
  unfold nodeB at hn ⊢
  rw [setK_get _ _ _ (by omega), setK_get _ _ _ (by omega), j.len]
  by_cases e : v = gone.toNat
  · rw [if_pos e, if_pos e]
    simp [rowB, allB]
  · rw [if_neg e, if_neg e, j.old v (by omega)]
    exact hn
def outs (K : List (List Int)) (V' : List Int) (first : Int) (pre suc : List Int) : List (Int × Int) := pre.map (fun id => (repM K V' id, atV K first)) ++ suc.map (fun id => (atV K first, repM K V' id))
theorem outs_len (K : List (List Int)) (V' : List Int) (first : Int) (pre suc : List Int) : (outs K V' first pre suc).length = pre.length + suc.length := by unfold outs; simp
end Go.Proofs.Ytkkjlmcnfoncdaa.Aw

namespace Go.Proofs.Ytkkjlmcnfoncdaa.Aw
open Go Go.RowKit
set_option maxRecDepth 10000
attribute [local irreducible] AWp AOL QS One AOLg QSg NX QX TRg TX AllO Fin3
attribute [local irreducible] W.TRg W.TX W.AllO W.Fin3
theorem takeMap {α β : Type} [Inhabited α] (f : α → β) (l : List α) (k : Nat) (h : k < l.length) : (l.take (k + 1)).map f = (l.take k).map f ++ [f (l.getD k default)] := by
  rw [List.take_add_one, List.map_append, List.getD_eq_getElem?_getD, List.getElem?_eq_getElem h]
  rfl
theorem rPV_gr4 {st : List AObj} {k w e2 s2 : Nat} {m2 : Bool} {zs : List (List IC)} {a b c d x y z : IC} (h4 : st[k]? = some (.row m2 w e2 s2 zs)) :
    rPV st (.tup [.agg [.ic a, .ic b, .ic c, .ic d, .ic x, .ic y], .own k w, .ic z]) = some (.tup [.agg [a, b, c, d, x, y], .c (.sl s2 false zs), .c z]) := by
  simp [rPV, rPVs, rICs, rIC, toIC, h4]
variable {A : Ar} (hA : A = real)
include hA
set_option maxHeartbeats 4000000 in
theorem refAdd_c2 (K : List (List Int)) (S : List Int) (hst : StK K S) (R V : List Int) (N : List (Int × Int)) (M : List Int) (P Q : List (List Int)) (hru : RightU V R) (hR : R.length ≤ 1000) (hV : V.length ≤ 1000) (hP : P.length = V.length) (hQ : Q.length = V.length) (hPl : ∀ x ∈ P, x.length ≤ 1000) (hQl : ∀ x ∈ Q, x.length ≤ 1000) (p0 p1 X Y v w : Int)
    (hX : repM K V p0 = X) (hY : repM K V p1 = Y) (hv : numM K V.length X = v) (hw : numM K V.length Y = w) (v0 : 0 ≤ v) (v1 : v < V.length) (w0 : 0 ≤ w) (hvw : v ≠ w) (hl : lessM R w v = true) :
    ∃ sz ex q b, PureCalls Try.prog 23 [keyedPV A K S, grP A R V N M P Q, .agg [.lit (.int .i64 p0), .lit (.int .i64 p1)]] (.tup [grP A R V N M P (Q.set v.toNat (layI (Q.getD v.toNat default) Y)), .c (.sl sz ex q), BP b]) := by
  have r0 := refRep_c hA K S hst R V N M P Q hru (by omega) p0
  have r1 := refRep_c hA K S hst R V N M P Q hru (by omega) p1
  have hrep := fun z => refRep_c hA K S hst R V N M P Q hru (by omega) z
  have n0 := refNumber_c hA K S hst.ok hst.keys R V N M P Q (hid A X)
  have n1 := refNumber_c hA K S hst.ok hst.keys R V N M P Q (hid A Y)
  rw [show numM K V.length (hid A X) = v by rw [hid_eq hA, hv]] at n0
  rw [show numM K V.length (hid A Y) = w by rw [hid_eq hA, hw]] at n1
  rw [hX] at r0
  rw [hY] at r1
  have hls := refLess_c hA R (hid A w) (hid A v) (by omega)
  rw [show lessM R (hid A w) (hid A v) = true by rw [hid_eq hA, hid_eq hA]; exact hl, hid_eq hA (α := Bool)] at hls
  have hmay := refMayG_c hA K S hst R V N M P Q (by omega) (hid A Y) (hid A v) false
  rw [show mayG K R V.length (hid A Y) (hid A v) false = true by rw [hid_eq hA, hid_eq hA]; unfold mayG; rw [hw, if_pos w0]; exact hl, hid_eq hA (α := Bool)] at hmay
  have hpre : (P.getD v.toNat default).length ≤ 1000 := hPl _ (by rw [List.getD_eq_getElem?_getD, List.getElem?_eq_getElem (by omega)]; exact List.getElem_mem _)
  have hsuc : (Q.getD v.toNat default).length ≤ 1000 := hQl _ (by rw [List.getD_eq_getElem?_getD, List.getElem?_eq_getElem (by omega)]; exact List.getElem_mem _)
  have hlay : ∀ l : List Int, l = Q.getD v.toNat default → PureCalls Try.prog 54 [intsP A l, IP (hid A Y)] (.tup [intsP A (layI (Q.getD v.toNat default) Y), BP (layB (Q.getD v.toNat default) Y)]) := by
    rintro l rfl
    have := refLay12_c hA (Q.getD v.toNat default) Y (by omega)
    rw [hid_eq hA (α := Bool)] at this
    rw [hid_eq hA Y]; exact this
  have hwi : PureCalls Try.prog 55 [slP A 1 (encK A) Q, IP (hid A v), intsP A (layI (Q.getD v.toNat default) Y)] (slP A 1 (encK A) (Q.set v.toNat (layI (Q.getD v.toNat default) Y))) := by
    rw [hid_eq hA v]
    exact refWith_c hA Q v _ v0 (by omega) (by omega)
  clear hPl hQl
  cases hb : layB (Q.getD v.toNat default) Y with
  | false =>
    have hs : Q.set v.toNat (layI (Q.getD v.toNat default) Y) = Q := by
      have : layI (Q.getD v.toNat default) Y = Q.getD v.toNat default := by
        unfold layB at hb
        unfold layI
        rw [if_pos (by simpa using hb)]
      rw [this]
      refine List.ext_getElem (by simp) fun i h1 h2 => ?_
      rw [List.getElem_set]
      split
      · rename_i e; subst e; rw [List.getD_eq_getElem?_getD, List.getElem?_eq_getElem h2]; rfl
      · rfl
    rw [hb] at hlay
    rw [hs]
    refine ⟨0, true, [], false, ?_⟩
    generalize layI (Q.getD v.toNat default) Y = L at *
    refine PureCalls.of Try.func23 rfl (by kernel_rfl) rfl ?_
    try first | refine AOLg.of [] ?_ | refine QSg.of [] ?_
    repeat' (first | (refine AWp.pass ?_; first | refine AWp.seq ?_ | refine AWp.block ?_ | refine AWp.skip ?_ | refine AWp.regG [] Zc ?_ | refine AWp.cond_t rfl ?_ | refine AWp.cond_f rfl ?_ | (refine AWp.cond rfl ?_ ?_ <;> intro hc <;> (try rw [hc]) <;> ((try simp only [zn] at hc) <;> (try simp (disch := omega) only [zz hA, zb, zy, reduceCtorEq, Bool.false_eq_true, Int.reduceLT, Int.reduceLE, Int.reduceNeg] at hc) <;> (try simp only [zw] at hc)) <;> (try (exfalso; omega))) | refine AWp.exit ?_ | refine AWp.ret ⟨.inr rfl, _, RetOk.ev tabOk Zc, ?_⟩ | refine AWp.drawVG [] rfl (by decide +kernel) Zc ?_) | (refine AOLg.pass ?_; refine AOLg.nx hA tabOk Zc ?_; first | refine NX.done ?_ | refine NX.gt ?_ | refine NX.gf ?_ | (refine NX.gs ?_ ?_ <;> intro hc <;> rw [hc] <;> ((try simp only [zn] at hc) <;> (try simp (disch := omega) only [zz hA, zb, zy, reduceCtorEq, Bool.false_eq_true, Int.reduceLT, Int.reduceLE, Int.reduceNeg] at hc) <;> (try simp only [zw] at hc)) <;> (try (exfalso; omega))) | (refine NX.kC ?_; first | (with_reducible refine NX.call (r0) ?_) | (with_reducible refine NX.call (r1) ?_) | (with_reducible refine NX.call (n0) ?_) | (with_reducible refine NX.call (n1) ?_) | (with_reducible refine NX.call (hls) ?_) | (with_reducible refine NX.call (hmay) ?_) | (with_reducible refine NX.call (hlay _ (by simp only [rhid hA, hid_eq hA, cN, Int.toNat_natCast])) ?_) | ((first | refine NX.call (r0) ?_ | refine NX.call (r1) ?_ | refine NX.call (n0) ?_ | refine NX.call (n1) ?_ | refine NX.call (hls) ?_ | refine NX.call (hmay) ?_ | refine NX.call (hlay _ (by simp only [rhid hA, hid_eq hA, cN, Int.toNat_natCast])) ?_)) | fail) | (refine NX.kO ?_; (first | refine NX.callO (r0) (by simp [allEq]) rfl ?_ | refine NX.callO (r1) (by simp [allEq]) rfl ?_ | refine NX.callO (n0) (by simp [allEq]) rfl ?_ | refine NX.callO (n1) (by simp [allEq]) rfl ?_ | refine NX.callO (hls) (by simp [allEq]) rfl ?_ | refine NX.callO (hmay) (by simp [allEq]) rfl ?_ | refine NX.callO (hlay _ (by simp only [rhid hA, hid_eq hA, cN, Int.toNat_natCast])) (by simp [allEq]) rfl ?_)) | refine NX.k 1 (NX.one Z1 ?_) | refine NX.k 7 (NX.one Z7 ?_) | refine NX.k 8 (NX.one Z8 ?_) | refine NX.k 10 (NX.one Z10 ?_) | refine NX.k 11 (NX.one Z11 ?_) | refine NX.k 14 (NX.one Z14 ?_) | refine NX.k 15 (NX.one Z15 ?_) | refine NX.k 17 (NX.one Z17 ?_) | refine NX.k 18 (NX.one Z18 ?_) | (refine NX.one (One.indexPtr tabOk rfl rfl rfl rfl rfl (by decide) (by decide)) ?_) | refine NX.raw ?_) | (refine TRg.pass ?_; refine TRg.nx hA tabOk Zc ?_; first | refine TX.done ?_ | refine TX.gt ?_ | refine TX.gf ?_ | (refine TX.gs ?_ ?_ <;> intro hc <;> rw [hc] <;> ((try simp only [zn] at hc) <;> (try simp (disch := omega) only [zz hA, zb, zy, reduceCtorEq, Bool.false_eq_true, Int.reduceLT, Int.reduceLE, Int.reduceNeg] at hc) <;> (try simp only [zw] at hc)) <;> (try (exfalso; omega))) | (refine TX.kC ?_; first | (with_reducible refine TX.call (r0) ?_) | (with_reducible refine TX.call (r1) ?_) | (with_reducible refine TX.call (n0) ?_) | (with_reducible refine TX.call (n1) ?_) | (with_reducible refine TX.call (hls) ?_) | (with_reducible refine TX.call (hmay) ?_) | (with_reducible refine TX.call (hlay _ (by simp only [rhid hA, hid_eq hA, cN, Int.toNat_natCast])) ?_) | ((first | refine TX.call (r0) ?_ | refine TX.call (r1) ?_ | refine TX.call (n0) ?_ | refine TX.call (n1) ?_ | refine TX.call (hls) ?_ | refine TX.call (hmay) ?_ | refine TX.call (hlay _ (by simp only [rhid hA, hid_eq hA, cN, Int.toNat_natCast])) ?_)) | fail) | (refine TX.kO ?_; (first | refine TX.callO (r0) (by simp [allEq]) rfl ?_ | refine TX.callO (r1) (by simp [allEq]) rfl ?_ | refine TX.callO (n0) (by simp [allEq]) rfl ?_ | refine TX.callO (n1) (by simp [allEq]) rfl ?_ | refine TX.callO (hls) (by simp [allEq]) rfl ?_ | refine TX.callO (hmay) (by simp [allEq]) rfl ?_ | refine TX.callO (hlay _ (by simp only [rhid hA, hid_eq hA, cN, Int.toNat_natCast])) (by simp [allEq]) rfl ?_)) | refine TX.k 1 (TX.one Z1 ?_) | refine TX.k 7 (TX.one Z7 ?_) | refine TX.k 8 (TX.one Z8 ?_) | refine TX.k 10 (TX.one Z10 ?_) | refine TX.k 11 (TX.one Z11 ?_) | refine TX.k 14 (TX.one Z14 ?_) | refine TX.k 15 (TX.one Z15 ?_) | refine TX.k 17 (TX.one Z17 ?_) | refine TX.k 18 (TX.one Z18 ?_) | (refine TX.one (One.indexPtr tabOk rfl rfl rfl rfl rfl (by decide) (by decide)) ?_) | refine TX.raw ?_) | refine Fin3.of Zc (by repeat' (first | exact True.intro | exact rfl | refine And.intro ?_ ?_)) ?_ ?_ | (refine AllO.pass ?_; first | exact AllO.nil | (refine AllO.cons (One.ev hA tabOk ?_) ?_ <;> (first | refine AllO.pass ?_ | ((conv => lhs; cbv); done))) | (refine AllO.cons (One.skipB ?_) ?_ <;> (first | refine AllO.pass ?_ | ((conv => lhs; cbv); done))) | ((with_reducible refine AllO.call Zc (r0) ?_ ?_) <;> (first | refine AllO.pass ?_ | exact rfl | exact Zd)) | ((with_reducible refine AllO.call Zc (r1) ?_ ?_) <;> (first | refine AllO.pass ?_ | exact rfl | exact Zd)) | ((with_reducible refine AllO.call Zc (n0) ?_ ?_) <;> (first | refine AllO.pass ?_ | exact rfl | exact Zd)) | ((with_reducible refine AllO.call Zc (n1) ?_ ?_) <;> (first | refine AllO.pass ?_ | exact rfl | exact Zd)) | ((with_reducible refine AllO.call Zc (hls) ?_ ?_) <;> (first | refine AllO.pass ?_ | exact rfl | exact Zd)) | ((with_reducible refine AllO.call Zc (hmay) ?_ ?_) <;> (first | refine AllO.pass ?_ | exact rfl | exact Zd)) | ((with_reducible refine AllO.call Zc (hlay _ (by simp only [rhid hA, hid_eq hA, cN, Int.toNat_natCast])) ?_ ?_) <;> (first | refine AllO.pass ?_ | exact rfl | exact Zd)) | refine AllO.consX ZX rfl rfl ?_ | ((refine AllO.consX (One.indexPtr tabOk rfl rfl rfl rfl rfl (by decide) (by decide)) rfl rfl ?_) <;> (first | refine AllO.pass ?_ | exact Zd))) | refine Thn.exit ?_ | refine Blk.here ?_ | refine Blk.other (by decide) ?_ | refine ⟨.inl rfl, _, RetOk.ev tabOk Zc, ?_⟩ | fail)
    all_goals first | (exfalso; omega) | (refine rPV_then (by conv => lhs; cbv) ?_; rfl) | fail
  | true =>
    rw [hb] at hlay
    refine ⟨2, false, hid A (List.map encN ((P.getD v.toNat default).map fun id => (repM K V id, Y))), true, ?_⟩
    generalize layI (Q.getD v.toNat default) Y = L at *
    refine PureCalls.of Try.func23 rfl (by kernel_rfl) rfl ?_
    try first | refine AOLg.of [13] ?_ | refine QSg.of [13] ?_
    repeat' (first | (refine AWp.pass ?_; first | refine AWp.seq ?_ | refine AWp.block ?_ | refine AWp.skip ?_ | refine AWp.regG [13] Zc ?_ | refine AWp.cond_t rfl ?_ | refine AWp.cond_f rfl ?_ | (refine AWp.cond rfl ?_ ?_ <;> intro hc <;> (try rw [hc]) <;> ((try simp only [zn] at hc) <;> (try simp (disch := omega) only [zz hA, zb, zy, reduceCtorEq, Bool.false_eq_true, Int.reduceLT, Int.reduceLE, Int.reduceNeg] at hc) <;> (try simp only [zw] at hc)) <;> (try (exfalso; omega))) | refine AWp.exit ?_ | refine AWp.ret ⟨.inr rfl, _, RetOk.ev tabOk Zc, ?_⟩ | refine AWp.drawVG [13] rfl (by decide +kernel) Zc ?_) | (refine AOLg.pass ?_; refine AOLg.nx hA tabOk Zc ?_; first | refine NX.done ?_ | refine NX.gt ?_ | refine NX.gf ?_ | (refine NX.gs ?_ ?_ <;> intro hc <;> rw [hc] <;> ((try simp only [zn] at hc) <;> (try simp (disch := omega) only [zz hA, zb, zy, reduceCtorEq, Bool.false_eq_true, Int.reduceLT, Int.reduceLE, Int.reduceNeg] at hc) <;> (try simp only [zw] at hc)) <;> (try (exfalso; omega))) | (refine NX.kC ?_; first | (with_reducible refine NX.call (r0) ?_) | (with_reducible refine NX.call (r1) ?_) | (with_reducible refine NX.call (n0) ?_) | (with_reducible refine NX.call (n1) ?_) | (with_reducible refine NX.call (hls) ?_) | (with_reducible refine NX.call (hmay) ?_) | (with_reducible refine NX.call (hlay _ (by simp only [rhid hA, hid_eq hA, cN, Int.toNat_natCast])) ?_) | ((first | refine NX.call (r0) ?_ | refine NX.call (r1) ?_ | refine NX.call (n0) ?_ | refine NX.call (n1) ?_ | refine NX.call (hls) ?_ | refine NX.call (hmay) ?_ | refine NX.call (hlay _ (by simp only [rhid hA, hid_eq hA, cN, Int.toNat_natCast])) ?_)) | fail) | (refine NX.kO ?_; (first | refine NX.callO (r0) (by simp [allEq]) rfl ?_ | refine NX.callO (r1) (by simp [allEq]) rfl ?_ | refine NX.callO (n0) (by simp [allEq]) rfl ?_ | refine NX.callO (n1) (by simp [allEq]) rfl ?_ | refine NX.callO (hls) (by simp [allEq]) rfl ?_ | refine NX.callO (hmay) (by simp [allEq]) rfl ?_ | refine NX.callO (hlay _ (by simp only [rhid hA, hid_eq hA, cN, Int.toNat_natCast])) (by simp [allEq]) rfl ?_)) | refine NX.k 1 (NX.one Z1 ?_) | refine NX.k 7 (NX.one Z7 ?_) | refine NX.k 8 (NX.one Z8 ?_) | refine NX.k 10 (NX.one Z10 ?_) | refine NX.k 11 (NX.one Z11 ?_) | refine NX.k 14 (NX.one Z14 ?_) | refine NX.k 15 (NX.one Z15 ?_) | refine NX.k 17 (NX.one Z17 ?_) | refine NX.k 18 (NX.one Z18 ?_) | (refine NX.one (One.indexPtr tabOk rfl rfl rfl rfl rfl (by decide) (by decide)) ?_) | (refine NX.one (One.nilOwn tabOk 13 53 rfl rfl rfl) ?_) | refine NX.raw ?_) | (refine TRg.pass ?_; refine TRg.nx hA tabOk Zc ?_; first | refine TX.done ?_ | refine TX.gt ?_ | refine TX.gf ?_ | (refine TX.gs ?_ ?_ <;> intro hc <;> rw [hc] <;> ((try simp only [zn] at hc) <;> (try simp (disch := omega) only [zz hA, zb, zy, reduceCtorEq, Bool.false_eq_true, Int.reduceLT, Int.reduceLE, Int.reduceNeg] at hc) <;> (try simp only [zw] at hc)) <;> (try (exfalso; omega))) | (refine TX.kC ?_; first | (with_reducible refine TX.call (r0) ?_) | (with_reducible refine TX.call (r1) ?_) | (with_reducible refine TX.call (n0) ?_) | (with_reducible refine TX.call (n1) ?_) | (with_reducible refine TX.call (hls) ?_) | (with_reducible refine TX.call (hmay) ?_) | (with_reducible refine TX.call (hlay _ (by simp only [rhid hA, hid_eq hA, cN, Int.toNat_natCast])) ?_) | ((first | refine TX.call (r0) ?_ | refine TX.call (r1) ?_ | refine TX.call (n0) ?_ | refine TX.call (n1) ?_ | refine TX.call (hls) ?_ | refine TX.call (hmay) ?_ | refine TX.call (hlay _ (by simp only [rhid hA, hid_eq hA, cN, Int.toNat_natCast])) ?_)) | fail) | (refine TX.kO ?_; (first | refine TX.callO (r0) (by simp [allEq]) rfl ?_ | refine TX.callO (r1) (by simp [allEq]) rfl ?_ | refine TX.callO (n0) (by simp [allEq]) rfl ?_ | refine TX.callO (n1) (by simp [allEq]) rfl ?_ | refine TX.callO (hls) (by simp [allEq]) rfl ?_ | refine TX.callO (hmay) (by simp [allEq]) rfl ?_ | refine TX.callO (hlay _ (by simp only [rhid hA, hid_eq hA, cN, Int.toNat_natCast])) (by simp [allEq]) rfl ?_)) | refine TX.k 1 (TX.one Z1 ?_) | refine TX.k 7 (TX.one Z7 ?_) | refine TX.k 8 (TX.one Z8 ?_) | refine TX.k 10 (TX.one Z10 ?_) | refine TX.k 11 (TX.one Z11 ?_) | refine TX.k 14 (TX.one Z14 ?_) | refine TX.k 15 (TX.one Z15 ?_) | refine TX.k 17 (TX.one Z17 ?_) | refine TX.k 18 (TX.one Z18 ?_) | (refine TX.one (One.indexPtr tabOk rfl rfl rfl rfl rfl (by decide) (by decide)) ?_) | (refine TX.one (One.nilOwn tabOk 13 53 rfl rfl rfl) ?_) | refine TX.raw ?_) | refine Fin3.of Zc (by repeat' (first | exact True.intro | exact rfl | refine And.intro ?_ ?_)) ?_ ?_ | (refine AllO.pass ?_; first | exact AllO.nil | (refine AllO.cons (One.ev hA tabOk ?_) ?_ <;> (first | refine AllO.pass ?_ | ((conv => lhs; cbv); done))) | (refine AllO.cons (One.skipB ?_) ?_ <;> (first | refine AllO.pass ?_ | ((conv => lhs; cbv); done))) | ((with_reducible refine AllO.call Zc (r0) ?_ ?_) <;> (first | refine AllO.pass ?_ | exact rfl | exact Zd)) | ((with_reducible refine AllO.call Zc (r1) ?_ ?_) <;> (first | refine AllO.pass ?_ | exact rfl | exact Zd)) | ((with_reducible refine AllO.call Zc (n0) ?_ ?_) <;> (first | refine AllO.pass ?_ | exact rfl | exact Zd)) | ((with_reducible refine AllO.call Zc (n1) ?_ ?_) <;> (first | refine AllO.pass ?_ | exact rfl | exact Zd)) | ((with_reducible refine AllO.call Zc (hls) ?_ ?_) <;> (first | refine AllO.pass ?_ | exact rfl | exact Zd)) | ((with_reducible refine AllO.call Zc (hmay) ?_ ?_) <;> (first | refine AllO.pass ?_ | exact rfl | exact Zd)) | ((with_reducible refine AllO.call Zc (hlay _ (by simp only [rhid hA, hid_eq hA, cN, Int.toNat_natCast])) ?_ ?_) <;> (first | refine AllO.pass ?_ | exact rfl | exact Zd)) | refine AllO.consX ZX rfl rfl ?_ | ((refine AllO.consX (One.indexPtr tabOk rfl rfl rfl rfl rfl (by decide) (by decide)) rfl rfl ?_) <;> (first | refine AllO.pass ?_ | exact Zd))) | refine Thn.exit ?_ | refine Blk.here ?_ | refine Blk.other (by decide) ?_ | refine ⟨.inl rfl, _, RetOk.ev tabOk Zc, ?_⟩ | fail)
    all_goals try (exfalso; omega)
    rw [show (A (.hid Int) fun _ => v) = v from rhid hA _]
    rw [hid_eq hA v] at hwi
    obtain ⟨f1, hf1⟩ : ∃ f1 : Int → Int × Int, f1 = fun id => (repM K V id, Y) := ⟨_, rfl⟩
    obtain ⟨pre, hpD⟩ : ∃ pre, pre = P.getD v.toNat default := ⟨_, rfl⟩
    have hpl : (P.getD v.toNat default).length = pre.length := by rw [hpD]
    rw [← hf1, ← hpD]
    refine AWp.loopU (fun x : Nat × Nat => [(17, .ic (.lit (.int .i64 (hid A (cN x.1))))), (13, .own 4 x.2)]) (fun x => [.var true 26 [.ic (.sl 1 false (hid A (List.map (encK A) K))), .ic (.sl 1 false (hid A (List.map encI S)))], .var true 31 [.ic (.sl 1 false (hid A (List.map encI R))), .ic (.sl 1 false (hid A (List.map encI V))), .ic (.sl 2 false (hid A (List.map encN N))), .ic (.sl 1 false (hid A (List.map encI M))), .ic (.sl 1 false (hid A (List.map (encK A) P))), .ic (.sl 1 false (hid A (List.map (encK A) Q)))], .var true 58 [.ic (.lit (.int .i64 p0)), .ic (.lit (.int .i64 p1))], .var true 31 [.ic (.sl 0 true []), .ic (.sl 0 true []), .ic (.sl 0 true []), .ic (.sl 0 true []), .ic (.sl 0 true []), .ic (.sl 0 true [])], .row true x.2 58 2 (hid A (List.map encN ((pre.take x.1).map f1)))]) (fun x => pre.length - x.1) (fun x => x.1 ≤ pre.length) (0, 0) (by conv => lhs; cbv) (Nat.zero_le _) (by ((repeat' (first | exact subE.nil | refine subE.cons rfl ?_ | refine subE.int rfl ?_ ?_ | refine subE.bool rfl ?_ ?_ | refine subE.str rfl ?_ ?_ | refine subE.sl rfl ?_ ?_))) <;> first | rfl | simp [hA, real, hid, cN]) (by simp [hid_eq hA]) ?_
    rintro ⟨k, u⟩ hk
    simp only at hk ⊢
    by_cases hlt : k < pre.length
    · have hln : ((pre.take k).map f1).length = k := by simp; omega
      have hnx := takeMap f1 pre k hlt
      generalize hT2 : (pre.take (k + 1)).map f1 = T2 at *
      generalize (pre.take k).map f1 = T at *
      try first | refine AOLg.of [] ?_ | refine QSg.of [] ?_
      repeat' (first | (refine AWp.pass ?_; first | refine AWp.seq ?_ | refine AWp.block ?_ | refine AWp.skip ?_ | refine AWp.regG [] Zc ?_ | refine AWp.cond_t rfl ?_ | refine AWp.cond_f rfl ?_ | (refine AWp.cond rfl ?_ ?_ <;> intro hc <;> (try rw [hc]) <;> ((try simp only [zn] at hc) <;> (try simp (disch := omega) only [zz hA, zb, zy, reduceCtorEq, Bool.false_eq_true, Int.reduceLT, Int.reduceLE, Int.reduceNeg] at hc) <;> (try simp only [zw] at hc)) <;> (try (exfalso; omega))) | refine AWp.exit ?_ | refine AWp.ret ⟨.inr rfl, _, RetOk.ev tabOk Zc, ?_⟩ | refine W.AWp.drawVG [] rfl (by decide +kernel) Zc ?_) | (refine AOLg.pass ?_; refine AOLg.nx hA tabOk Zc ?_; first | refine NX.done ?_ | refine NX.gt ?_ | refine NX.gf ?_ | (refine NX.gs ?_ ?_ <;> intro hc <;> rw [hc] <;> ((try simp only [zn] at hc) <;> (try simp (disch := omega) only [zz hA, zb, zy, reduceCtorEq, Bool.false_eq_true, Int.reduceLT, Int.reduceLE, Int.reduceNeg] at hc) <;> (try simp only [zw] at hc)) <;> (try (exfalso; omega))) | (refine NX.kC ?_; first | (with_reducible refine NX.call (hrep _) ?_) | ((first | refine NX.call (hrep _) ?_)) | fail) | (refine NX.kO ?_; (first | refine NX.callO (hrep _) (by simp [allEq]) rfl ?_)) | refine NX.k 1 (NX.one Z1 ?_) | refine NX.k 7 (NX.one Z7 ?_) | refine NX.k 8 (NX.one Z8 ?_) | refine NX.k 10 (NX.one Z10 ?_) | refine NX.k 11 (NX.one Z11 ?_) | refine NX.k 14 (NX.one Z14 ?_) | refine NX.k 15 (NX.one Z15 ?_) | refine NX.k 17 (NX.one Z17 ?_) | refine NX.k 18 (NX.one Z18 ?_) | (refine NX.one (One.elemM hA tabOk rfl rfl rfl rfl Zd Zd) ?_) | (refine NX.one (One.buildArr tabOk rfl rfl rfl rfl rfl rfl) ?_) | (refine NX.one (One.appendOwnM hA tabOk (f := encN) (f1 (pre.getD k default)) rfl rfl rfl rfl rfl rfl (by simp only [encN, hf1, hpD, rhid hA, hid_eq hA, cN, Int.toNat_natCast]) Zd Zd) ?_) | refine NX.raw ?_) | (refine W.TRg.pass ?_; refine W.TRg.nx hA tabOk Zc ?_; first | refine W.TX.done ?_ | refine W.TX.gt ?_ | refine W.TX.gf ?_ | (refine W.TX.gs ?_ ?_ <;> intro hc <;> rw [hc] <;> ((try simp only [zn] at hc) <;> (try simp (disch := omega) only [zz hA, zb, zy, reduceCtorEq, Bool.false_eq_true, Int.reduceLT, Int.reduceLE, Int.reduceNeg] at hc) <;> (try simp only [zw] at hc)) <;> (try (exfalso; omega))) | (refine W.TX.kC ?_; first | (with_reducible refine W.TX.call (hrep _) ?_) | ((first | refine W.TX.call (hrep _) ?_)) | fail) | (refine W.TX.kO ?_; (first | refine W.TX.callO (hrep _) (by simp [allEq]) rfl ?_)) | refine W.TX.k 1 (W.TX.one Z1 ?_) | refine W.TX.k 7 (W.TX.one Z7 ?_) | refine W.TX.k 8 (W.TX.one Z8 ?_) | refine W.TX.k 10 (W.TX.one Z10 ?_) | refine W.TX.k 11 (W.TX.one Z11 ?_) | refine W.TX.k 14 (W.TX.one Z14 ?_) | refine W.TX.k 15 (W.TX.one Z15 ?_) | refine W.TX.k 17 (W.TX.one Z17 ?_) | refine W.TX.k 18 (W.TX.one Z18 ?_) | (refine W.TX.one (One.elemM hA tabOk rfl rfl rfl rfl Zd Zd) ?_) | (refine W.TX.one (One.buildArr tabOk rfl rfl rfl rfl rfl rfl) ?_) | (refine W.TX.one (One.appendOwnM hA tabOk (f := encN) (f1 (pre.getD k default)) rfl rfl rfl rfl rfl rfl (by simp only [encN, hf1, hpD, rhid hA, hid_eq hA, cN, Int.toNat_natCast]) Zd Zd) ?_) | refine W.TX.raw ?_) | refine W.Fin3.of Zc (by repeat' (first | exact True.intro | exact rfl | refine And.intro ?_ ?_)) ?_ ?_ | (refine W.AllO.pass ?_; first | exact W.AllO.nil | (refine W.AllO.cons (One.ev hA tabOk ?_) ?_ <;> (first | refine W.AllO.pass ?_ | ((conv => lhs; cbv); done))) | (refine W.AllO.cons (One.skipB ?_) ?_ <;> (first | refine W.AllO.pass ?_ | ((conv => lhs; cbv); done))) | ((with_reducible refine W.AllO.call Zc (hrep _) ?_ ?_) <;> (first | refine W.AllO.pass ?_ | exact rfl | exact Zd)) | refine W.AllO.consX ZX rfl rfl ?_ | ((refine W.AllO.consX (One.elemM hA tabOk rfl rfl rfl rfl Zd Zd) rfl rfl ?_) <;> (first | refine W.AllO.pass ?_ | exact Zd)) | ((refine W.AllO.consX (One.buildArr tabOk rfl rfl rfl rfl rfl rfl) rfl rfl ?_) <;> (first | refine W.AllO.pass ?_ | exact Zd))) | refine Thn.exit ?_ | refine Blk.here ?_ | refine Blk.other (by decide) ?_ | refine ⟨.inl rfl, _, RetOk.ev tabOk Zc, ?_⟩ | fail)
      all_goals try (exfalso; omega)
      refine ⟨(k + 1, u + 1), by simp only; omega, by simp only; omega, rfl, ?_, ?_, Zk⟩
      · simp only [hT2, hnx]
      · (repeat' (first | exact subE.nil | refine subE.cons rfl ?_ | refine subE.int rfl ?_ ?_ | refine subE.bool rfl ?_ ?_ | refine subE.str rfl ?_ ?_ | refine subE.sl rfl ?_ ?_))
        all_goals first | rfl | exact Zd
    · rw [show pre.take k = pre from List.take_of_length_le (by omega)]
      try first | refine AOLg.of [] ?_ | refine QSg.of [] ?_
      repeat' (first | (refine AWp.pass ?_; first | refine AWp.seq ?_ | refine AWp.block ?_ | refine AWp.skip ?_ | refine AWp.regG [] Zc ?_ | refine AWp.cond_t rfl ?_ | refine AWp.cond_f rfl ?_ | (refine AWp.cond rfl ?_ ?_ <;> intro hc <;> (try rw [hc]) <;> ((try simp only [zn] at hc) <;> (try simp (disch := omega) only [zz hA, zb, zy, reduceCtorEq, Bool.false_eq_true, Int.reduceLT, Int.reduceLE, Int.reduceNeg] at hc) <;> (try simp only [zw] at hc)) <;> (try (exfalso; omega))) | refine AWp.exit ?_ | refine AWp.ret ⟨.inr rfl, _, RetOk.ev tabOk Zc, ?_⟩ | refine AWp.drawVG [] rfl (by decide +kernel) Zc ?_) | (refine AOLg.pass ?_; refine AOLg.nx hA tabOk Zc ?_; first | refine NX.done ?_ | refine NX.gt ?_ | refine NX.gf ?_ | (refine NX.gs ?_ ?_ <;> intro hc <;> rw [hc] <;> ((try simp only [zn] at hc) <;> (try simp (disch := omega) only [zz hA, zb, zy, reduceCtorEq, Bool.false_eq_true, Int.reduceLT, Int.reduceLE, Int.reduceNeg] at hc) <;> (try simp only [zw] at hc)) <;> (try (exfalso; omega))) | (refine NX.kC ?_; first | (with_reducible refine NX.call (hwi) ?_) | ((first | refine NX.call (hwi) ?_)) | fail) | (refine NX.kO ?_; (first | refine NX.callO (hwi) (by simp [allEq]) rfl ?_)) | refine NX.k 1 (NX.one Z1 ?_) | refine NX.k 7 (NX.one Z7 ?_) | refine NX.k 8 (NX.one Z8 ?_) | refine NX.k 10 (NX.one Z10 ?_) | refine NX.k 11 (NX.one Z11 ?_) | refine NX.k 14 (NX.one Z14 ?_) | refine NX.k 15 (NX.one Z15 ?_) | refine NX.k 17 (NX.one Z17 ?_) | refine NX.k 18 (NX.one Z18 ?_) | refine NX.raw ?_) | (refine TRg.pass ?_; refine TRg.nx hA tabOk Zc ?_; first | refine TX.done ?_ | refine TX.gt ?_ | refine TX.gf ?_ | (refine TX.gs ?_ ?_ <;> intro hc <;> rw [hc] <;> ((try simp only [zn] at hc) <;> (try simp (disch := omega) only [zz hA, zb, zy, reduceCtorEq, Bool.false_eq_true, Int.reduceLT, Int.reduceLE, Int.reduceNeg] at hc) <;> (try simp only [zw] at hc)) <;> (try (exfalso; omega))) | (refine TX.kC ?_; first | (with_reducible refine TX.call (hwi) ?_) | ((first | refine TX.call (hwi) ?_)) | fail) | (refine TX.kO ?_; (first | refine TX.callO (hwi) (by simp [allEq]) rfl ?_)) | refine TX.k 1 (TX.one Z1 ?_) | refine TX.k 7 (TX.one Z7 ?_) | refine TX.k 8 (TX.one Z8 ?_) | refine TX.k 10 (TX.one Z10 ?_) | refine TX.k 11 (TX.one Z11 ?_) | refine TX.k 14 (TX.one Z14 ?_) | refine TX.k 15 (TX.one Z15 ?_) | refine TX.k 17 (TX.one Z17 ?_) | refine TX.k 18 (TX.one Z18 ?_) | refine TX.raw ?_) | refine Fin3.of Zc (by repeat' (first | exact True.intro | exact rfl | refine And.intro ?_ ?_)) ?_ ?_ | (refine AllO.pass ?_; first | exact AllO.nil | (refine AllO.cons (One.ev hA tabOk ?_) ?_ <;> (first | refine AllO.pass ?_ | ((conv => lhs; cbv); done))) | (refine AllO.cons (One.skipB ?_) ?_ <;> (first | refine AllO.pass ?_ | ((conv => lhs; cbv); done))) | ((with_reducible refine AllO.call Zc (hwi) ?_ ?_) <;> (first | refine AllO.pass ?_ | exact rfl | exact Zd)) | refine AllO.consX ZX rfl rfl ?_) | refine Thn.exit ?_ | refine Blk.here ?_ | refine Blk.other (by decide) ?_ | refine ⟨.inl rfl, _, RetOk.ev tabOk Zc, ?_⟩ | fail)
      all_goals try (exfalso; omega)
      all_goals
        show rPV _ _ = some _
        rw [rPV_gr4 (k := 4) rfl]
set_option maxHeartbeats 4000000 in
theorem refAdd_c3 (K : List (List Int)) (S : List Int) (hst : StK K S) (R V : List Int) (N : List (Int × Int)) (M : List Int) (P Q : List (List Int)) (hru : RightU V R) (hR : R.length ≤ 1000) (hV : V.length ≤ 1000) (hP : P.length = V.length) (hQ : Q.length = V.length) (hPl : ∀ x ∈ P, x.length ≤ 1000) (hQl : ∀ x ∈ Q, x.length ≤ 1000) (p0 p1 X Y v w : Int)
    (hX : repM K V p0 = X) (hY : repM K V p1 = Y) (hv : numM K V.length X = v) (hw : numM K V.length Y = w) (v0 : 0 ≤ v) (w0 : 0 ≤ w) (hvw : v ≠ w) (hl : lessM R w v = false) (hl2 : lessM R v w = true) (w1 : w < V.length) :
    ∃ sz ex q b, PureCalls Try.prog 23 [keyedPV A K S, grP A R V N M P Q, .agg [.lit (.int .i64 p0), .lit (.int .i64 p1)]] (.tup [grP A R V N M (P.set w.toNat (layI (P.getD w.toNat default) X)) Q, .c (.sl sz ex q), BP b]) := by
  have r0 := refRep_c hA K S hst R V N M P Q hru (by omega) p0
  have r1 := refRep_c hA K S hst R V N M P Q hru (by omega) p1
  have hrep := fun z => refRep_c hA K S hst R V N M P Q hru (by omega) z
  have n0 := refNumber_c hA K S hst.ok hst.keys R V N M P Q (hid A X)
  have n1 := refNumber_c hA K S hst.ok hst.keys R V N M P Q (hid A Y)
  rw [show numM K V.length (hid A X) = v by rw [hid_eq hA, hv]] at n0
  rw [show numM K V.length (hid A Y) = w by rw [hid_eq hA, hw]] at n1
  rw [hX] at r0
  rw [hY] at r1
  have hls := refLess_c hA R (hid A w) (hid A v) (by omega)
  rw [show lessM R (hid A w) (hid A v) = false by rw [hid_eq hA, hid_eq hA]; exact hl, hid_eq hA (α := Bool)] at hls
  have hmay := refMayG_c hA K S hst R V N M P Q (by omega) (hid A X) (hid A w) true
  rw [show mayG K R V.length (hid A X) (hid A w) true = true by rw [hid_eq hA, hid_eq hA]; unfold mayG; rw [hv, if_pos v0]; exact hl2, hid_eq hA (α := Bool)] at hmay
  have hpre : (P.getD w.toNat default).length ≤ 1000 := hPl _ (by rw [List.getD_eq_getElem?_getD, List.getElem?_eq_getElem (by omega)]; exact List.getElem_mem _)
  have hsuc : (Q.getD w.toNat default).length ≤ 1000 := hQl _ (by rw [List.getD_eq_getElem?_getD, List.getElem?_eq_getElem (by omega)]; exact List.getElem_mem _)
  have hlay : ∀ l : List Int, l = P.getD w.toNat default → PureCalls Try.prog 54 [intsP A l, IP (hid A X)] (.tup [intsP A (layI (P.getD w.toNat default) X), BP (layB (P.getD w.toNat default) X)]) := by
    rintro l rfl
    have := refLay12_c hA (P.getD w.toNat default) X (by omega)
    rw [hid_eq hA (α := Bool)] at this
    rw [hid_eq hA X]; exact this
  have hwi : PureCalls Try.prog 55 [slP A 1 (encK A) P, IP (hid A w), intsP A (layI (P.getD w.toNat default) X)] (slP A 1 (encK A) (P.set w.toNat (layI (P.getD w.toNat default) X))) := by
    rw [hid_eq hA w]
    exact refWith_c hA P w _ w0 (by omega) (by omega)
  clear hPl hQl
  cases hb : layB (P.getD w.toNat default) X with
  | false =>
    have hs : P.set w.toNat (layI (P.getD w.toNat default) X) = P := by
      have : layI (P.getD w.toNat default) X = P.getD w.toNat default := by
        unfold layB at hb
        unfold layI
        rw [if_pos (by simpa using hb)]
      rw [this]
      refine List.ext_getElem (by simp) fun i h1 h2 => ?_
      rw [List.getElem_set]
      split
      · rename_i e; subst e; rw [List.getD_eq_getElem?_getD, List.getElem?_eq_getElem h2]; rfl
      · rfl
    rw [hb] at hlay
    rw [hs]
    refine ⟨0, true, [], false, ?_⟩
    generalize layI (P.getD w.toNat default) X = L at *
    refine PureCalls.of Try.func23 rfl (by kernel_rfl) rfl ?_
    try first | refine AOLg.of [] ?_ | refine QSg.of [] ?_
    repeat' (first | (refine AWp.pass ?_; first | refine AWp.seq ?_ | refine AWp.block ?_ | refine AWp.skip ?_ | refine AWp.regG [] Zc ?_ | refine AWp.cond_t rfl ?_ | refine AWp.cond_f rfl ?_ | (refine AWp.cond rfl ?_ ?_ <;> intro hc <;> (try rw [hc]) <;> ((try simp only [zn] at hc) <;> (try simp (disch := omega) only [zz hA, zb, zy, reduceCtorEq, Bool.false_eq_true, Int.reduceLT, Int.reduceLE, Int.reduceNeg] at hc) <;> (try simp only [zw] at hc)) <;> (try (exfalso; omega))) | refine AWp.exit ?_ | refine AWp.ret ⟨.inr rfl, _, RetOk.ev tabOk Zc, ?_⟩ | refine AWp.drawVG [] rfl (by decide +kernel) Zc ?_) | (refine AOLg.pass ?_; refine AOLg.nx hA tabOk Zc ?_; first | refine NX.done ?_ | refine NX.gt ?_ | refine NX.gf ?_ | (refine NX.gs ?_ ?_ <;> intro hc <;> rw [hc] <;> ((try simp only [zn] at hc) <;> (try simp (disch := omega) only [zz hA, zb, zy, reduceCtorEq, Bool.false_eq_true, Int.reduceLT, Int.reduceLE, Int.reduceNeg] at hc) <;> (try simp only [zw] at hc)) <;> (try (exfalso; omega))) | (refine NX.kC ?_; first | (with_reducible refine NX.call (r0) ?_) | (with_reducible refine NX.call (r1) ?_) | (with_reducible refine NX.call (n0) ?_) | (with_reducible refine NX.call (n1) ?_) | (with_reducible refine NX.call (hls) ?_) | (with_reducible refine NX.call (hmay) ?_) | (with_reducible refine NX.call (hlay _ (by simp only [rhid hA, hid_eq hA, cN, Int.toNat_natCast])) ?_) | ((first | refine NX.call (r0) ?_ | refine NX.call (r1) ?_ | refine NX.call (n0) ?_ | refine NX.call (n1) ?_ | refine NX.call (hls) ?_ | refine NX.call (hmay) ?_ | refine NX.call (hlay _ (by simp only [rhid hA, hid_eq hA, cN, Int.toNat_natCast])) ?_)) | fail) | (refine NX.kO ?_; (first | refine NX.callO (r0) (by simp [allEq]) rfl ?_ | refine NX.callO (r1) (by simp [allEq]) rfl ?_ | refine NX.callO (n0) (by simp [allEq]) rfl ?_ | refine NX.callO (n1) (by simp [allEq]) rfl ?_ | refine NX.callO (hls) (by simp [allEq]) rfl ?_ | refine NX.callO (hmay) (by simp [allEq]) rfl ?_ | refine NX.callO (hlay _ (by simp only [rhid hA, hid_eq hA, cN, Int.toNat_natCast])) (by simp [allEq]) rfl ?_)) | refine NX.k 1 (NX.one Z1 ?_) | refine NX.k 7 (NX.one Z7 ?_) | refine NX.k 8 (NX.one Z8 ?_) | refine NX.k 10 (NX.one Z10 ?_) | refine NX.k 11 (NX.one Z11 ?_) | refine NX.k 14 (NX.one Z14 ?_) | refine NX.k 15 (NX.one Z15 ?_) | refine NX.k 17 (NX.one Z17 ?_) | refine NX.k 18 (NX.one Z18 ?_) | (refine NX.one (One.indexPtr tabOk rfl rfl rfl rfl rfl (by decide) (by decide)) ?_) | refine NX.raw ?_) | (refine TRg.pass ?_; refine TRg.nx hA tabOk Zc ?_; first | refine TX.done ?_ | refine TX.gt ?_ | refine TX.gf ?_ | (refine TX.gs ?_ ?_ <;> intro hc <;> rw [hc] <;> ((try simp only [zn] at hc) <;> (try simp (disch := omega) only [zz hA, zb, zy, reduceCtorEq, Bool.false_eq_true, Int.reduceLT, Int.reduceLE, Int.reduceNeg] at hc) <;> (try simp only [zw] at hc)) <;> (try (exfalso; omega))) | (refine TX.kC ?_; first | (with_reducible refine TX.call (r0) ?_) | (with_reducible refine TX.call (r1) ?_) | (with_reducible refine TX.call (n0) ?_) | (with_reducible refine TX.call (n1) ?_) | (with_reducible refine TX.call (hls) ?_) | (with_reducible refine TX.call (hmay) ?_) | (with_reducible refine TX.call (hlay _ (by simp only [rhid hA, hid_eq hA, cN, Int.toNat_natCast])) ?_) | ((first | refine TX.call (r0) ?_ | refine TX.call (r1) ?_ | refine TX.call (n0) ?_ | refine TX.call (n1) ?_ | refine TX.call (hls) ?_ | refine TX.call (hmay) ?_ | refine TX.call (hlay _ (by simp only [rhid hA, hid_eq hA, cN, Int.toNat_natCast])) ?_)) | fail) | (refine TX.kO ?_; (first | refine TX.callO (r0) (by simp [allEq]) rfl ?_ | refine TX.callO (r1) (by simp [allEq]) rfl ?_ | refine TX.callO (n0) (by simp [allEq]) rfl ?_ | refine TX.callO (n1) (by simp [allEq]) rfl ?_ | refine TX.callO (hls) (by simp [allEq]) rfl ?_ | refine TX.callO (hmay) (by simp [allEq]) rfl ?_ | refine TX.callO (hlay _ (by simp only [rhid hA, hid_eq hA, cN, Int.toNat_natCast])) (by simp [allEq]) rfl ?_)) | refine TX.k 1 (TX.one Z1 ?_) | refine TX.k 7 (TX.one Z7 ?_) | refine TX.k 8 (TX.one Z8 ?_) | refine TX.k 10 (TX.one Z10 ?_) | refine TX.k 11 (TX.one Z11 ?_) | refine TX.k 14 (TX.one Z14 ?_) | refine TX.k 15 (TX.one Z15 ?_) | refine TX.k 17 (TX.one Z17 ?_) | refine TX.k 18 (TX.one Z18 ?_) | (refine TX.one (One.indexPtr tabOk rfl rfl rfl rfl rfl (by decide) (by decide)) ?_) | refine TX.raw ?_) | refine Fin3.of Zc (by repeat' (first | exact True.intro | exact rfl | refine And.intro ?_ ?_)) ?_ ?_ | (refine AllO.pass ?_; first | exact AllO.nil | (refine AllO.cons (One.ev hA tabOk ?_) ?_ <;> (first | refine AllO.pass ?_ | ((conv => lhs; cbv); done))) | (refine AllO.cons (One.skipB ?_) ?_ <;> (first | refine AllO.pass ?_ | ((conv => lhs; cbv); done))) | ((with_reducible refine AllO.call Zc (r0) ?_ ?_) <;> (first | refine AllO.pass ?_ | exact rfl | exact Zd)) | ((with_reducible refine AllO.call Zc (r1) ?_ ?_) <;> (first | refine AllO.pass ?_ | exact rfl | exact Zd)) | ((with_reducible refine AllO.call Zc (n0) ?_ ?_) <;> (first | refine AllO.pass ?_ | exact rfl | exact Zd)) | ((with_reducible refine AllO.call Zc (n1) ?_ ?_) <;> (first | refine AllO.pass ?_ | exact rfl | exact Zd)) | ((with_reducible refine AllO.call Zc (hls) ?_ ?_) <;> (first | refine AllO.pass ?_ | exact rfl | exact Zd)) | ((with_reducible refine AllO.call Zc (hmay) ?_ ?_) <;> (first | refine AllO.pass ?_ | exact rfl | exact Zd)) | ((with_reducible refine AllO.call Zc (hlay _ (by simp only [rhid hA, hid_eq hA, cN, Int.toNat_natCast])) ?_ ?_) <;> (first | refine AllO.pass ?_ | exact rfl | exact Zd)) | refine AllO.consX ZX rfl rfl ?_ | ((refine AllO.consX (One.indexPtr tabOk rfl rfl rfl rfl rfl (by decide) (by decide)) rfl rfl ?_) <;> (first | refine AllO.pass ?_ | exact Zd))) | refine Thn.exit ?_ | refine Blk.here ?_ | refine Blk.other (by decide) ?_ | refine ⟨.inl rfl, _, RetOk.ev tabOk Zc, ?_⟩ | fail)
    all_goals first | (exfalso; omega) | (refine rPV_then (by conv => lhs; cbv) ?_; rfl) | fail
  | true =>
    rw [hb] at hlay
    refine ⟨2, false, hid A (List.map encN ((Q.getD w.toNat default).map fun id => (X, repM K V id))), true, ?_⟩
    generalize layI (P.getD w.toNat default) X = L at *
    refine PureCalls.of Try.func23 rfl (by kernel_rfl) rfl ?_
    try first | refine AOLg.of [13] ?_ | refine QSg.of [13] ?_
    repeat' (first | (refine AWp.pass ?_; first | refine AWp.seq ?_ | refine AWp.block ?_ | refine AWp.skip ?_ | refine AWp.regG [13] Zc ?_ | refine AWp.cond_t rfl ?_ | refine AWp.cond_f rfl ?_ | (refine AWp.cond rfl ?_ ?_ <;> intro hc <;> (try rw [hc]) <;> ((try simp only [zn] at hc) <;> (try simp (disch := omega) only [zz hA, zb, zy, reduceCtorEq, Bool.false_eq_true, Int.reduceLT, Int.reduceLE, Int.reduceNeg] at hc) <;> (try simp only [zw] at hc)) <;> (try (exfalso; omega))) | refine AWp.exit ?_ | refine AWp.ret ⟨.inr rfl, _, RetOk.ev tabOk Zc, ?_⟩ | refine AWp.drawVG [13] rfl (by decide +kernel) Zc ?_) | (refine AOLg.pass ?_; refine AOLg.nx hA tabOk Zc ?_; first | refine NX.done ?_ | refine NX.gt ?_ | refine NX.gf ?_ | (refine NX.gs ?_ ?_ <;> intro hc <;> rw [hc] <;> ((try simp only [zn] at hc) <;> (try simp (disch := omega) only [zz hA, zb, zy, reduceCtorEq, Bool.false_eq_true, Int.reduceLT, Int.reduceLE, Int.reduceNeg] at hc) <;> (try simp only [zw] at hc)) <;> (try (exfalso; omega))) | (refine NX.kC ?_; first | (with_reducible refine NX.call (r0) ?_) | (with_reducible refine NX.call (r1) ?_) | (with_reducible refine NX.call (n0) ?_) | (with_reducible refine NX.call (n1) ?_) | (with_reducible refine NX.call (hls) ?_) | (with_reducible refine NX.call (hmay) ?_) | (with_reducible refine NX.call (hlay _ (by simp only [rhid hA, hid_eq hA, cN, Int.toNat_natCast])) ?_) | ((first | refine NX.call (r0) ?_ | refine NX.call (r1) ?_ | refine NX.call (n0) ?_ | refine NX.call (n1) ?_ | refine NX.call (hls) ?_ | refine NX.call (hmay) ?_ | refine NX.call (hlay _ (by simp only [rhid hA, hid_eq hA, cN, Int.toNat_natCast])) ?_)) | fail) | (refine NX.kO ?_; (first | refine NX.callO (r0) (by simp [allEq]) rfl ?_ | refine NX.callO (r1) (by simp [allEq]) rfl ?_ | refine NX.callO (n0) (by simp [allEq]) rfl ?_ | refine NX.callO (n1) (by simp [allEq]) rfl ?_ | refine NX.callO (hls) (by simp [allEq]) rfl ?_ | refine NX.callO (hmay) (by simp [allEq]) rfl ?_ | refine NX.callO (hlay _ (by simp only [rhid hA, hid_eq hA, cN, Int.toNat_natCast])) (by simp [allEq]) rfl ?_)) | refine NX.k 1 (NX.one Z1 ?_) | refine NX.k 7 (NX.one Z7 ?_) | refine NX.k 8 (NX.one Z8 ?_) | refine NX.k 10 (NX.one Z10 ?_) | refine NX.k 11 (NX.one Z11 ?_) | refine NX.k 14 (NX.one Z14 ?_) | refine NX.k 15 (NX.one Z15 ?_) | refine NX.k 17 (NX.one Z17 ?_) | refine NX.k 18 (NX.one Z18 ?_) | (refine NX.one (One.indexPtr tabOk rfl rfl rfl rfl rfl (by decide) (by decide)) ?_) | (refine NX.one (One.nilOwn tabOk 13 53 rfl rfl rfl) ?_) | refine NX.raw ?_) | (refine TRg.pass ?_; refine TRg.nx hA tabOk Zc ?_; first | refine TX.done ?_ | refine TX.gt ?_ | refine TX.gf ?_ | (refine TX.gs ?_ ?_ <;> intro hc <;> rw [hc] <;> ((try simp only [zn] at hc) <;> (try simp (disch := omega) only [zz hA, zb, zy, reduceCtorEq, Bool.false_eq_true, Int.reduceLT, Int.reduceLE, Int.reduceNeg] at hc) <;> (try simp only [zw] at hc)) <;> (try (exfalso; omega))) | (refine TX.kC ?_; first | (with_reducible refine TX.call (r0) ?_) | (with_reducible refine TX.call (r1) ?_) | (with_reducible refine TX.call (n0) ?_) | (with_reducible refine TX.call (n1) ?_) | (with_reducible refine TX.call (hls) ?_) | (with_reducible refine TX.call (hmay) ?_) | (with_reducible refine TX.call (hlay _ (by simp only [rhid hA, hid_eq hA, cN, Int.toNat_natCast])) ?_) | ((first | refine TX.call (r0) ?_ | refine TX.call (r1) ?_ | refine TX.call (n0) ?_ | refine TX.call (n1) ?_ | refine TX.call (hls) ?_ | refine TX.call (hmay) ?_ | refine TX.call (hlay _ (by simp only [rhid hA, hid_eq hA, cN, Int.toNat_natCast])) ?_)) | fail) | (refine TX.kO ?_; (first | refine TX.callO (r0) (by simp [allEq]) rfl ?_ | refine TX.callO (r1) (by simp [allEq]) rfl ?_ | refine TX.callO (n0) (by simp [allEq]) rfl ?_ | refine TX.callO (n1) (by simp [allEq]) rfl ?_ | refine TX.callO (hls) (by simp [allEq]) rfl ?_ | refine TX.callO (hmay) (by simp [allEq]) rfl ?_ | refine TX.callO (hlay _ (by simp only [rhid hA, hid_eq hA, cN, Int.toNat_natCast])) (by simp [allEq]) rfl ?_)) | refine TX.k 1 (TX.one Z1 ?_) | refine TX.k 7 (TX.one Z7 ?_) | refine TX.k 8 (TX.one Z8 ?_) | refine TX.k 10 (TX.one Z10 ?_) | refine TX.k 11 (TX.one Z11 ?_) | refine TX.k 14 (TX.one Z14 ?_) | refine TX.k 15 (TX.one Z15 ?_) | refine TX.k 17 (TX.one Z17 ?_) | refine TX.k 18 (TX.one Z18 ?_) | (refine TX.one (One.indexPtr tabOk rfl rfl rfl rfl rfl (by decide) (by decide)) ?_) | (refine TX.one (One.nilOwn tabOk 13 53 rfl rfl rfl) ?_) | refine TX.raw ?_) | refine Fin3.of Zc (by repeat' (first | exact True.intro | exact rfl | refine And.intro ?_ ?_)) ?_ ?_ | (refine AllO.pass ?_; first | exact AllO.nil | (refine AllO.cons (One.ev hA tabOk ?_) ?_ <;> (first | refine AllO.pass ?_ | ((conv => lhs; cbv); done))) | (refine AllO.cons (One.skipB ?_) ?_ <;> (first | refine AllO.pass ?_ | ((conv => lhs; cbv); done))) | ((with_reducible refine AllO.call Zc (r0) ?_ ?_) <;> (first | refine AllO.pass ?_ | exact rfl | exact Zd)) | ((with_reducible refine AllO.call Zc (r1) ?_ ?_) <;> (first | refine AllO.pass ?_ | exact rfl | exact Zd)) | ((with_reducible refine AllO.call Zc (n0) ?_ ?_) <;> (first | refine AllO.pass ?_ | exact rfl | exact Zd)) | ((with_reducible refine AllO.call Zc (n1) ?_ ?_) <;> (first | refine AllO.pass ?_ | exact rfl | exact Zd)) | ((with_reducible refine AllO.call Zc (hls) ?_ ?_) <;> (first | refine AllO.pass ?_ | exact rfl | exact Zd)) | ((with_reducible refine AllO.call Zc (hmay) ?_ ?_) <;> (first | refine AllO.pass ?_ | exact rfl | exact Zd)) | ((with_reducible refine AllO.call Zc (hlay _ (by simp only [rhid hA, hid_eq hA, cN, Int.toNat_natCast])) ?_ ?_) <;> (first | refine AllO.pass ?_ | exact rfl | exact Zd)) | refine AllO.consX ZX rfl rfl ?_ | ((refine AllO.consX (One.indexPtr tabOk rfl rfl rfl rfl rfl (by decide) (by decide)) rfl rfl ?_) <;> (first | refine AllO.pass ?_ | exact Zd))) | refine Thn.exit ?_ | refine Blk.here ?_ | refine Blk.other (by decide) ?_ | refine ⟨.inl rfl, _, RetOk.ev tabOk Zc, ?_⟩ | fail)
    all_goals try (exfalso; omega)
    rw [show (A (.hid Int) fun _ => w) = w from rhid hA _]
    rw [hid_eq hA w] at hwi
    obtain ⟨f1, hf1⟩ : ∃ f1 : Int → Int × Int, f1 = fun id => (X, repM K V id) := ⟨_, rfl⟩
    obtain ⟨pre, hpD⟩ : ∃ pre, pre = Q.getD w.toNat default := ⟨_, rfl⟩
    have hpl : (Q.getD w.toNat default).length = pre.length := by rw [hpD]
    rw [← hf1, ← hpD]
    refine AWp.loopU (fun x : Nat × Nat => [(21, .ic (.lit (.int .i64 (hid A (cN x.1))))), (13, .own 4 x.2)]) (fun x => [.var true 26 [.ic (.sl 1 false (hid A (List.map (encK A) K))), .ic (.sl 1 false (hid A (List.map encI S)))], .var true 31 [.ic (.sl 1 false (hid A (List.map encI R))), .ic (.sl 1 false (hid A (List.map encI V))), .ic (.sl 2 false (hid A (List.map encN N))), .ic (.sl 1 false (hid A (List.map encI M))), .ic (.sl 1 false (hid A (List.map (encK A) P))), .ic (.sl 1 false (hid A (List.map (encK A) Q)))], .var true 58 [.ic (.lit (.int .i64 p0)), .ic (.lit (.int .i64 p1))], .var true 31 [.ic (.sl 0 true []), .ic (.sl 0 true []), .ic (.sl 0 true []), .ic (.sl 0 true []), .ic (.sl 0 true []), .ic (.sl 0 true [])], .row true x.2 58 2 (hid A (List.map encN ((pre.take x.1).map f1)))]) (fun x => pre.length - x.1) (fun x => x.1 ≤ pre.length) (0, 0) (by conv => lhs; cbv) (Nat.zero_le _) (by ((repeat' (first | exact subE.nil | refine subE.cons rfl ?_ | refine subE.int rfl ?_ ?_ | refine subE.bool rfl ?_ ?_ | refine subE.str rfl ?_ ?_ | refine subE.sl rfl ?_ ?_))) <;> first | rfl | simp [hA, real, hid, cN]) (by simp [hid_eq hA]) ?_
    rintro ⟨k, u⟩ hk
    simp only at hk ⊢
    by_cases hlt : k < pre.length
    · have hln : ((pre.take k).map f1).length = k := by simp; omega
      have hnx := takeMap f1 pre k hlt
      generalize hT2 : (pre.take (k + 1)).map f1 = T2 at *
      generalize (pre.take k).map f1 = T at *
      try first | refine AOLg.of [] ?_ | refine QSg.of [] ?_
      repeat' (first | (refine AWp.pass ?_; first | refine AWp.seq ?_ | refine AWp.block ?_ | refine AWp.skip ?_ | refine AWp.regG [] Zc ?_ | refine AWp.cond_t rfl ?_ | refine AWp.cond_f rfl ?_ | (refine AWp.cond rfl ?_ ?_ <;> intro hc <;> (try rw [hc]) <;> ((try simp only [zn] at hc) <;> (try simp (disch := omega) only [zz hA, zb, zy, reduceCtorEq, Bool.false_eq_true, Int.reduceLT, Int.reduceLE, Int.reduceNeg] at hc) <;> (try simp only [zw] at hc)) <;> (try (exfalso; omega))) | refine AWp.exit ?_ | refine AWp.ret ⟨.inr rfl, _, RetOk.ev tabOk Zc, ?_⟩ | refine W.AWp.drawVG [] rfl (by decide +kernel) Zc ?_) | (refine AOLg.pass ?_; refine AOLg.nx hA tabOk Zc ?_; first | refine NX.done ?_ | refine NX.gt ?_ | refine NX.gf ?_ | (refine NX.gs ?_ ?_ <;> intro hc <;> rw [hc] <;> ((try simp only [zn] at hc) <;> (try simp (disch := omega) only [zz hA, zb, zy, reduceCtorEq, Bool.false_eq_true, Int.reduceLT, Int.reduceLE, Int.reduceNeg] at hc) <;> (try simp only [zw] at hc)) <;> (try (exfalso; omega))) | (refine NX.kC ?_; first | (with_reducible refine NX.call (hrep _) ?_) | ((first | refine NX.call (hrep _) ?_)) | fail) | (refine NX.kO ?_; (first | refine NX.callO (hrep _) (by simp [allEq]) rfl ?_)) | refine NX.k 1 (NX.one Z1 ?_) | refine NX.k 7 (NX.one Z7 ?_) | refine NX.k 8 (NX.one Z8 ?_) | refine NX.k 10 (NX.one Z10 ?_) | refine NX.k 11 (NX.one Z11 ?_) | refine NX.k 14 (NX.one Z14 ?_) | refine NX.k 15 (NX.one Z15 ?_) | refine NX.k 17 (NX.one Z17 ?_) | refine NX.k 18 (NX.one Z18 ?_) | (refine NX.one (One.elemM hA tabOk rfl rfl rfl rfl Zd Zd) ?_) | (refine NX.one (One.buildArr tabOk rfl rfl rfl rfl rfl rfl) ?_) | (refine NX.one (One.appendOwnM hA tabOk (f := encN) (f1 (pre.getD k default)) rfl rfl rfl rfl rfl rfl (by simp only [encN, hf1, hpD, rhid hA, hid_eq hA, cN, Int.toNat_natCast]) Zd Zd) ?_) | refine NX.raw ?_) | (refine W.TRg.pass ?_; refine W.TRg.nx hA tabOk Zc ?_; first | refine W.TX.done ?_ | refine W.TX.gt ?_ | refine W.TX.gf ?_ | (refine W.TX.gs ?_ ?_ <;> intro hc <;> rw [hc] <;> ((try simp only [zn] at hc) <;> (try simp (disch := omega) only [zz hA, zb, zy, reduceCtorEq, Bool.false_eq_true, Int.reduceLT, Int.reduceLE, Int.reduceNeg] at hc) <;> (try simp only [zw] at hc)) <;> (try (exfalso; omega))) | (refine W.TX.kC ?_; first | (with_reducible refine W.TX.call (hrep _) ?_) | ((first | refine W.TX.call (hrep _) ?_)) | fail) | (refine W.TX.kO ?_; (first | refine W.TX.callO (hrep _) (by simp [allEq]) rfl ?_)) | refine W.TX.k 1 (W.TX.one Z1 ?_) | refine W.TX.k 7 (W.TX.one Z7 ?_) | refine W.TX.k 8 (W.TX.one Z8 ?_) | refine W.TX.k 10 (W.TX.one Z10 ?_) | refine W.TX.k 11 (W.TX.one Z11 ?_) | refine W.TX.k 14 (W.TX.one Z14 ?_) | refine W.TX.k 15 (W.TX.one Z15 ?_) | refine W.TX.k 17 (W.TX.one Z17 ?_) | refine W.TX.k 18 (W.TX.one Z18 ?_) | (refine W.TX.one (One.elemM hA tabOk rfl rfl rfl rfl Zd Zd) ?_) | (refine W.TX.one (One.buildArr tabOk rfl rfl rfl rfl rfl rfl) ?_) | (refine W.TX.one (One.appendOwnM hA tabOk (f := encN) (f1 (pre.getD k default)) rfl rfl rfl rfl rfl rfl (by simp only [encN, hf1, hpD, rhid hA, hid_eq hA, cN, Int.toNat_natCast]) Zd Zd) ?_) | refine W.TX.raw ?_) | refine W.Fin3.of Zc (by repeat' (first | exact True.intro | exact rfl | refine And.intro ?_ ?_)) ?_ ?_ | (refine W.AllO.pass ?_; first | exact W.AllO.nil | (refine W.AllO.cons (One.ev hA tabOk ?_) ?_ <;> (first | refine W.AllO.pass ?_ | ((conv => lhs; cbv); done))) | (refine W.AllO.cons (One.skipB ?_) ?_ <;> (first | refine W.AllO.pass ?_ | ((conv => lhs; cbv); done))) | ((with_reducible refine W.AllO.call Zc (hrep _) ?_ ?_) <;> (first | refine W.AllO.pass ?_ | exact rfl | exact Zd)) | refine W.AllO.consX ZX rfl rfl ?_ | ((refine W.AllO.consX (One.elemM hA tabOk rfl rfl rfl rfl Zd Zd) rfl rfl ?_) <;> (first | refine W.AllO.pass ?_ | exact Zd)) | ((refine W.AllO.consX (One.buildArr tabOk rfl rfl rfl rfl rfl rfl) rfl rfl ?_) <;> (first | refine W.AllO.pass ?_ | exact Zd))) | refine Thn.exit ?_ | refine Blk.here ?_ | refine Blk.other (by decide) ?_ | refine ⟨.inl rfl, _, RetOk.ev tabOk Zc, ?_⟩ | fail)
      all_goals try (exfalso; omega)
      refine ⟨(k + 1, u + 1), by simp only; omega, by simp only; omega, rfl, ?_, ?_, Zk⟩
      · simp only [hT2, hnx]
      · (repeat' (first | exact subE.nil | refine subE.cons rfl ?_ | refine subE.int rfl ?_ ?_ | refine subE.bool rfl ?_ ?_ | refine subE.str rfl ?_ ?_ | refine subE.sl rfl ?_ ?_))
        all_goals first | rfl | exact Zd
    · rw [show pre.take k = pre from List.take_of_length_le (by omega)]
      try first | refine AOLg.of [] ?_ | refine QSg.of [] ?_
      repeat' (first | (refine AWp.pass ?_; first | refine AWp.seq ?_ | refine AWp.block ?_ | refine AWp.skip ?_ | refine AWp.regG [] Zc ?_ | refine AWp.cond_t rfl ?_ | refine AWp.cond_f rfl ?_ | (refine AWp.cond rfl ?_ ?_ <;> intro hc <;> (try rw [hc]) <;> ((try simp only [zn] at hc) <;> (try simp (disch := omega) only [zz hA, zb, zy, reduceCtorEq, Bool.false_eq_true, Int.reduceLT, Int.reduceLE, Int.reduceNeg] at hc) <;> (try simp only [zw] at hc)) <;> (try (exfalso; omega))) | refine AWp.exit ?_ | refine AWp.ret ⟨.inr rfl, _, RetOk.ev tabOk Zc, ?_⟩ | refine AWp.drawVG [] rfl (by decide +kernel) Zc ?_) | (refine AOLg.pass ?_; refine AOLg.nx hA tabOk Zc ?_; first | refine NX.done ?_ | refine NX.gt ?_ | refine NX.gf ?_ | (refine NX.gs ?_ ?_ <;> intro hc <;> rw [hc] <;> ((try simp only [zn] at hc) <;> (try simp (disch := omega) only [zz hA, zb, zy, reduceCtorEq, Bool.false_eq_true, Int.reduceLT, Int.reduceLE, Int.reduceNeg] at hc) <;> (try simp only [zw] at hc)) <;> (try (exfalso; omega))) | (refine NX.kC ?_; first | (with_reducible refine NX.call (hwi) ?_) | ((first | refine NX.call (hwi) ?_)) | fail) | (refine NX.kO ?_; (first | refine NX.callO (hwi) (by simp [allEq]) rfl ?_)) | refine NX.k 1 (NX.one Z1 ?_) | refine NX.k 7 (NX.one Z7 ?_) | refine NX.k 8 (NX.one Z8 ?_) | refine NX.k 10 (NX.one Z10 ?_) | refine NX.k 11 (NX.one Z11 ?_) | refine NX.k 14 (NX.one Z14 ?_) | refine NX.k 15 (NX.one Z15 ?_) | refine NX.k 17 (NX.one Z17 ?_) | refine NX.k 18 (NX.one Z18 ?_) | refine NX.raw ?_) | (refine TRg.pass ?_; refine TRg.nx hA tabOk Zc ?_; first | refine TX.done ?_ | refine TX.gt ?_ | refine TX.gf ?_ | (refine TX.gs ?_ ?_ <;> intro hc <;> rw [hc] <;> ((try simp only [zn] at hc) <;> (try simp (disch := omega) only [zz hA, zb, zy, reduceCtorEq, Bool.false_eq_true, Int.reduceLT, Int.reduceLE, Int.reduceNeg] at hc) <;> (try simp only [zw] at hc)) <;> (try (exfalso; omega))) | (refine TX.kC ?_; first | (with_reducible refine TX.call (hwi) ?_) | ((first | refine TX.call (hwi) ?_)) | fail) | (refine TX.kO ?_; (first | refine TX.callO (hwi) (by simp [allEq]) rfl ?_)) | refine TX.k 1 (TX.one Z1 ?_) | refine TX.k 7 (TX.one Z7 ?_) | refine TX.k 8 (TX.one Z8 ?_) | refine TX.k 10 (TX.one Z10 ?_) | refine TX.k 11 (TX.one Z11 ?_) | refine TX.k 14 (TX.one Z14 ?_) | refine TX.k 15 (TX.one Z15 ?_) | refine TX.k 17 (TX.one Z17 ?_) | refine TX.k 18 (TX.one Z18 ?_) | refine TX.raw ?_) | refine Fin3.of Zc (by repeat' (first | exact True.intro | exact rfl | refine And.intro ?_ ?_)) ?_ ?_ | (refine AllO.pass ?_; first | exact AllO.nil | (refine AllO.cons (One.ev hA tabOk ?_) ?_ <;> (first | refine AllO.pass ?_ | ((conv => lhs; cbv); done))) | (refine AllO.cons (One.skipB ?_) ?_ <;> (first | refine AllO.pass ?_ | ((conv => lhs; cbv); done))) | ((with_reducible refine AllO.call Zc (hwi) ?_ ?_) <;> (first | refine AllO.pass ?_ | exact rfl | exact Zd)) | refine AllO.consX ZX rfl rfl ?_) | refine Thn.exit ?_ | refine Blk.here ?_ | refine Blk.other (by decide) ?_ | refine ⟨.inl rfl, _, RetOk.ev tabOk Zc, ?_⟩ | fail)
      all_goals try (exfalso; omega)
      all_goals
        show rPV _ _ = some _
        rw [rPV_gr4 (k := 4) rfl]
end Go.Proofs.Ytkkjlmcnfoncdaa.Aw

namespace Go.Proofs.Ytkkjlmcnfoncdaa.Aw
open Go Go.RowKit
set_option maxRecDepth 10000
attribute [local irreducible] AWp AOL QS One AOLg QSg NX QX TRg TX AllO Fin3
attribute [local irreducible] W.TRg W.TX W.AllO W.Fin3
def K4 : List (List Int) := [[0, 0, 0], [1, 0, 0], [2, 0, 0], [2, 1, 0]]
theorem k4_ok : StK K4 (layM K4) where
  ok := ⟨by decide +kernel, by decide +kernel, by decide +kernel⟩
  lay := rfl
  len := by decide +kernel
  keys := by decide +kernel
theorem v2_find : findU [0, 1] 0 = 0 ∧ findU [0, 1] 1 = 1 := by decide +kernel
theorem v2_right : RightU [0, 1] [] := (rightB_iff _ _).1 (by decide +kernel)
variable {A : Ar} (hA : A = real)
include hA
theorem k4_rows : ILxr [[.sl 1 true [[.lit (.int .i64 0)], [.lit (.int .i64 0)], [.lit (.int .i64 0)]]], [.sl 1 true [[.lit (.int .i64 1)], [.lit (.int .i64 0)], [.lit (.int .i64 0)]]], [.sl 1 true [[.lit (.int .i64 2)], [.lit (.int .i64 0)], [.lit (.int .i64 0)]]], [.sl 1 true [[.lit (.int .i64 2)], [.lit (.int .i64 1)], [.lit (.int .i64 0)]]]] (hid A (List.map (encK A) K4)) := by
  rw [hid_eq hA, show List.map (encK A) K4 = [[.sl 1 false (List.map encI [0, 0, 0])], [.sl 1 false (List.map encI [1, 0, 0])], [.sl 1 false (List.map encI [2, 0, 0])], [.sl 1 false (List.map encI [2, 1, 0])]] by simp only [K4, List.map, encK, hid_eq hA]]
  exact .cons (.cons (.ex _ _ _) .nil) (.cons (.cons (.ex _ _ _) .nil) (.cons (.cons (.ex _ _ _) .nil) (.cons (.cons (.ex _ _ _) .nil) .nil)))
def K2 : List (List Int) := [[], []]
def K2' : List (List Int) := [[], [2]]
end Go.Proofs.Ytkkjlmcnfoncdaa.Aw
